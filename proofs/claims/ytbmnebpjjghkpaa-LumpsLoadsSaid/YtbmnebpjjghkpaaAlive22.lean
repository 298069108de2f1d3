/- What is played: alive, build. -/
import Derived.Test.YtbmnebpjjghkpaaProg
import Derived.Test.YtbmnebpjjghkpaaRef22Good
import Derived.Test.YtbmnebpjjghkpaaVals
namespace Go.Proofs.Ytbmnebpjjghkpaa
open Go.RowKit

theorem kin {B : Nat} {w wr w' : World} {S S' : List Nat} {X X' : Prop} (h : Two B w wr S [] X True) (hg : GrownS S S' wr.heap.size) (hX : X') (hlt : ∀ k ∈ S', k < w'.heap.size) (hF : Frame S wr w') : Two B w w' S' [] X' True :=
  h.stepX hg hX hlt hF trivial

theorem alive_any (w : World) : Calls Try.prog 9 #[] w fun e w' => e = .returned (.bool true) ∧ Below w.heap.size w w' := by
  go_enter Try.func9, Try.ntmps9
  go_wp2_with fail
  refine (knew_any 2 w (by omega) (by omega)).mono ?_
  rintro e w1 ⟨⟨b, rfl, hb, hC⟩, hb1⟩
  have T1 : Hid (Two w.heap.size w w1 [b] [] (Sk w1 b [b] 2 []) True) := ⟨hC, trivial, fun k hk => by have := hC.lt k hk; simp at hk; omega, fun k hk => by simp at hk, fun k hk hn => by simp at hn, hb1, hb1.size⟩
  clear hb hC hb1
  go_wp2_with fail
  refine (kput_any b [b] 2 [] 1 1 w1 T1.out.x (by omega) (by simp) (by omega) (by rw [sumN_nil]; omega) (by omega)).mono ?_
  rintro e w2 ⟨rfl, S2, hg2, hC2, hF2⟩
  rw [show press 2 (laid [] (1, 1, 1)) = [(1, 1, 1)] by decide +kernel] at hC2
  have T2 := Lib.hid (kin T1.out hg2 hC2 hC2.lt hF2)
  clear hg2 hC2 hF2 T1
  go_wp2_with fail
  refine (kput_any b S2 2 _ 2 1 w2 T2.out.x (by omega) (by simp) (by omega) (by decide +kernel) (by omega)).mono ?_
  rintro e w3 ⟨rfl, S3, hg3, hC3, hF3⟩
  rw [show press 2 (laid [(1, 1, 1)] (1, 2, 2)) = [(1, 1, 1), (1, 2, 2)] by decide +kernel] at hC3
  have T3 := Lib.hid (kin T2.out hg3 hC3 hC3.lt hF3)
  clear hg3 hC3 hF3 T2
  go_wp2_with fail
  refine (kput_any b S3 2 _ 3 1 w3 T3.out.x (by omega) (by simp) (by omega) (by decide +kernel) (by omega)).mono ?_
  rintro e w4 ⟨rfl, S4, hg4, hC4, hF4⟩
  rw [show press 2 (laid [(1, 1, 1), (1, 2, 2)] (1, 3, 3)) = [(2, 1, 2), (1, 3, 3)] by decide +kernel] at hC4
  have T4 := Lib.hid (kin T3.out hg4 hC4 hC4.lt hF4)
  clear hg4 hC4 hF4 T3
  go_wp2_with fail
  refine (klumps_any b S4 2 _ _ w4 T4.out.x.r (by simp)).mono ?_
  rintro e w5 ⟨A5, c5, rfl, ho, hb⟩
  have T5 := Lib.hid (T4.out.belowW hb (fun k => k.below hb) id)
  obtain ⟨g, o, rfl, hg, c1, c2, c3⟩ := ho.rd.at 0 (by simp)
  dsimp only [List.length_cons, List.length_nil, List.getElem_cons_zero] at c1 c2 c3 ⊢
  have HFB := Lib.hid (T5.out.fin (Below.refl _ _))
  have HT := Lib.hid (ktotal_any b S4 2 _ _ w5 T5.out.x.r)
  rw [show sumN [(2, 1, 2), (1, 3, 3)] = 3 by decide] at HT
  clear ho hb T4 T5
  go_wp2_with fail
  refine HT.out.mono ?_
  rintro e w6 ⟨rfl, rfl⟩
  clear HT
  go_wp2
  go_ret
  exact ⟨rfl, HFB.out⟩

/-- What is played. -/
structure PlayK (most : Int) (l : List (Int × Int)) : Prop where
  n : l.length ≤ 60
  m : 2 ≤ most ∧ most ≤ 64
  c : ∀ x ∈ l, 0 < x.2 ∧ x.2 ≤ 1125899906842624
def playL (most : Int) (l : List (Int × Int)) : List Lu := l.foldl (fun ls v => press most (laid ls (v.2, v.1, v.1))) []
theorem playL_take (most : Int) (l : List (Int × Int)) (k : Nat) (hk : k < l.length) : playL most (l.take (k + 1)) = press most (laid (playL most (l.take k)) ((l[k]'hk).2, (l[k]'hk).1, (l[k]'hk).1)) := by
  unfold playL; rw [List.take_succ_eq_append_getElem hk, List.foldl_append]; rfl
/-- What is known of what is played. -/
structure PlK (most : Int) (l : List (Int × Int)) (ls : List Lu) : Prop where
  gd : GdL ls
  sm : sumN ls = sumP l
  ln : (ls.length : Int) ≤ most
  rg : okP l → rngL ls
theorem vsum_le : ∀ {l : List (Int × Int)}, (∀ x ∈ l, 0 < x.2 ∧ x.2 ≤ 1125899906842624) → 0 ≤ sumP l ∧ sumP l ≤ l.length * 1125899906842624
  | [], _ => by simp [sumP]
  | x :: l, h => by
    have h1 := h x (by simp)
    have h2 := vsum_le (l := l) fun y hy => h y (by simp [hy])
    unfold sumP at *
    simp only [List.map_cons, List.sum_cons, List.length_cons]
    omega
theorem playL_snoc (most : Int) (l : List (Int × Int)) (v : Int × Int) : playL most (l ++ [v]) = press most (laid (playL most l) (v.2, v.1, v.1)) := by
  unfold playL; rw [List.foldl_append]; rfl
theorem playK {most : Int} (hm : 2 ≤ most) : ∀ (l : List (Int × Int)), (∀ x ∈ l, 0 < x.2) → PlK most l (playL most l) := by
  intro l
  have h : ∀ n (l : List (Int × Int)), l.length = n → (∀ x ∈ l, 0 < x.2) → PlK most l (playL most l) := by
    intro n
    induction n with
    | zero => intro l hl _; rw [List.eq_nil_of_length_eq_zero hl]; exact ⟨GdL.nil, rfl, by show (0 : Int) ≤ most; omega, fun _ x hx => by simp [playL] at hx⟩
    | succ n ih =>
      intro l hl hp
      have hne : l ≠ [] := fun e => by rw [e] at hl; simp at hl
      rw [← List.dropLast_concat_getLast hne] at hp ⊢
      obtain ⟨v, hv⟩ : ∃ v, l.getLast hne = v := ⟨_, rfl⟩
      rw [hv] at hp ⊢
      have h1 := ih l.dropLast (by rw [List.length_dropLast]; omega) fun x hx => hp x (by simp [hx])
      have h2 := hp v (by simp)
      rw [playL_snoc]
      have hg := laid_gd (l := (v.2, v.1, v.1)) h1.gd h2 (Int.le_refl _)
      have hk := press_ok (most := most) (by omega) hg
      refine ⟨hk.1, ?_, hk.2.2, fun ho => ?_⟩
      · rw [hk.2.1, sumN_laid, h1.sm]
        unfold sumP
        rw [List.map_append, List.sum_append]
        simp
      · have h3 := ho v (by simp)
        exact rngL_press (by omega) (rngL_laid (h1.rg fun x hx => ho x (by simp [hx])) ⟨h3.1, h3.1⟩)
  exact h _ l rfl
section
variable {most : Int} {l : List (Int × Int)}
theorem PlayK.take (h : PlayK most l) (k : Nat) : PlayK most (l.take k) := ⟨by rw [List.length_take]; have := h.n; omega, h.m, fun x hx => h.c x (List.mem_of_mem_take hx)⟩
theorem PlayK.pl (h : PlayK most l) : PlK most l (playL most l) := playK h.m.1 l fun x hx => (h.c x hx).1
theorem PlayK.sum (h : PlayK most l) : 0 ≤ sumP l ∧ sumP l ≤ 67553994410557440 := by have := vsum_le h.c; have := h.n; omega
theorem PlayK.len (h : PlayK most l) : (playL most l).length ≤ 64 := by have := h.pl.ln; have := h.m; omega
end

/-- Both lie side by side. -/
def BothK (B : Nat) (w wr : World) (b m : Nat) (S T : List Nat) (most : Int) (ls : List Lu) : Prop := Two B w wr S T (Sk wr b S most ls) (DocK wr m T most ls)
theorem BothK.abide {B : Nat} {w wr w' : World} {b m : Nat} {S T : List Nat} {most : Int} {ls : List Lu} (h : BothK B w wr b m S T most ls) (hb : Below wr.heap.size wr w') : BothK B w w' b m S T most ls :=
  Two.belowW h hb (fun k => k.below hb) (fun k => k.below hb)
theorem Two.newY {B : Nat} {w wr w' : World} {S T : List Nat} {X X' Y Y0 : Prop} (h : Two B w wr S [] X Y0) (hb : Below wr.heap.size wr w') (hX : X → X') (hT : Within T wr.heap.size w'.heap.size) (hY : Y) : Two B w w' S T X' Y :=
  ⟨hX h.x, hY, h.ws.mono hb.size, fun k hk => ⟨Nat.le_trans h.size (hT k hk).1, (hT k hk).2⟩, fun k hk hn => by have := (h.ws k hk).2; have := (hT k hn).1; omega, h.below.trans (hb.mono h.size), Nat.le_trans h.size hb.size⟩
/-- What build answers. -/
def BuildK (most : Int) (l : List (Int × Int)) (w : World) (e : Ending) (w' : World) : Prop :=
  (¬ PlayK most l ∧ e = .returned (.tuple #[.pointer none, .pointer none, .bool false]) ∧ Below w.heap.size w w') ∨
  (PlayK most l ∧ ∃ b m S T, e = .returned (.tuple #[.pointer (some ⟨b, 0, none⟩), .pointer (some ⟨m, 0, none⟩), .bool true]) ∧ BothK w.heap.size w w' b m S T most (playL most l))

set_option maxRecDepth 100000 in
set_option maxHeartbeats 2000000 in
theorem build_any (A : Option Addr) (len cap : Nat) (l : List (Int × Int)) (most : Int) (w : World) (hl : l.length = len) (hm : len ≤ 9223372036854775807) (hR : RdP w A l) (hok : okP l) :
    Calls Try.prog 10 #[.int .i64 most, .slice A len cap] w fun e w' => BuildK most l w e w' := by
  have HR := Lib.hid hR
  have HO := Lib.hid hok
  have HLN := Lib.hid hl
  clear hR hok hl
  by_cases hlen : (60 : Int) < len
  · have HN : Hid (¬ PlayK most l) := fun h => by have := h.n; have := HLN.out; omega
    go_enter Try.func10, Try.ntmps10
    go_wp2
    go_ret3
    exact .inl ⟨HN.out, rfl, Below.refl _ _⟩
  · have hd0 : decide ((60 : Int) < len) = false := decide_eq_false hlen
    have hd0' : decide (60 < len) = false := decide_eq_false (by omega)
    by_cases hm1 : most < 2
    · have HN : Hid (¬ PlayK most l) := fun h => by have := h.m; omega
      have hd1 : decide (most < 2) = true := decide_eq_true hm1
      go_enter Try.func10, Try.ntmps10
      go_wp2
      go_ret3
      exact .inl ⟨HN.out, rfl, Below.refl _ _⟩
    · have hd1 : decide (most < 2) = false := decide_eq_false hm1
      by_cases hm2 : 64 < most
      · have HN : Hid (¬ PlayK most l) := fun h => by have := h.m; omega
        have hd2 : decide (64 < most) = true := decide_eq_true hm2
        go_enter Try.func10, Try.ntmps10
        go_wp2
        go_ret3
        exact .inl ⟨HN.out, rfl, Below.refl _ _⟩
      · have hd2 : decide (64 < most) = false := decide_eq_false hm2
        have HM : Hid (len ≤ 60 ∧ 2 ≤ most ∧ most ≤ 64) := ⟨by omega, by omega, by omega⟩
        have hm60 : len ≤ 60 := by omega
        clear hm hlen hm1 hm2
        go_enter Try.func10, Try.ntmps10
        go_wp2_with fail
        refine (knew_any most w HM.out.2.1 HM.out.2.2).mono ?_
        rintro e w1 ⟨⟨b, rfl, hb, hC⟩, hb1⟩
        have T1 : Hid (Two w.heap.size w w1 [b] [] (Sk w1 b [b] most []) True) := ⟨hC, trivial, fun k hk => by have := hC.lt k hk; simp at hk; omega, fun k hk => by simp at hk, fun k hk hn => by simp at hn, hb1, hb1.size⟩
        obtain ⟨m, hmm⟩ : ∃ m, w1.heap.size = m := ⟨_, rfl⟩
        have HB2 : Hid (BothK w.heap.size w (w1.alloc (.cells #[.int .i64 most, .slice none 0 0] 37)) b m [b] [m] most (playL most (l.take 0))) := by
          subst hmm
          have a1 := At.new w1 #[.int .i64 most, .slice none 0 0] 37
          have hb : Below w1.heap.size w1 (w1.alloc (.cells #[.int .i64 most, .slice none 0 0] 37)) := (Below.refl _ _).alloc (Nat.le_refl _) _
          exact T1.out.newY hb (fun k => k.below hb) (fun k hk => by have := a1.lt; simp at hk; subst hk; omega) ⟨none, 0, rfl, a1, Own3D.nil _ _, by simp [blk]⟩
        clear hb hC hb1 T1 hd0 hd0' hd1 hd2
        go_wp2
        try rw [hmm]
        generalize w1.alloc (.cells #[.int .i64 most, .slice none 0 0] 37) = w2 at HB2 ⊢
        clear hmm
        go_loopw [11, 33] (fun _ i wr => ∃ k : Nat, ∃ S T, k ≤ len ∧ i = .int .i64 k ∧ Hid (∀ x ∈ l.take k, 0 < x.2 ∧ x.2 ≤ 1125899906842624) ∧ Hid (BothK w.heap.size w wr b m S T most (playL most (l.take k)))) (fun _ i _ => len - (intOf i).toNat)
        case atStart => exact ⟨0, [b], [m], by omega, rfl, fun x hx => by simp at hx, HB2⟩
        case round =>
          obtain ⟨k, S, T, hk, rfl, HC, H⟩ := hrel
          clear HB2
          by_cases hlt : k < len
          · obtain ⟨g, o, rfl, hg, c1, c2⟩ := (HR.out.below (Two.below H.out)).at k (by have := HLN.out; omega)
            have HOX := Lib.hid (HO.out.at k (by have := HLN.out; omega))
            have HT := Lib.hid (playL_take most l k (by have := HLN.out; omega))
            have HCS : Hid (∀ h : 0 < (l[k]'(by have := HLN.out; omega)).2 ∧ (l[k]'(by have := HLN.out; omega)).2 ≤ 1125899906842624, ∀ x ∈ l.take (k + 1), 0 < x.2 ∧ x.2 ≤ 1125899906842624) := by
              intro h x hx
              rw [List.take_succ_eq_append_getElem (by have := HLN.out; omega)] at hx
              rcases List.mem_append.1 hx with hx | hx
              · exact HC.out x hx
              · rw [List.mem_singleton] at hx; subst hx; exact h
            have HPN : Hid (PlayK most l → 0 < (l[k]'(by have := HLN.out; omega)).2 ∧ (l[k]'(by have := HLN.out; omega)).2 ≤ 1125899906842624) := fun h => h.c _ (List.getElem_mem _)
            obtain ⟨⟨x, y⟩, hx⟩ : ∃ x, l[k]'(by have := HLN.out; omega) = x := ⟨_, rfl⟩
            rw [hx] at c1 c2 HOX HT HCS HPN
            dsimp only at c1 c2 HOX HT HCS HPN
            clear hx
            have zH := Two.size H.out
            have HFB := Lib.hid (Two.below H.out)
            by_cases hy0 : y = 0
            · subst hy0
              have HN : Hid (¬ PlayK most l) := fun h => by have := (HPN.out h).1; omega
              clear HT HCS HPN HC HR HO H
              go_wp2
              go_ret3
              exact .inl ⟨HN.out, rfl, HFB.out.alloc (by omega) _⟩
            · have hy0' : (y == 0) = false := beq_eq_false_iff_ne.2 hy0
              by_cases hy1 : 1125899906842624 < y
              · have HN : Hid (¬ PlayK most l) := fun h => by have := (HPN.out h).2; omega
                have hd : decide (1125899906842624 < y) = true := decide_eq_true hy1
                clear HT HCS HPN HC HR HO H hy0
                go_wp2
                go_ret3
                exact .inl ⟨HN.out, rfl, HFB.out.alloc (by omega) _⟩
              · have hd : decide (1125899906842624 < y) = false := decide_eq_false hy1
                have hyb : 0 < y ∧ y ≤ 1125899906842624 := by have := HOX.out.2; omega
                have HC2 := Lib.hid (HCS.out hyb)
                have HYB := Lib.hid hyb
                have HPK : Hid (PlayK most (l.take k)) := ⟨by rw [List.length_take]; have := HM.out; omega, HM.out.2, HC.out⟩
                have hbp : Below wr.heap.size wr (wr.alloc (.cells #[.int .i64 x, .int .u64 y] 46)) := (Below.refl _ _).alloc (Nat.le_refl _) _
                have sP := At.new wr #[.int .i64 x, .int .u64 y] 46
                have HP : Hid (wr.heap.size ∉ S ∧ wr.heap.size ∉ T) := ⟨fun h => by have := (Two.ws H.out _ h).2; omega, fun h => by have := (Two.wt H.out _ h).2; omega⟩
                have H1 := Lib.hid (BothK.abide H.out hbp)
                obtain ⟨pB, hpB⟩ : ∃ pB, wr.heap.size = pB := ⟨_, rfl⟩
                rw [hpB] at sP HP
                clear H hbp HCS HPN HC hy0 hy1 hyb HFB zH
                go_wp2_with fail
                refine (kput_any b S most _ x y _ (Two.x H1.out) HM.out.2.1 (by have := HPK.out.len; omega) HYB.out.1 (by rw [HPK.out.pl.sm]; have := HPK.out.sum; have := HYB.out; omega) HOX.out.1).mono ?_
                rintro e w4 ⟨rfl, S3, hg3, hC3, hF3⟩
                replace sP := hF3.at sP HP.out.1
                have H3 := Lib.hid (Two.stepX H1.out hg3 hC3 hC3.lt hF3 ((Two.y H1.out).frame hF3 (Two.ap H1.out).symm))
                have fP := sP.two
                have lP := sP.lt
                try rw [hpB]
                clear hF3 hg3 hC3 H1 hpB
                go_wp2_with fail
                refine (dkput_any m T most _ x y _ (Two.y H3.out) HPK.out.pl.gd HM.out.2.1 (by have := HPK.out.len; omega) HYB.out.1 (by rw [HPK.out.pl.sm]; have := HPK.out.sum; have := HYB.out; omega)).mono ?_
                rintro e w5 ⟨rfl, T4, hg4, hC4, hF4⟩
                have H5 := Two.stepY H3.out hg4 hC4 hC4.lt hF4 ((Two.x H3.out).frame hF4 (Two.ap H3.out))
                rw [← HT.out] at H5
                replace H5 := Lib.hid H5
                clear hg4 hC4 hF4 H3 sP fP lP
                go_wp2
                go_roundw
                case rel => exact ⟨k + 1, S3, T4, by omega, by simp, HC2, H5⟩
                case measure => simp [intOf]; omega
          · obtain rfl : k = len := by omega
            have H1' := H.out
            rw [List.take_of_length_le (by have := HLN.out; omega)] at H1' HC
            have HP : Hid (PlayK most l) := ⟨by have := HLN.out; have := HM.out; omega, HM.out.2, HC.out⟩
            replace H1' := Lib.hid H1'
            clear H HC
            go_wp2
            go_ret3
            exact .inr ⟨HP.out, _, _, S, T, rfl, H1'.out⟩
end Go.Proofs.Ytbmnebpjjghkpaa

