/- What is played: alive, build. -/
import Derived.Test.YtnkkdciecjhpoaaDoorProg
import Derived.Test.YtnkkdciecjhpoaaDoorHdrJoinAll
import Derived.Test.YtnkkdciecjhpoaaDoorExact13
namespace Go.Proofs.YtnkkdciecjhpoaaDoor
open Go.RowKit

theorem kinH {B : Nat} {w wr w' : World} {S S' : List Nat} {X X' : Prop} (h : Two B w wr S [] X True) (hg : GrownS S S' wr.heap.size) (hX : X') (hlt : ∀ k ∈ S', k < w'.heap.size) (hF : Frame S wr w') : Two B w w' S' [] X' True :=
  h.stepX hg hX hlt hF trivial
theorem hdv_new {w : World} {b : Nat} {S : List Nat} {d lim : Int} (h : Hd w b S d lim [] [] 0 0 0) : HdV w b S d lim [] := h
theorem hdv_two {B : Nat} {w wr : World} {b : Nat} {S : List Nat} {d lim : Int} (hw : Within S B wr.heap.size) (h : Hd wr b S d lim [] [] 0 0 0) (hb : Below B w wr) (hB : B ≤ wr.heap.size) : Two B w wr S [] (HdV wr b S d lim []) True :=
  ⟨hdv_new h, trivial, hw, fun k hk => by simp at hk, fun k hk hn => by simp at hn, hb, hB⟩
set_option maxHeartbeats 1000000 in
theorem alive_any (w : World) (hT : TensAt w) : Calls Tryd.prog 9 #[] w fun e w' => e = .returned (.bool true) ∧ Below w.heap.size w w' := by
  have HN := Lib.hid (hnew_any 1 0 w hT (by omega) (by omega) (by omega) (by omega))
  clear hT
  go_enter Tryd.func9, Tryd.ntmps9
  go_wp2_with fail
  refine HN.out.mono ?_
  rintro e w1 ⟨⟨b, S, rfl, hW, hH⟩, hb1⟩
  have T1 := Lib.hid (hdv_two hW hH hb1 hb1.size)
  clear hW hH hb1 HN
  go_wp2_with fail
  refine (hput_v b S 1 0 7 3 [] w1 T1.out.x VOk.nil (by omega) (by omega) (by rw [sumP_nil]; omega) (.inl rfl) (by simp)).mono ?_
  rintro e w2 ⟨rfl, S2, hg2, hC2, hF2⟩
  have T2 := Lib.hid (kinH T1.out hg2 hC2 hC2.lt hF2)
  clear hg2 hC2 hF2 T1
  have HV : Hid (VOk [(7, 3)]) := VOk.nil.snoc (by omega) (by omega) (by rw [sumP_nil]; omega)
  go_wp2_with fail
  refine (hquant_v b S2 1 0 [(7, 3)] 1 2 w2 T2.out.x HV.out (by omega) (by omega) (by omega) (by omega)).mono ?_
  rintro e w3 ⟨rfl, hb⟩
  rw [show quantD (standV (repM (gOf 1))) [(7, 3)] 1 2 = 7 by decide +kernel, show placeE 1 2 (sumP [(7, 3)]) = 0 by decide +kernel]
  have T3 := Lib.hid (T2.out.belowW hb (fun k => k.below hb) id)
  clear hb T2
  have HFB := Lib.hid (Two.below T3.out)
  have HTT := Lib.hid (htotal_v b S2 1 0 [(7, 3)] w3 T3.out.x HV.out)
  rw [show sumP [(7, 3)] = 3 by decide] at HTT
  clear T3
  go_wp2_with fail
  refine HTT.out.mono ?_
  rintro e w4 ⟨rfl, hb⟩
  have HFB2 := Lib.hid (keep1 HFB.out hb)
  clear HTT hb HFB
  go_wp2
  go_ret
  exact ⟨rfl, HFB2.out⟩
/-- What is played. -/
structure PlayH (d : Int) (l : List (Int × Int)) : Prop where
  n : l.length ≤ 60
  m : 1 ≤ d ∧ d ≤ 4
  c : ∀ x ∈ l, 0 < x.2 ∧ x.2 ≤ 1125899906842624
theorem vsum_le : ∀ {l : List (Int × Int)}, (∀ x ∈ l, 0 < x.2 ∧ x.2 ≤ 1125899906842624) → 0 ≤ sumP l ∧ sumP l ≤ l.length * 1125899906842624
  | [], _ => by simp [sumP]
  | x :: l, h => by
    have h1 := h x (by simp)
    have h2 := vsum_le (l := l) fun y hy => h y (by simp [hy])
    unfold sumP at *
    simp only [List.map_cons, List.sum_cons, List.length_cons]
    omega
section
variable {d : Int} {l : List (Int × Int)}
theorem PlayH.sum (h : PlayH d l) : 0 ≤ sumP l ∧ sumP l ≤ 67553994410557440 := by have := vsum_le h.c; have := h.n; omega
theorem PlayH.vok (h : PlayH d l) (hok : okP l) : VOk l := ⟨hok, fun x hx => (h.c x hx).1, by have := h.sum; omega⟩
end
/-- The sketch and the document's bins. -/
def BothH (B : Nat) (w wr : World) (b m : Nat) (S : List Nat) (d lim : Int) (A : Option Addr) (len cap : Nat) (l : List (Int × Int)) : Prop :=
  Two B w wr S [m] (HdV wr b S d lim l) (BinsAt wr m (.slice none 0 0) (.slice none 0 0) d 0 4096 A len cap)
theorem BothH.abide {B : Nat} {w wr w' : World} {b m : Nat} {S : List Nat} {d lim : Int} {A : Option Addr} {len cap : Nat} {l : List (Int × Int)} (h : BothH B w wr b m S d lim A len cap l) (hb : Below wr.heap.size wr w') : BothH B w w' b m S d lim A len cap l :=
  Two.belowW h hb (fun k => k.below hb) (fun k => k.below hb)
theorem newY {B : Nat} {w wr w' : World} {S T : List Nat} {X X' Y Y0 : Prop} (h : Two B w wr S [] X Y0) (hb : Below wr.heap.size wr w') (hX : X → X') (hT : Within T wr.heap.size w'.heap.size) (hY : Y) : Two B w w' S T X' Y :=
  ⟨hX h.x, hY, h.ws.mono hb.size, fun k hk => ⟨Nat.le_trans h.size (hT k hk).1, (hT k hk).2⟩, fun k hk hn => by have := (h.ws k hk).2; have := (hT k hn).1; omega, h.below.trans (hb.mono h.size), Nat.le_trans h.size hb.size⟩
/-- What build answers. -/
def BuildH (d : Int) (A : Option Addr) (len cap : Nat) (l : List (Int × Int)) (w : World) (e : Ending) (w' : World) : Prop :=
  (¬ PlayH d l ∧ e = .returned (.tuple #[.pointer none, .pointer none, .bool false]) ∧ Below w.heap.size w w') ∨
  (PlayH d l ∧ ∃ b m S, e = .returned (.tuple #[.pointer (some ⟨b, 0, none⟩), .pointer (some ⟨m, 0, none⟩), .bool true]) ∧ BothH w.heap.size w w' b m S d 0 A len cap l)

set_option maxRecDepth 100000 in
set_option maxHeartbeats 2000000 in
theorem build_any (A : Option Addr) (len cap : Nat) (l : List (Int × Int)) (d : Int) (w : World) (hT : TensAt w) (hl : l.length = len) (hm : len ≤ 9223372036854775807) (hR : RdP w A l) (hok : okP l) :
    Calls Tryd.prog 10 #[.int .i64 d, .slice A len cap] w fun e w' => BuildH d A len cap l w e w' := by
  have HR := Lib.hid hR
  have HO := Lib.hid hok
  have HLN := Lib.hid hl
  have HTN := Lib.hid hT
  clear hR hok hl hT
  by_cases hlen : (60 : Int) < len
  · have HN : Hid (¬ PlayH d l) := fun h => by have := h.n; have := HLN.out; omega
    go_enter Tryd.func10, Tryd.ntmps10
    go_wp2
    go_ret3
    exact .inl ⟨HN.out, rfl, Below.refl _ _⟩
  · have hd0 : decide ((60 : Int) < len) = false := decide_eq_false hlen
    have hd0' : decide (60 < len) = false := decide_eq_false (by omega)
    by_cases hm1 : d < 1
    · have HN : Hid (¬ PlayH d l) := fun h => by have := h.m; omega
      have hd1 : decide (d < 1) = true := decide_eq_true hm1
      go_enter Tryd.func10, Tryd.ntmps10
      go_wp2
      go_ret3
      exact .inl ⟨HN.out, rfl, Below.refl _ _⟩
    · have hd1 : decide (d < 1) = false := decide_eq_false hm1
      by_cases hm2 : 4 < d
      · have HN : Hid (¬ PlayH d l) := fun h => by have := h.m; omega
        have hd2 : decide (4 < d) = true := decide_eq_true hm2
        go_enter Tryd.func10, Tryd.ntmps10
        go_wp2
        go_ret3
        exact .inl ⟨HN.out, rfl, Below.refl _ _⟩
      · have hd2 : decide (4 < d) = false := decide_eq_false hm2
        have HM : Hid (len ≤ 60 ∧ 1 ≤ d ∧ d ≤ 4) := ⟨by omega, by omega, by omega⟩
        have hm60 : len ≤ 60 := by omega
        have HN := Lib.hid (hnew_any d 0 w HTN.out (by omega) (by omega) (by omega) (by omega))
        clear hm hlen hm1 hm2 HTN
        go_enter Tryd.func10, Tryd.ntmps10
        go_wp2_with fail
        refine HN.out.mono ?_
        rintro e w1 ⟨⟨b, S1, rfl, hW, hH⟩, hb1⟩
        have T1 : Hid (Two w.heap.size w w1 S1 [] (HdV w1 b S1 d 0 (l.take 0)) True) := hdv_two hW hH hb1 hb1.size
        clear hW hH hb1 HN hd0 hd0' hd1 hd2
        go_wp2
        go_loopw [10, 30] (fun _ i wr => ∃ k : Nat, ∃ S, k ≤ len ∧ i = .int .i64 k ∧ Hid (∀ x ∈ l.take k, 0 < x.2 ∧ x.2 ≤ 1125899906842624) ∧ Hid (Two w.heap.size w wr S [] (HdV wr b S d 0 (l.take k)) True)) (fun _ i _ => len - (intOf i).toNat)
        case atStart => exact ⟨0, S1, by omega, rfl, fun x hx => by simp at hx, T1⟩
        case round =>
          obtain ⟨k, S, hk, rfl, HC, H⟩ := hrel
          clear T1
          by_cases hlt : k < len
          · obtain ⟨g, o, rfl, hg, c1, c2⟩ := (HR.out.below (Two.below H.out)).at k (by have := HLN.out; omega)
            have HOX := Lib.hid (HO.out.at k (by have := HLN.out; omega))
            have HT : Hid (l.take (k + 1) = l.take k ++ [l[k]'(by have := HLN.out; omega)]) := List.take_succ_eq_append_getElem (by have := HLN.out; omega)
            have HCS : Hid (∀ h : 0 < (l[k]'(by have := HLN.out; omega)).2 ∧ (l[k]'(by have := HLN.out; omega)).2 ≤ 1125899906842624, ∀ x ∈ l.take (k + 1), 0 < x.2 ∧ x.2 ≤ 1125899906842624) := by
              intro h x hx
              rw [List.take_succ_eq_append_getElem (by have := HLN.out; omega)] at hx
              rcases List.mem_append.1 hx with hx | hx
              · exact HC.out x hx
              · rw [List.mem_singleton] at hx; subst hx; exact h
            have HPN : Hid (PlayH d l → 0 < (l[k]'(by have := HLN.out; omega)).2 ∧ (l[k]'(by have := HLN.out; omega)).2 ≤ 1125899906842624) := fun h => h.c _ (List.getElem_mem _)
            obtain ⟨⟨x, y⟩, hx⟩ : ∃ x, l[k]'(by have := HLN.out; omega) = x := ⟨_, rfl⟩
            rw [hx] at c1 c2 HOX HT HCS HPN
            dsimp only at c1 c2 HOX HCS HPN
            clear hx
            have zH := Two.size H.out
            have HFB := Lib.hid (Two.below H.out)
            by_cases hy0 : y = 0
            · subst hy0
              have HN : Hid (¬ PlayH d l) := fun h => by have := (HPN.out h).1; omega
              clear HT HCS HPN HC HR HO H
              go_wp2
              go_ret3
              exact .inl ⟨HN.out, rfl, HFB.out.alloc (by omega) _⟩
            · have hy0' : (y == 0) = false := beq_eq_false_iff_ne.2 hy0
              by_cases hy1 : 1125899906842624 < y
              · have HN : Hid (¬ PlayH d l) := fun h => by have := (HPN.out h).2; omega
                have hd : decide (1125899906842624 < y) = true := decide_eq_true hy1
                clear HT HCS HPN HC HR HO H hy0
                go_wp2
                go_ret3
                exact .inl ⟨HN.out, rfl, HFB.out.alloc (by omega) _⟩
              · have hd : decide (1125899906842624 < y) = false := decide_eq_false hy1
                have hyb : 0 < y ∧ y ≤ 1125899906842624 := by have := HOX.out.2; omega
                have HC2 := Lib.hid (HCS.out hyb)
                have HYB := Lib.hid hyb
                have HPK : Hid (PlayH d (l.take k)) := ⟨by rw [List.length_take]; have := HM.out; omega, HM.out.2, HC.out⟩
                have HVO := Lib.hid (HPK.out.vok fun x hx => HO.out x (List.mem_of_mem_take hx))
                have hbp : Below wr.heap.size wr (wr.alloc (.cells #[.int .i64 x, .int .u64 y] 60)) := (Below.refl _ _).alloc (Nat.le_refl _) _
                have H1 := Lib.hid (Two.belowW H.out hbp (fun k => k.below hbp) id)
                clear H hbp HCS HPN HC hy0 hy1 hyb HFB zH
                go_wp2_with fail
                refine (hput_v b S d 0 x y (l.take k) _ (Two.x H1.out) HVO.out HOX.out.1 HYB.out.1 (by have := HPK.out.sum; have := HYB.out; omega) (.inl rfl) (by have := HPK.out.n; omega)).mono ?_
                rintro e w4 ⟨rfl, S3, hg3, hC3, hF3⟩
                rw [← HT.out] at hC3
                have H3 := Lib.hid (kinH H1.out hg3 hC3 hC3.lt hF3)
                clear hF3 hg3 hC3 H1 HVO HPK
                go_wp2
                go_roundw
                case rel => exact ⟨k + 1, S3, by omega, by simp, HC2, H3⟩
                case measure => simp [intOf]; omega
          · obtain rfl : k = len := by omega
            have H1' := H.out
            rw [List.take_of_length_le (by have := HLN.out; omega)] at H1' HC
            have HP : Hid (PlayH d l) := ⟨by have := HLN.out; have := HM.out; omega, HM.out.2, HC.out⟩
            replace H1' := Lib.hid H1'
            clear H HC
            obtain ⟨m, hmm⟩ : ∃ m, wr.heap.size = m := ⟨_, rfl⟩
            have HBB : Hid (BothH w.heap.size w (wr.alloc (.cells #[.slice none 0 0, .slice none 0 0, .int .i64 d, .int .i64 0, .int .i64 4096, .slice A k cap] 63)) b wr.heap.size S d 0 A k cap l) := by
              have hba : Below wr.heap.size wr (wr.alloc (.cells #[.slice none 0 0, .slice none 0 0, .int .i64 d, .int .i64 0, .int .i64 4096, .slice A k cap] 63)) := (Below.refl _ _).alloc (Nat.le_refl _) _
              have am := At.new wr #[.slice none 0 0, .slice none 0 0, .int .i64 d, .int .i64 0, .int .i64 4096, .slice A k cap] 63
              exact newY H1'.out hba (fun k => k.below hba) (fun k hk => by have := am.lt; simp at hk; subst hk; omega) am
            clear hmm
            go_wp2
            go_ret3
            exact .inr ⟨HP.out, b, _, S, rfl, HBB.out⟩
end Go.Proofs.YtnkkdciecjhpoaaDoor
/- The statements' same. -/
namespace Go.Proofs.YtnkkdciecjhpoaaDoor
open Go.RowKit

set_option maxRecDepth 100000 in
set_option maxHeartbeats 2000000 in
theorem hsame_any (b : Nat) (S : List Nat) (d lim : Int) (l : List (Int × Int)) (m : Nat) (lows reps : Value) (side most : Int) (A : Option Addr) (len cap : Nat) (w : World) (h : HdV w b S d lim l) (hb : BinsAt w m lows reps d side most A len cap) (hl : l.length = len) (hm : len ≤ 1000) (hR : RdP w A l) (hv : VOk l) (h1 : 1 ≤ d) (h4 : d ≤ 4) :
    Calls Tryd.prog 24 #[.pointer (some ⟨b, 0, none⟩), .pointer (some ⟨m, 0, none⟩)] w fun e w' => e = .returned (.bool true) ∧ Below w.heap.size w w' := by
  have hs := hv.sum
  have hs0 := hv.sum0
  have hpr : ∀ a, 0 < a → a ≤ 9223372036854775808 → -9223372036854775808 ≤ partD d a ∧ partD d a ≤ 9223372036854775807 := fun a h0 h1 => by
    have := partD_rng (d := d) h0 h1
    omega
  have H := Lib.hid h
  have HBI := Lib.hid hb
  have HR := Lib.hid hR
  have HV := Lib.hid hv
  have HL := Lib.hid hl
  have t1 : At w m _ _ := hb
  have HROW := Lib.hid fun (bl : Bool) W (hW : Below w.heap.size w W) => brow_any m lows reps d side most A len cap (partD d) l bl W (hb.below hW) ((partD_ok w m lows reps d side most A len cap hb h1 h4).below hW) hl (by omega) (hR.below hW) hv.ok hpr
  have HSM := Lib.hid fun (bl : Bool) (A B : Option Addr) (c1 c2 : Nat) W (k1 : RdP W A (rowV (partD d) bl l)) (k2 : RdP W B (rowV (partD d) bl l)) => same_any A B (rowV (partD d) bl l).length c1 (rowV (partD d) bl l).length c2 _ _ W rfl rfl (by have := rowV_len (part := partD d) (below := bl) (l := l); omega) (by have := rowV_len (part := partD d) (below := bl) (l := l); omega) k1 k2
  have HTO := Lib.hid fun (bl : Bool) (A : Option Addr) (c1 : Nat) W (k1 : RdP W A (rowV (partD d) bl l)) => total_any A (rowV (partD d) bl l).length c1 _ W rfl (by have := rowV_len (part := partD d) (below := bl) (l := l); omega) k1 (rowV_ok hpr hv.ok)
  have HTV := Lib.hid fun W (hW : Below w.heap.size w W) => htotal_v b S d lim l W (h.below hW) hv
  have HTB := Lib.hid fun W (hW : Below w.heap.size w W) => btotal_any m lows reps d side most A len cap l W (hb.below hW) hl (by omega) (hR.below hW) hv.pos hs
  have HZR := Lib.hid fun W (hW : Below w.heap.size w W) => hzero_any b S d lim _ _ _ _ _ W (Hd.below h hW)
  have HEN := Lib.hid fun W (hW : Below w.heap.size w W) => hends_v b S d lim l W (h.below hW) hv
  have HEV := Lib.hid fun W (hW : Below w.heap.size w W) => vends_told A len cap l W hl (by omega) (hR.below hW)
  obtain ⟨t1', t2⟩ := hv.total (part := partD d)
  have g0 := sumP_nonneg (rowV_gd (part := partD d) (below := true) hv.pos (by omega)).pos
  have g1 := sumP_nonneg (rowV_gd (part := partD d) (below := false) hv.pos (by omega)).pos
  obtain ⟨v0, hv0⟩ : ∃ v, sumP (rowV (partD d) true l) = v := ⟨_, rfl⟩
  obtain ⟨v1, hv1⟩ : ∃ v, sumP (rowV (partD d) false l) = v := ⟨_, rfl⟩
  obtain ⟨z, hz⟩ : ∃ v, zeroV l = v := ⟨_, rfl⟩
  obtain ⟨t, ht⟩ : ∃ v, sumP l = v := ⟨_, rfl⟩
  obtain ⟨el, hel⟩ : ∃ v, eLow l = v := ⟨_, rfl⟩
  obtain ⟨eh, heh⟩ : ∃ v, eHigh l = v := ⟨_, rfl⟩
  obtain ⟨ei, hei⟩ : ∃ v, eIs l = v := ⟨_, rfl⟩
  obtain ⟨P0, hP0⟩ : ∃ v, rowV (partD d) true l = v := ⟨_, rfl⟩
  obtain ⟨P1, hP1⟩ : ∃ v, rowV (partD d) false l = v := ⟨_, rfl⟩
  have HRS := Lib.hid fun W (hW : Below w.heap.size w W) => hrows_v b S d lim _ _ _ _ _ W (Hd.below h hW)
  have HS0 := Lib.hid (HSM.out true)
  have HS1 := Lib.hid (HSM.out false)
  have HT0 := Lib.hid (HTO.out true)
  have HT1 := Lib.hid (HTO.out false)
  have HR0 := Lib.hid (HROW.out true)
  have HR1 := Lib.hid (HROW.out false)
  rw [hv0, hv1, hz, ht] at t1'
  rw [hz] at t2 HZR
  rw [ht] at HTV HTB hs hs0
  rw [hv0] at g0 HT0
  rw [hv1] at g1 HT1
  rw [hel, heh, hei] at HEN HEV
  rw [hP0] at HRS HS0 HT0 HR0
  rw [hP1] at HRS HS1 HT1 HR1
  have w0 : v0 % 18446744073709551616 = v0 := by omega
  have w1 : v1 % 18446744073709551616 = v1 := by omega
  rw [w0] at HT0
  rw [w1] at HT1
  have HW1 : Hid (IntKind.u64.wrap (v0 + v1) = v0 + v1) := wrap_in (by omega)
  have HW2 : Hid (IntKind.u64.wrap (t - (v0 + v1)) = z) := by show _ = _; rw [show t - (v0 + v1) = z by omega]; exact wrap_in (by omega)
  have f1 := hb.six
  have l1 := At.lt hb
  clear h hb hl hm hR hv h1 h4 hpr t1' t2 g0 g1 hv0 hv1 hz ht hel heh hei hP0 hP1 w0 w1 HSM HTO HROW hs hs0 t1
  go_enter Tryd.func24, Tryd.ntmps24
  go_wp2_with fail
  refine (HRS.out w (Below.refl _ _)).mono ?_
  rintro e w1 ⟨A0, c0, A1, c1, rfl, hr0, hr1, hb⟩
  have HB1 := Lib.hid hb
  have HA0 := Lib.hid hr0
  have HA1 := Lib.hid hr1
  clear hr0 hr1 hb f1 l1 HRS
  go_wp2_with fail
  refine (HEN.out w1 HB1.out).mono ?_
  rintro e w2 ⟨rfl, hb⟩
  have HB2 := Lib.hid (keep1 HB1.out hb)
  have HA02 := Lib.hid (HA0.out.below hb)
  have HA12 := Lib.hid (HA1.out.below hb)
  have hBI2 := HBI.out.below HB2.out
  have f2 := hBI2.six
  have l2 := At.lt hBI2
  clear hb HEN HB1 HA0 HA1 hBI2
  go_wp2_with fail
  refine (HEV.out w2 HB2.out).mono ?_
  rintro e w3 ⟨rfl, hb⟩
  have HB3 := Lib.hid (keep1 HB2.out hb)
  have HA03 := Lib.hid (HA02.out.below hb)
  have HA13 := Lib.hid (HA12.out.below hb)
  clear hb HEV HB2 HA02 HA12 f2 l2
  go_wp2_with fail
  refine (HR0.out w3 HB3.out).mono ?_
  rintro e w4 ⟨A4, c4, rfl, hr, hb⟩
  have HB4 := Lib.hid (keep1 HB3.out hb)
  have HA04 := Lib.hid (HA03.out.below hb)
  have HA14 := Lib.hid (HA13.out.below hb)
  have HX := Lib.hid hr
  clear hb hr HB3 HA03 HA13
  go_wp2_with fail
  refine (HT0.out A4 c4 w4 HX.out).mono ?_
  rintro e w5 ⟨rfl, hb⟩
  have HB5 := Lib.hid (keep1 HB4.out hb)
  have HA05 := Lib.hid (HA04.out.below hb)
  have HA15 := Lib.hid (HA14.out.below hb)
  clear hb HB4 HA04 HA14 HX HT0
  go_wp2_with fail
  refine (HR1.out w5 HB5.out).mono ?_
  rintro e w6 ⟨A6, c6, rfl, hr, hb⟩
  have HB6 := Lib.hid (keep1 HB5.out hb)
  have HA06 := Lib.hid (HA05.out.below hb)
  have HA16 := Lib.hid (HA15.out.below hb)
  have HX := Lib.hid hr
  clear hb hr HB5 HA05 HA15
  go_wp2_with fail
  refine (HT1.out A6 c6 w6 HX.out).mono ?_
  rintro e w7 ⟨rfl, hb⟩
  have HB7 := Lib.hid (keep1 HB6.out hb)
  have HA07 := Lib.hid (HA06.out.below hb)
  have HA17 := Lib.hid (HA16.out.below hb)
  clear hb HB6 HA06 HA16 HX HT1
  go_wp2_with fail
  refine (HR0.out w7 HB7.out).mono ?_
  rintro e w8 ⟨A8, c8, rfl, hr, hb⟩
  have HB8 := Lib.hid (keep1 HB7.out hb)
  have HA08 := Lib.hid (HA07.out.below hb)
  have HA18 := Lib.hid (HA17.out.below hb)
  have HX := Lib.hid hr
  clear hb hr HB7 HA07 HA17 HR0
  go_wp2_with fail
  refine (HS0.out A0 A8 c0 c8 w8 HA08.out HX.out).mono ?_
  rintro e w9 ⟨rfl, hb⟩
  rw [decide_true]
  have HB9 := Lib.hid (keep1 HB8.out hb)
  have HA19 := Lib.hid (HA18.out.below hb)
  clear hb HB8 HA08 HA18 HX HS0
  go_wp2_with fail
  refine (HR1.out w9 HB9.out).mono ?_
  rintro e w10 ⟨A10, c10, rfl, hr, hb⟩
  have HB10 := Lib.hid (keep1 HB9.out hb)
  have HA110 := Lib.hid (HA19.out.below hb)
  have HX := Lib.hid hr
  clear hb hr HB9 HA19 HR1
  go_wp2_with fail
  refine (HS1.out A1 A10 c1 c10 w10 HA110.out HX.out).mono ?_
  rintro e w11 ⟨rfl, hb⟩
  rw [decide_true]
  have HB11 := Lib.hid (keep1 HB10.out hb)
  clear hb HB10 HA110 HX HS1
  go_wp2_with fail
  refine (HTV.out w11 HB11.out).mono ?_
  rintro e w12 ⟨rfl, hb⟩
  have HB12 := Lib.hid (keep1 HB11.out hb)
  clear hb HB11 HTV
  go_wp2_with fail
  refine (HTB.out w12 HB12.out).mono ?_
  rintro e w13 ⟨rfl, hb⟩
  have HB13 := Lib.hid (keep1 HB12.out hb)
  clear hb HB12
  go_wp2_with fail
  refine (HZR.out w13 HB13.out).mono ?_
  rintro e w14 ⟨rfl, rfl⟩
  clear HZR
  go_wp2_with fail
  refine (HTB.out w13 HB13.out).mono ?_
  rintro e w15 ⟨rfl, hb⟩
  have HB15 := Lib.hid (keep1 HB13.out hb)
  clear hb HB13 HTB
  rw [HW1.out]
  have hz2 := HW2.out
  go_wp2
  go_ret
  exact ⟨rfl, HB15.out⟩
end Go.Proofs.YtnkkdciecjhpoaaDoor
