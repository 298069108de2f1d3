/- What is played: build (chapter 14). -/
import Derived.Test.YtondkkhagbcadaaGreatProg
import Derived.Test.YtondkkhagbcadaaGreatLsSame
namespace Go.Proofs.YtondkkhagbcadaaGreat
open Go.RowKit

/-- The sketch and the document's. -/
def BothL (B : Nat) (w wr : World) (b m : Nat) (S TB : List Nat) (s : Bool) (part : Nat → Int) (rep : Int → Int) (u v most : Int) (A : Option Addr) (len cap : Nat) (l : List (Int × Int)) : Prop :=
  Two B w wr S TB (LsV wr b S part rep u v s most l) (DocAt wr m TB u v 0 (sideZ s) most A len cap)
section
variable {B : Nat} {w wr w' : World} {b m cb : Nat} {S TB T : List Nat} {s : Bool} {part : Nat → Int} {rep stand : Int → Int} {u v z most : Int} {A A' : Option Addr} {len cap len' cap' : Nat} {l l' : List (Int × Int)} {cv : Array Value} {ct : TypeId}
theorem BothL.abide (h : BothL B w wr b m S TB s part rep u v most A len cap l) (hb : Below wr.heap.size wr w') : BothL B w w' b m S TB s part rep u v most A len cap l :=
  Two.belowW h hb (fun k => k.below hb) (fun k => k.below hb)
theorem BothL.step (h : BothL B w wr b m S TB s part rep u v most A len cap l) (hp : LpvR b S part rep u v s most l' wr w') : ∃ S', BothL B w w' b m S' TB s part rep u v most A len cap l' := by
  obtain ⟨S', hg, hX, hF⟩ := hp
  exact ⟨S', Two.stepX h hg hX hX.lt hF (h.y.frame hF h.ap.symm)⟩
theorem BothL.same (h : BothL B w wr b m S TB s part rep u v most A len cap l) (hc : Cs u v 0 false part rep stand) (hl : l.length = len) (hm : len ≤ 1000) (hR : RdP wr A l) (hv : VOk l) :
    Calls Tryz.prog 23 #[.pointer (some ⟨b, 0, none⟩), .pointer (some ⟨m, 0, none⟩)] wr fun e w' => e = .returned (.bool true) ∧ Below wr.heap.size wr w' := by
  obtain ⟨lows, reps, hBI, hPO, _⟩ := DocAt.get (Two.y h) hc
  exact lssame_any b S part rep u v s most l m lows reps 0 A len cap wr (Two.x h) hBI hPO hl hm hR hv
theorem kinLC (h : Two B w wr S (cb :: TB) (LsV wr b S part rep u v s most l) (DocAt wr m TB u v 0 z most A len cap ∧ At wr cb cv ct)) (hp : LpvR b S part rep u v s most l' wr w') :
    ∃ S', Two B w w' S' (cb :: TB) (LsV w' b S' part rep u v s most l') (DocAt w' m TB u v 0 z most A len cap ∧ At w' cb cv ct) := by
  obtain ⟨S', hg, hX, hF⟩ := hp
  have ha := h.ap.symm
  exact ⟨S', h.stepX hg hX hX.lt hF ⟨h.y.1.frame hF fun j hj => ha j (by simp [hj]), hF.at h.y.2 (ha cb (by simp))⟩⟩
theorem both_valsL (hz : sideZ s = z) (h : Two B w wr S (cb :: TB) (LsV wr b S part rep u v s most l) (DocAt wr m TB u v 0 z most A' len' cap' ∧ At wr cb cv ct)) :
    BothL B w (wr.setCell ⟨m, 5, none⟩ (.slice A len cap)) b m S TB s part rep u v most A len cap l := by
  have hF := Frame.set [m] wr m 5 (.slice A len cap) (by simp)
  have hm := h.y.1.mem
  subst hz
  refine ⟨h.x.frame hF fun j hj hn => ?_, h.y.1.vals A len cap, h.ws.mono hF.size, fun j hj => ?_, fun j hj hn => h.ap j hj (by simp [hn]), h.below.setCell (h.wt m (by simp [hm])).1 _, Nat.le_trans h.size hF.size⟩
  · simp only [List.mem_singleton] at hn
    subst hn
    exact h.ap j hj (by simp [hm])
  · have := h.wt.mono hF.size j (by simp [hj])
    exact this
end
/-- What build answers. -/
def BuildL (u v side most : Int) (A : Option Addr) (len cap : Nat) (l : List (Int × Int)) (w : World) (e : Ending) (w' : World) : Prop :=
  (e = .returned (.tuple #[.pointer none, .pointer none, .bool false]) ∧ Below w.heap.size w w') ∨
  (PlayB most l ∧ ∃ s part rep stand b m S TB, side = sideZ s ∧ Cs u v 0 false part rep stand ∧ v ≤ 100 ∧ e = .returned (.tuple #[.pointer (some ⟨b, 0, none⟩), .pointer (some ⟨m, 0, none⟩), .bool true]) ∧ BothL w.heap.size w w' b m S TB s part rep u v most A len cap l)

set_option maxRecDepth 100000 in
set_option maxHeartbeats 4000000 in
theorem build_any (u v side most : Int) (A : Option Addr) (len cap : Nat) (l : List (Int × Int)) (w : World) (hu : 0 ≤ u ∧ u < 18446744073709551616) (hv : 0 ≤ v ∧ v < 18446744073709551616) (hl : l.length = len) (hR : RdP w A l) (hok : okP l) :
    Calls Tryz.prog 11 #[.agg #[.int .u64 u, .int .u64 v, .int .i64 side, .int .i64 most, .slice A len cap]] w fun e w' => BuildL u v side most A len cap l w e w' := by
  have HR := Lib.hid hR
  have HO := Lib.hid hok
  have HLN := Lib.hid hl
  have hba : Below w.heap.size w (w.alloc (.cells #[.int .u64 u, .int .u64 v, .int .i64 side, .int .i64 most, .slice A len cap] 27)) := (Below.refl _ _).alloc (Nat.le_refl _) _
  have am : At (w.alloc (.cells #[.int .u64 u, .int .u64 v, .int .i64 side, .int .i64 most, .slice A len cap] 27)) w.heap.size #[.int .u64 u, .int .u64 v, .int .i64 side, .int .i64 most, .slice A len cap] 27 := At.new' _ _ _ rfl
  clear hR hok hl
  by_cases c0 : (60 : Int) < len
  · have e0 := decide_eq_true c0
    go_enter Tryz.func11, Tryz.ntmps11
    go_wp2
    go_ret3
    exact .inl ⟨rfl, hba⟩
  have e0 := decide_eq_false c0
  have e0' : decide (60 < len) = false := decide_eq_false (by omega)
  by_cases c1 : 100 < v
  · have e1 := decide_eq_true c1
    go_enter Tryz.func11, Tryz.ntmps11
    go_wp2
    go_ret3
    exact .inl ⟨rfl, hba⟩
  have e1 := decide_eq_false c1
  by_cases c4 : side < 0
  · have e4 := decide_eq_true c4
    go_enter Tryz.func11, Tryz.ntmps11
    go_wp2
    go_ret3
    exact .inl ⟨rfl, hba⟩
  have e4 := decide_eq_false c4
  by_cases c5 : 1 < side
  · have e5 := decide_eq_true c5
    go_enter Tryz.func11, Tryz.ntmps11
    go_wp2
    go_ret3
    exact .inl ⟨rfl, hba⟩
  have e5 := decide_eq_false c5
  have hm60 : len ≤ 60 := by omega
  rcases cs_cases (u := u) (v := v) (d := 0) hu.1 hv.1 (by omega) (by omega) with ⟨k, part, rep, stand, hc⟩ | hc
  rotate_left
  · have HN := Lib.hid fun W => dnew_no u v 0 side most W hu hv hc
    have HL := Lib.hid fun W => lsnew_no u v side most W hu.1 hu.2 hv.1 hv.2 hc
    clear hc hu hv c0 c1 c4 c5
    go_enter Tryz.func11, Tryz.ntmps11
    go_wp2_with fail
    refine (HN.out _).mono ?_
    rintro e w2 ⟨rfl, hb⟩
    have HB2 := Lib.hid (keep1 hba hb)
    have f2 := (am.below hb).five
    have l2 := (am.below hb).lt
    clear hb hba am HN
    go_wp2_with fail
    refine (HL.out _).mono ?_
    rintro e w3 ⟨⟨f, rfl, hf, _⟩, hb⟩
    have HB3 := Lib.hid (keep1 HB2.out hb)
    clear hb HB2 HL hf f2 l2
    go_wp2
    go_ret3
    exact .inl ⟨rfl, HB3.out⟩
  have hk : k = false := by
    rcases hc with ⟨_, h, _⟩ | ⟨h, _⟩
    · omega
    · exact h
  subst hk
  obtain ⟨s, hs⟩ : ∃ s, sideZ s = side := by
    by_cases h0 : side = 0
    · exact ⟨true, h0.symm⟩
    · exact ⟨false, show (1 : Int) = side by omega⟩
  have HS : Hid (side = sideZ s) := hs.symm
  have HC := Lib.hid hc
  have HV100 : Hid (v ≤ 100) := by show _ ≤ _; omega
  have HN := Lib.hid fun W => dnew_yes u v 0 side most false part rep stand W hc
  by_cases hmo : 1 ≤ most ∧ most ≤ 4096
  rotate_left
  · have HL := Lib.hid fun W => lsnew_side u v part rep stand side most W hc (fun h => hmo h.2)
    clear hc hu hv c0 c1 c4 c5 hs hmo
    go_enter Tryz.func11, Tryz.ntmps11
    go_wp2_with fail
    refine (HN.out _).mono ?_
    rintro e w2 ⟨⟨m, rfl, _⟩, hb⟩
    have HB2 := Lib.hid (keep1 hba hb)
    have f2 := (am.below hb).five
    have l2 := (am.below hb).lt
    clear hb hba am HN
    go_wp2_with fail
    refine (HL.out _).mono ?_
    rintro e w3 ⟨rfl, hb⟩
    have HB3 := Lib.hid (keep1 HB2.out hb)
    clear hb HB2 HL f2 l2
    go_wp2
    go_ret3
    exact .inl ⟨rfl, HB3.out⟩
  have HM : Hid (len ≤ 60 ∧ 1 ≤ most ∧ most ≤ 4096) := ⟨hm60, hmo⟩
  have HE := Lib.hid fun W => lsnew_yes u v part rep stand s most W hc hmo
  rw [hs] at HE
  clear hc hu hv c0 c1 c4 c5 hs hmo
  go_enter Tryz.func11, Tryz.ntmps11
  go_wp2_with fail
  obtain ⟨W1, hW1⟩ : ∃ W, w.alloc (.cells #[.int .u64 u, .int .u64 v, .int .i64 side, .int .i64 most, .slice A len cap] 27) = W := ⟨_, rfl⟩
  obtain ⟨cb, hcb⟩ : ∃ r, w.heap.size = r := ⟨_, rfl⟩
  have HCB : Hid (w.heap.size ≤ cb) := by show _ ≤ _; omega
  rw [hW1] at hba am
  rw [hcb] at am
  simp only [hW1, hcb]
  clear hW1 hcb e0 e0' e1 e4 e5
  refine (HN.out W1).mono ?_
  rintro e w2 ⟨⟨m, rfl, TB, hTB, hD⟩, hb⟩
  have HB2 := Lib.hid (keep1 hba hb)
  have HTB : Hid (∀ j ∈ TB, W1.heap.size ≤ j) := fun j hj => hTB j (by simp [hj])
  have HZ1 : Hid (w.heap.size ≤ W1.heap.size) := hba.size
  have a2 := am.below hb
  have HA2 := Lib.hid a2
  have HD := Lib.hid hD
  have HCL : Hid (cb < W1.heap.size) := am.lt
  have f2 := a2.five
  have l2 := a2.lt
  clear hba hb am hTB hD a2 HN
  go_wp2_with fail
  refine (HE.out w2).mono ?_
  rintro e w3 ⟨⟨b, S1, rfl, hW, hN⟩, hb⟩
  have T1 : Hid (Two w.heap.size w w3 S1 (cb :: TB) (LsV w3 b S1 part rep u v s most (l.take 0)) (DocAt w3 m TB u v 0 side most none 0 0 ∧ At w3 cb #[.int .u64 u, .int .u64 v, .int .i64 side, .int .i64 most, .slice A len cap] 27)) := by
    have hz := hb.size
    have hz0 := HB2.out.size
    have hz1 := HZ1.out
    refine ⟨hN, ⟨HD.out.below hb, HA2.out.below hb⟩, fun j hj => ⟨Nat.le_trans hz0 (hW j hj).1, (hW j hj).2⟩, fun j hj => ?_, fun j hj hn => ?_, keep1 HB2.out hb, Nat.le_trans hz0 hz⟩
    · simp only [List.mem_cons] at hj
      rcases hj with rfl | hj
      · exact ⟨HCB.out, Nat.lt_of_lt_of_le HA2.out.lt hz⟩
      · exact ⟨Nat.le_trans hz1 (HTB.out j hj), Nat.lt_of_lt_of_le (HD.out.lts j hj) hz⟩
    · have h1 := (hW j hj).1
      simp only [List.mem_cons] at hn
      rcases hn with rfl | hn
      · have := HA2.out.lt
        omega
      · have := HD.out.lts j hn
        omega
  have f3 := (HA2.out.below hb).five
  have l3 := (HA2.out.below hb).lt
  clear hW hN hb HE HB2 HA2 HD HTB HCB HZ1 HCL f2 l2
  go_wp2
  clear f3 l3
  go_loopw [10, 61] (fun _ i wr => ∃ j : Nat, ∃ S, j ≤ len ∧ i = .int .i64 j ∧ Hid (∀ x ∈ l.take j, 0 < x.2 ∧ x.2 ≤ 1125899906842624) ∧ Hid (Two w.heap.size w wr S (cb :: TB) (LsV wr b S part rep u v s most (l.take j)) (DocAt wr m TB u v 0 side most none 0 0 ∧ At wr cb #[.int .u64 u, .int .u64 v, .int .i64 side, .int .i64 most, .slice A len cap] 27))) (fun _ i _ => len - (intOf i).toNat)
  case atStart => exact ⟨0, S1, by omega, rfl, fun x hx => by simp at hx, T1⟩
  case round =>
    obtain ⟨j, S, hj, rfl, HCN, H⟩ := hrel
    clear T1
    by_cases hlt : j < len
    · obtain ⟨g, o, rfl, hg, c1, c2⟩ := (HR.out.below (Two.below H.out)).at j (by have := HLN.out; omega)
      have HOX := Lib.hid (HO.out.at j (by have := HLN.out; omega))
      have HT : Hid (l.take (j + 1) = l.take j ++ [l[j]'(by have := HLN.out; omega)]) := List.take_succ_eq_append_getElem (by have := HLN.out; omega)
      have HCS : Hid (∀ h : 0 < (l[j]'(by have := HLN.out; omega)).2 ∧ (l[j]'(by have := HLN.out; omega)).2 ≤ 1125899906842624, ∀ x ∈ l.take (j + 1), 0 < x.2 ∧ x.2 ≤ 1125899906842624) := by
        intro h x hx
        rw [List.take_succ_eq_append_getElem (by have := HLN.out; omega)] at hx
        rcases List.mem_append.1 hx with hx | hx
        · exact HCN.out x hx
        · rw [List.mem_singleton] at hx; subst hx; exact h
      obtain ⟨⟨x, y⟩, hx⟩ : ∃ x, l[j]'(by have := HLN.out; omega) = x := ⟨_, rfl⟩
      rw [hx] at c1 c2 HOX HT HCS
      dsimp only at c1 c2 HOX HCS
      clear hx
      have zH := Two.size H.out
      have HFB := Lib.hid (Two.below H.out)
      by_cases hy0 : y = 0
      · subst hy0
        clear HT HCS HCN HC HR HO H
        go_wp2
        go_ret3
        exact .inl ⟨rfl, HFB.out.alloc (by omega) _⟩
      · have hy0' : (y == 0) = false := beq_eq_false_iff_ne.2 hy0
        by_cases hy1 : 1125899906842624 < y
        · have hd : decide (1125899906842624 < y) = true := decide_eq_true hy1
          clear HT HCS HCN HC HR HO H hy0
          go_wp2
          go_ret3
          exact .inl ⟨rfl, HFB.out.alloc (by omega) _⟩
        · have hd : decide (1125899906842624 < y) = false := decide_eq_false hy1
          have hyb : 0 < y ∧ y ≤ 1125899906842624 := by have := HOX.out.2; omega
          have HC2 := Lib.hid (HCS.out hyb)
          have HYB := Lib.hid hyb
          have HPK : Hid (PlayB most (l.take j)) := ⟨by rw [List.length_take]; have := HM.out; omega, HM.out.2, HCN.out⟩
          have HVO := Lib.hid (HPK.out.vok fun x hx => HO.out x (List.mem_of_mem_take hx))
          have hbp : Below wr.heap.size wr (wr.alloc (.cells #[.int .i64 x, .int .u64 y] 48)) := (Below.refl _ _).alloc (Nat.le_refl _) _
          have H1 := Lib.hid (Two.belowW H.out hbp (fun k => k.below hbp) (fun k => And.intro (k.1.below hbp) (k.2.below hbp)))
          clear H hbp HCS HCN hy0 hy1 hyb HFB zH
          go_wp2_with fail
          refine (lsput_v b S part rep u v s most x y (l.take j) _ (Two.x H1.out) HVO.out HOX.out.1 HYB.out.1 (by have := HPK.out.sum; have := HYB.out; omega)).mono ?_
          rintro e w4 ⟨rfl, hp⟩
          rw [← HT.out] at hp
          obtain ⟨S3, H3'⟩ := kinLC H1.out hp
          have H3 := Lib.hid H3'
          clear hp H3' H1 HVO HPK
          go_wp2
          go_roundw
          case rel => exact ⟨j + 1, S3, by omega, by simp, HC2, H3⟩
          case measure => simp [intOf]; omega
    · obtain rfl : j = len := by omega
      have H1' := H.out
      rw [List.take_of_length_le (by have := HLN.out; omega)] at H1' HCN
      have HP : Hid (PlayB most l) := ⟨by have := HLN.out; have := HM.out; omega, HM.out.2, HCN.out⟩
      have f3 := (Two.y H1').2.five
      have l3 := (Two.y H1').2.lt
      obtain ⟨lows, reps, hBI, _, _⟩ := (Two.y H1').1.get HC.out
      have f4 := At.six hBI
      have l4 := At.lt hBI
      have HBB := Lib.hid (both_valsL (A := A) (len := j) (cap := cap) HS.out.symm H1')
      clear H1' H HCN hBI
      go_wp2
      go_ret3
      exact .inr ⟨HP.out, s, part, rep, stand, b, m, S, TB, HS.out, HC.out, HV100.out, rfl, HBB.out⟩
end Go.Proofs.YtondkkhagbcadaaGreat
