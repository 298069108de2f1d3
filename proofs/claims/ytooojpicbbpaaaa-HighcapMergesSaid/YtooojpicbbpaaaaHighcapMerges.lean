/- The walk of the statement HighcapMerges. -/
import Derived.Test.YtooojpicbbpaaaaProg
import Derived.Test.YtooojpicbbpaaaaOpen
import Derived.Test.YtooojpicbbpaaaaBuild10
import Derived.Test.YtooojpicbbpaaaaHighMerge
import Derived.Test.YtooojpicbbpaaaaAppRow
namespace Go.Proofs.Ytooojpicbbpaaaa
open Go.RowKit

theorem addAll_allOf {p q : List (Int × Int)} (hp : ∀ x ∈ p, 0 < x.2) (hq : ∀ x ∈ q, 0 < x.2) (hs : sumP p + sumP q < 18446744073709551616) : addAll (allOf p) (allOf q) = allOf (p ++ q) := by
  have s1 := sumP_nonneg hp
  have s2 := sumP_nonneg hq
  obtain ⟨a1, a2, a3⟩ := addAll_spec (l := p) Gd.nil hp (by rw [sumP_nil]; omega)
  obtain ⟨b1, b2, b3⟩ := addAll_spec (l := q) Gd.nil hq (by rw [sumP_nil]; omega)
  rw [sumP_nil, Int.zero_add] at a2 b2
  have hpq : ∀ x ∈ p ++ q, 0 < x.2 := fun x hx => (List.mem_append.1 hx).elim (hp x) (hq x)
  obtain ⟨c1, _, c3⟩ := addAll_spec (l := p ++ q) Gd.nil hpq (by rw [sumP_nil, sumP_append]; omega)
  obtain ⟨d1, _, d3⟩ := addAll_spec (ps := allOf p) (l := allOf q) a1 b1.pos (by unfold allOf; rw [a2, b2]; omega)
  refine Gd.ext d1 c1 fun i => ?_
  show _ = cnt (addAll [] (p ++ q)) i
  rw [d3, c3, cnt_append, cnt_nil]
  unfold allOf
  rw [a3, b3, cnt_nil]
  omega
theorem small_app {most : Int} {p q : List (Int × Int)} (h : SmallG most p) (k : SmallG most q) : Small most (p ++ q) :=
  ⟨fun x hx => (List.mem_append.1 hx).elim (h.s.c x) (k.s.c x), by rw [List.length_append]; have := h.g; have := k.g; omega, h.s.m⟩
theorem merged {most : Int} {p q : List (Int × Int)} (h : SmallG most p) (k : SmallG most q) : capAll sd most (keptP sd most (allOf p)) (keptP sd most (allOf q)) = keptP sd most (allOf (p ++ q)) := by
  have h1 := h.s.all
  have k1 := k.s.all
  have h2 := h.s.sum
  have k2 := k.s.sum
  rw [capAll_merge h.s.m.1 h1.1 k1.1 (by rw [h1.2.1, k1.2.1]; omega), addAll_allOf (fun x hx => (h.s.c x hx).1) (fun x hx => (k.s.c x hx).1) (by omega)]

/-- What stays beside the one that is merged into. -/
def MrgY (wr : World) (yb : Nat) (Sy : List Nat) (m : Nat) (Tm : List Nat) (al : Nat) (Ta : List Nat) (most : Int) (p q : List (Int × Int)) : Prop :=
  High wr yb Sy most (keptP sd most (allOf q)) (sumP q) ∧ DocL wr m Tm most (allOf q) ∧ DocL wr al Ta most (allOf (p ++ q))
section
variable {w w' : World} {yb m al : Nat} {Sy Tm Ta S : List Nat} {most : Int} {p q : List (Int × Int)}
theorem MrgY.below (h : MrgY w yb Sy m Tm al Ta most p q) (hb : Below w.heap.size w w') : MrgY w' yb Sy m Tm al Ta most p q := ⟨h.1.below hb, h.2.1.below hb, h.2.2.below hb⟩
theorem MrgY.frame (h : MrgY w yb Sy m Tm al Ta most p q) (hF : Frame S w w') (ap : Apart S (Sy ++ Tm ++ Ta)) : MrgY w' yb Sy m Tm al Ta most p q :=
  ⟨h.1.frame hF fun k hk hn => ap k hn (by simp [hk]), h.2.1.frame hF fun k hk hn => ap k hn (by simp [hk]), h.2.2.frame hF fun k hk hn => ap k hn (by simp [hk])⟩
end
set_option maxHeartbeats 2000000 in
theorem highcapMerges_walk (w : World) (most : Int) (bdmost : -9223372036854775808 ≤ most ∧ most ≤ 9223372036854775807) (Ap : Option Addr) (cp : Nat) (p : List (Int × Int)) (rp : Rd w Ap (p.flatMap fun x => [.int .i64 x.1, .int .u64 x.2])) (bdp : ∀ x ∈ p, (-9223372036854775808 ≤ x.1 ∧ x.1 ≤ 9223372036854775807) ∧ (0 ≤ x.2 ∧ x.2 < 18446744073709551616)) (lp : p.length ≤ 9223372036854775807) (Aq : Option Addr) (cq : Nat) (q : List (Int × Int)) (rq : Rd w Aq (q.flatMap fun x => [.int .i64 x.1, .int .u64 x.2])) (bdq : ∀ x ∈ q, (-9223372036854775808 ≤ x.1 ∧ x.1 ≤ 9223372036854775807) ∧ (0 ≤ x.2 ∧ x.2 < 18446744073709551616)) (lq : q.length ≤ 9223372036854775807) (other : Int) (bdother : -9223372036854775808 ≤ other ∧ other ≤ 9223372036854775807) :
    Calls Try.prog 4 #[.int .i64 most, .slice Ap p.length cp, .slice Aq q.length cq, .int .i64 other] w fun e w' => e = .returned (.bool true) ∧ Below w.heap.size w w' := by
  have HM := Lib.hid bdmost
  have HRA : Hid (RdP w Ap p) := rp
  have HRB : Hid (RdP w Aq q) := rq
  have HOA : Hid (okP p) := bdp
  have HOB : Hid (okP q) := bdq
  have HOT := Lib.hid bdother
  clear rp rq bdp bdq bdmost bdother
  obtain ⟨np, hnp⟩ : ∃ n, p.length = n := ⟨_, rfl⟩
  obtain ⟨nq, hnq⟩ : ∃ n, q.length = n := ⟨_, rfl⟩
  have HNP := Lib.hid hnp
  have HNQ := Lib.hid hnq
  rw [hnp] at lp ⊢
  rw [hnq] at lq ⊢
  clear hnp hnq
  go_enter Try.func4, Try.ntmps4
  go_wp2_with fail
  refine (alive_any _).mono ?_
  rintro e w1 ⟨rfl, hb1⟩
  go_wp2_with fail
  refine (great_any Ap np cp p most w1 HNP.out lp (HRA.out.below hb1) HOA.out).mono ?_
  rintro e w2 ⟨⟨bv, rfl, hbv⟩, hb⟩
  have hb2 := keep1 hb1 hb
  clear hb1 hb
  cases bv with
  | true =>
    clear hbv
    go_wp2
    go_ret
    exact ⟨rfl, hb2⟩
  | false =>
    have HSA : Hid (SmallG most p) := says_small hbv
    clear hbv
    go_wp2_with fail
    refine (great_any Aq nq cq q most w2 HNQ.out lq (HRB.out.below hb2) HOB.out).mono ?_
    rintro e w3 ⟨⟨bv, rfl, hbv⟩, hb⟩
    have hb3 := keep1 hb2 hb
    clear hb2 hb
    cases bv with
    | true =>
      clear hbv
      go_wp2
      go_ret
      exact ⟨rfl, hb3⟩
    | false =>
      have HSB : Hid (SmallG most q) := says_small hbv
      clear hbv
      have HB3 := Lib.hid hb3
      have hlp : np ≤ 60 := by have := HSA.out.g; have := HNP.out; omega
      have hlq : nq ≤ 60 := by have := HSB.out.g; have := HNQ.out; omega
      replace HRA := Lib.hid (HRA.out.below hb3)
      replace HRB := Lib.hid (HRB.out.below hb3)
      clear hb3 lp lq
      go_wp2_with fail
      refine (build_any Ap np cp p most w3 HNP.out HRA.out HOA.out HSA.out.s).mono ?_
      rintro e w4 ⟨xb, mx, Sx, Tx, rfl, hB⟩
      have H1 := Lib.hid hB
      have hb4 : Below w3.heap.size w3 w4 := Two.below hB
      replace HRA := Lib.hid (HRA.out.below hb4)
      replace HRB := Lib.hid (HRB.out.below hb4)
      have HZ4 := Lib.hid hb4.size
      clear hB hb4
      go_wp2_with fail
      refine (build_any Aq nq cq q most w4 HNQ.out HRB.out HOB.out HSB.out.s).mono ?_
      rintro e w5 ⟨yb, m, Sy, Tm, rfl, hB⟩
      have H2 := Lib.hid hB
      have hb5 : Below w4.heap.size w4 w5 := Two.below hB
      replace HRA := Lib.hid (HRA.out.below hb5)
      replace HRB := Lib.hid (HRB.out.below hb5)
      have HZ5 := Lib.hid hb5.size
      have HB5 := Lib.hid hb5
      clear hB hb5
      have hbe : Below w5.heap.size w5 (w5.alloc (.cells #[] 34)) := (Below.refl _ _).alloc (Nat.le_refl _) _
      have HOE := Lib.hid (own_empty w5 w5.heap.size (Nat.le_refl _))
      have HRA2 := Lib.hid (HRA.out.below hbe)
      have HBE := Lib.hid hbe
      clear hbe
      go_wp2_with (first | (at_builtin; refine wpList_append_row rfl _ _ rfl w5.heap.size (some ⟨w5.heap.size, 0, none⟩) 0 0 [] rfl rfl HOE.out Ap np cp p rfl HNP.out HRA2.out (by omega) w5 HBE.out (by simp) ?_; intro A1 cap1 W1 HO1 hB1; simp only [Nat.zero_add]) | (at_builtin; refine wpList_append_row rfl _ _ rfl w5.heap.size A1 cap1 np ([] ++ p) rfl HNP.out HO1.out Aq nq cq q rfl HNQ.out (RdP.below HRB.out hB1) (by omega) w5 hB1 hB1.size ?_; intro A2 cap2 W2 HO2 hB2) | fail)
      have HRAB := Lib.hid (HO2.out.rd)
      rw [List.nil_append] at HRAB
      have HLP : Hid ((p ++ q).length = np + nq) := by show _ = _; rw [List.length_append, HNP.out, HNQ.out]
      have HOKPQ : Hid (okP (p ++ q)) := fun x hx => (List.mem_append.1 hx).elim (HOA.out x) (HOB.out x)
      clear HO1 hB1
      refine (build_any A2 (np + nq) cap2 (p ++ q) most W2 HLP.out HRAB.out HOKPQ.out (small_app HSA.out HSB.out)).mono ?_
      rintro e w8 ⟨zz, al, Sz, Ta, rfl, hB⟩
      have HM2 : Hid (Two w3.heap.size w3 w8 Sx (Sy ++ Tm ++ Ta) (High w8 xb Sx most (keptP sd most (allOf p)) (sumP p)) (MrgY w8 yb Sy m Tm al Ta most p q)) := by
        have hb58 := keep1 hB2 (Two.below hB)
        have hb48 := keep1 HB5.out hb58
        have z1 := hb58.size
        have z2 := hb48.size
        have z3 := hB2.size
        have z4 := HZ4.out
        have z5 := HZ5.out
        refine ⟨(Two.x H1.out).below hb48, ⟨(Two.x H2.out).below hb58, (Two.y H2.out).below hb58, Two.y hB⟩, (Two.ws H1.out).mono z2, fun k hk => ?_, fun k hk hn => ?_, keep1 (Two.below H1.out) hb48, by omega⟩
        · rcases List.mem_append.1 hk with hk | hk
          · rcases List.mem_append.1 hk with hk | hk
            · have := Two.ws H2.out k hk; omega
            · have := Two.wt H2.out k hk; omega
          · have := Two.wt hB k hk; omega
        · have h0 := (Two.ws H1.out k hk).2
          rcases List.mem_append.1 hn with hn | hn
          · rcases List.mem_append.1 hn with hn | hn
            · have := (Two.ws H2.out k hn).1; omega
            · have := (Two.wt H2.out k hn).1; omega
          · have := (Two.wt hB k hn).1; omega
      clear hB hB2 HO2 H1 H2 HRAB HOE HRA2 HBE HB5
      have HMG := Lib.hid (merged HSA.out HSB.out)
      have hsa := HSA.out.s.sum
      have hsb := HSB.out.s.sum
      have HSUM : Hid ((0 ≤ sumP p ∧ sumP p ≤ 135107988821114880) ∧ (0 ≤ sumP q ∧ sumP q ≤ 135107988821114880) ∧ sumP p + sumP q = sumP (p ++ q)) := ⟨hsa, hsb, (sumP_append p q).symm⟩
      clear hsa hsb
      have HALLAB := Lib.hid (small_app HSA.out HSB.out).all
      have HALLB := Lib.hid HSB.out.s.all
      have HOKAB := Lib.hid (allOf_ok HOKPQ.out)
      have HOKB := Lib.hid (allOf_ok HOB.out)
      have HLAB : Hid ((allOf (p ++ q)).length ≤ 1048576) := Nat.le_trans (small_app HSA.out HSB.out).len (by omega)
      have HLB : Hid ((allOf q).length ≤ 1048576) := Nat.le_trans HSB.out.s.len (by omega)
      have HKL : Hid ((keptP sd most (allOf (p ++ q))).length ≤ 9223372036854775807 ∧ (keptP sd most (allOf q)).length ≤ 9223372036854775807) :=
        ⟨Nat.le_trans (List.length_filter_le _ _) (Nat.le_trans HLAB.out (by omega)), Nat.le_trans (List.length_filter_le _ _) (Nat.le_trans HLB.out (by omega))⟩
      have HZ3 := Lib.hid HB3.out.size
      by_cases hz : other < 1 ∨ 4096 < other
      · go_wp2_with fail
        refine (lnew_bad other w8 hz).mono ?_
        rintro e w9 ⟨rfl, rfl⟩
        clear hz
        go_wp2_with fail
        refine (lmerge_any xb yb Sx Sy most _ _ _ _ w8 (Two.x HM2.out) (Two.y HM2.out).1 (by have := HSUM.out; omega)).mono ?_
        rintro e w12 ⟨rfl, Sx', hg, hL, hF⟩
        have H12 := Two.stepX HM2.out hg hL hL.lt hF ((Two.y HM2.out).frame hF HM2.out.ap)
        rw [HMG.out, HSUM.out.2.2] at H12
        replace H12 := Lib.hid H12
        clear hg hL hF HM2
        go_wp2_with fail
        refine (lmerge_nil xb w12).mono ?_
        rintro e w13 ⟨rfl, rfl⟩
        go_wp2_with fail
        refine (lpairs_any xb Sx' most _ _ w12 (Two.x H12.out)).mono ?_
        rintro e w13 ⟨A3, c3, rfl, ho3, hb⟩
        have H13 := Lib.hid (Two.belowW H12.out hb (fun k => k.below hb) (fun k => k.below hb))
        have HR3 := Lib.hid ho3.rd
        clear hb ho3 H12
        go_wp2_with fail
        refine (dlkept_any al Ta most _ w13 (Two.y H13.out).2.2 HLAB.out HALLAB.out.1 HOKAB.out HSA.out.s.m).mono ?_
        rintro e w14 ⟨A4, c4, rfl, ho4, hb⟩
        have H14 := Lib.hid (Two.belowW H13.out hb (fun k => k.below hb) (fun k => k.below hb))
        replace HR3 := Lib.hid (HR3.out.below hb)
        have HR4 := Lib.hid ho4.rd
        clear hb ho4 H13
        go_wp2_with fail
        refine (same_any A3 A4 _ c3 _ c4 _ _ w14 rfl rfl HKL.out.1 HKL.out.1 HR3.out HR4.out).mono ?_
        rintro e w15 ⟨rfl, hb⟩
        rw [decide_eq_true rfl]
        have H15 := Lib.hid (Two.belowW H14.out hb (fun k => k.below hb) (fun k => k.below hb))
        clear hb H14 HR3 HR4
        go_wp2_with fail
        refine (llost_any xb Sx' most _ _ w15 (Two.x H15.out)).mono ?_
        rintro e w16 ⟨rfl, rfl⟩
        go_wp2_with fail
        refine (dllost_any al Ta most _ w15 (Two.y H15.out).2.2 HLAB.out HALLAB.out.1 HOKAB.out (by rw [HALLAB.out.2.1]; have := HSUM.out; omega) HSA.out.s.m).mono ?_
        rintro e w16 ⟨rfl, hb⟩
        rw [HALLAB.out.2.1]
        have H16 := Lib.hid (Two.belowW H15.out hb (fun k => k.below hb) (fun k => k.below hb))
        clear hb H15
        generalize sumP (p ++ q) - sumP (keptP sd most (allOf (p ++ q))) = lv
        go_wp2_with fail
        refine (lpairs_any yb Sy most _ _ w16 (Two.y H16.out).1).mono ?_
        rintro e w17 ⟨A5, c5, rfl, ho5, hb⟩
        have H17 := Lib.hid (Two.belowW H16.out hb (fun k => k.below hb) (fun k => k.below hb))
        have HR5 := Lib.hid ho5.rd
        clear hb ho5 H16
        go_wp2_with fail
        refine (dlkept_any m Tm most _ w17 (Two.y H17.out).2.1 HLB.out HALLB.out.1 HOKB.out HSA.out.s.m).mono ?_
        rintro e w18 ⟨A6, c6, rfl, ho6, hb⟩
        have H18 := Lib.hid (Two.belowW H17.out hb (fun k => k.below hb) (fun k => k.below hb))
        replace HR5 := Lib.hid (HR5.out.below hb)
        have HR6 := Lib.hid ho6.rd
        clear hb ho6 H17
        go_wp2_with fail
        refine (same_any A5 A6 _ c5 _ c6 _ _ w18 rfl rfl HKL.out.2 HKL.out.2 HR5.out HR6.out).mono ?_
        rintro e w19 ⟨rfl, hb⟩
        rw [decide_eq_true rfl]
        have H19 := Lib.hid (Two.belowW H18.out hb (fun k => k.below hb) (fun k => k.below hb))
        clear hb H18 HR5 HR6
        go_wp2_with fail
        refine (llost_any yb Sy most _ _ w19 (Two.y H19.out).1).mono ?_
        rintro e w20 ⟨rfl, rfl⟩
        go_wp2_with fail
        refine (dllost_any m Tm most _ w19 (Two.y H19.out).2.1 HLB.out HALLB.out.1 HOKB.out (by rw [HALLB.out.2.1]; have := HSUM.out; omega) HSA.out.s.m).mono ?_
        rintro e w20 ⟨rfl, hb⟩
        rw [HALLB.out.2.1]
        have HFB := Lib.hid (Two.fin H19.out hb)
        clear hb H19
        generalize sumP q - sumP (keptP sd most (allOf q)) = lv2
        go_wp2
        go_ret
        exact ⟨rfl, HB3.out.trans (HFB.out.mono HZ3.out)⟩
      · go_wp2_with fail
        refine (lnew_any other w8 (by omega) (by omega)).mono ?_
        rintro e w9 ⟨⟨z, S9, rfl, _, hW9, hL9⟩, hb9⟩
        have HL9 := Lib.hid hL9
        replace HM2 := Lib.hid (Two.belowW HM2.out hb9 (fun k => k.below hb9) (fun k => k.below hb9))
        clear hz hW9 hL9 hb9
        by_cases heq : other = most
        · subst heq
          clear HL9
          go_wp2_with fail
          refine (lmerge_any xb yb Sx Sy other _ _ _ _ w9 (Two.x HM2.out) (Two.y HM2.out).1 (by have := HSUM.out; omega)).mono ?_
          rintro e w12 ⟨rfl, Sx', hg, hL, hF⟩
          have H12 := Two.stepX HM2.out hg hL hL.lt hF ((Two.y HM2.out).frame hF HM2.out.ap)
          rw [HMG.out, HSUM.out.2.2] at H12
          replace H12 := Lib.hid H12
          clear hg hL hF HM2
          go_wp2_with fail
          refine (lmerge_nil xb w12).mono ?_
          rintro e w13 ⟨rfl, rfl⟩
          go_wp2_with fail
          refine (lpairs_any xb Sx' other _ _ w12 (Two.x H12.out)).mono ?_
          rintro e w13 ⟨A3, c3, rfl, ho3, hb⟩
          have H13 := Lib.hid (Two.belowW H12.out hb (fun k => k.below hb) (fun k => k.below hb))
          have HR3 := Lib.hid ho3.rd
          clear hb ho3 H12
          go_wp2_with fail
          refine (dlkept_any al Ta other _ w13 (Two.y H13.out).2.2 HLAB.out HALLAB.out.1 HOKAB.out HSA.out.s.m).mono ?_
          rintro e w14 ⟨A4, c4, rfl, ho4, hb⟩
          have H14 := Lib.hid (Two.belowW H13.out hb (fun k => k.below hb) (fun k => k.below hb))
          replace HR3 := Lib.hid (HR3.out.below hb)
          have HR4 := Lib.hid ho4.rd
          clear hb ho4 H13
          go_wp2_with fail
          refine (same_any A3 A4 _ c3 _ c4 _ _ w14 rfl rfl HKL.out.1 HKL.out.1 HR3.out HR4.out).mono ?_
          rintro e w15 ⟨rfl, hb⟩
          rw [decide_eq_true rfl]
          have H15 := Lib.hid (Two.belowW H14.out hb (fun k => k.below hb) (fun k => k.below hb))
          clear hb H14 HR3 HR4
          go_wp2_with fail
          refine (llost_any xb Sx' other _ _ w15 (Two.x H15.out)).mono ?_
          rintro e w16 ⟨rfl, rfl⟩
          go_wp2_with fail
          refine (dllost_any al Ta other _ w15 (Two.y H15.out).2.2 HLAB.out HALLAB.out.1 HOKAB.out (by rw [HALLAB.out.2.1]; have := HSUM.out; omega) HSA.out.s.m).mono ?_
          rintro e w16 ⟨rfl, hb⟩
          rw [HALLAB.out.2.1]
          have H16 := Lib.hid (Two.belowW H15.out hb (fun k => k.below hb) (fun k => k.below hb))
          clear hb H15
          generalize sumP (p ++ q) - sumP (keptP sd other (allOf (p ++ q))) = lv
          go_wp2_with fail
          refine (lpairs_any yb Sy other _ _ w16 (Two.y H16.out).1).mono ?_
          rintro e w17 ⟨A5, c5, rfl, ho5, hb⟩
          have H17 := Lib.hid (Two.belowW H16.out hb (fun k => k.below hb) (fun k => k.below hb))
          have HR5 := Lib.hid ho5.rd
          clear hb ho5 H16
          go_wp2_with fail
          refine (dlkept_any m Tm other _ w17 (Two.y H17.out).2.1 HLB.out HALLB.out.1 HOKB.out HSA.out.s.m).mono ?_
          rintro e w18 ⟨A6, c6, rfl, ho6, hb⟩
          have H18 := Lib.hid (Two.belowW H17.out hb (fun k => k.below hb) (fun k => k.below hb))
          replace HR5 := Lib.hid (HR5.out.below hb)
          have HR6 := Lib.hid ho6.rd
          clear hb ho6 H17
          go_wp2_with fail
          refine (same_any A5 A6 _ c5 _ c6 _ _ w18 rfl rfl HKL.out.2 HKL.out.2 HR5.out HR6.out).mono ?_
          rintro e w19 ⟨rfl, hb⟩
          rw [decide_eq_true rfl]
          have H19 := Lib.hid (Two.belowW H18.out hb (fun k => k.below hb) (fun k => k.below hb))
          clear hb H18 HR5 HR6
          go_wp2_with fail
          refine (llost_any yb Sy other _ _ w19 (Two.y H19.out).1).mono ?_
          rintro e w20 ⟨rfl, rfl⟩
          go_wp2_with fail
          refine (dllost_any m Tm other _ w19 (Two.y H19.out).2.1 HLB.out HALLB.out.1 HOKB.out (by rw [HALLB.out.2.1]; have := HSUM.out; omega) HSA.out.s.m).mono ?_
          rintro e w20 ⟨rfl, hb⟩
          rw [HALLB.out.2.1]
          have HFB := Lib.hid (Two.fin H19.out hb)
          clear hb H19
          generalize sumP q - sumP (keptP sd other (allOf q)) = lv2
          go_wp2
          go_ret
          exact ⟨rfl, HB3.out.trans (HFB.out.mono HZ3.out)⟩
        · have hne : (other == most) = false := beq_eq_false_iff_ne.2 heq
          have HNE := Lib.hid heq
          clear heq
          go_wp2_with fail
          refine (lmerge_match xb z Sx S9 most other _ _ _ _ w9 (Two.x HM2.out) HL9.out (fun e => HNE.out e.symm)).mono ?_
          rintro e w10 ⟨rfl, hb⟩
          replace HM2 := Lib.hid (Two.belowW HM2.out hb (fun k => k.below hb) (fun k => k.below hb))
          replace HL9 := Lib.hid (HL9.out.below hb)
          clear hb
          go_wp2_with fail
          refine (lmerge_match z xb S9 Sx other most _ _ _ _ w10 HL9.out (Two.x HM2.out) HNE.out).mono ?_
          rintro e w11 ⟨rfl, hb⟩
          replace HM2 := Lib.hid (Two.belowW HM2.out hb (fun k => k.below hb) (fun k => k.below hb))
          clear hb HL9
          go_wp2_with fail
          refine (lmerge_any xb yb Sx Sy most _ _ _ _ w11 (Two.x HM2.out) (Two.y HM2.out).1 (by have := HSUM.out; omega)).mono ?_
          rintro e w12 ⟨rfl, Sx', hg, hL, hF⟩
          have H12 := Two.stepX HM2.out hg hL hL.lt hF ((Two.y HM2.out).frame hF HM2.out.ap)
          rw [HMG.out, HSUM.out.2.2] at H12
          replace H12 := Lib.hid H12
          clear hg hL hF HM2
          go_wp2_with fail
          refine (lmerge_nil xb w12).mono ?_
          rintro e w13 ⟨rfl, rfl⟩
          go_wp2_with fail
          refine (lpairs_any xb Sx' most _ _ w12 (Two.x H12.out)).mono ?_
          rintro e w13 ⟨A3, c3, rfl, ho3, hb⟩
          have H13 := Lib.hid (Two.belowW H12.out hb (fun k => k.below hb) (fun k => k.below hb))
          have HR3 := Lib.hid ho3.rd
          clear hb ho3 H12
          go_wp2_with fail
          refine (dlkept_any al Ta most _ w13 (Two.y H13.out).2.2 HLAB.out HALLAB.out.1 HOKAB.out HSA.out.s.m).mono ?_
          rintro e w14 ⟨A4, c4, rfl, ho4, hb⟩
          have H14 := Lib.hid (Two.belowW H13.out hb (fun k => k.below hb) (fun k => k.below hb))
          replace HR3 := Lib.hid (HR3.out.below hb)
          have HR4 := Lib.hid ho4.rd
          clear hb ho4 H13
          go_wp2_with fail
          refine (same_any A3 A4 _ c3 _ c4 _ _ w14 rfl rfl HKL.out.1 HKL.out.1 HR3.out HR4.out).mono ?_
          rintro e w15 ⟨rfl, hb⟩
          rw [decide_eq_true rfl]
          have H15 := Lib.hid (Two.belowW H14.out hb (fun k => k.below hb) (fun k => k.below hb))
          clear hb H14 HR3 HR4
          go_wp2_with fail
          refine (llost_any xb Sx' most _ _ w15 (Two.x H15.out)).mono ?_
          rintro e w16 ⟨rfl, rfl⟩
          go_wp2_with fail
          refine (dllost_any al Ta most _ w15 (Two.y H15.out).2.2 HLAB.out HALLAB.out.1 HOKAB.out (by rw [HALLAB.out.2.1]; have := HSUM.out; omega) HSA.out.s.m).mono ?_
          rintro e w16 ⟨rfl, hb⟩
          rw [HALLAB.out.2.1]
          have H16 := Lib.hid (Two.belowW H15.out hb (fun k => k.below hb) (fun k => k.below hb))
          clear hb H15
          generalize sumP (p ++ q) - sumP (keptP sd most (allOf (p ++ q))) = lv
          go_wp2_with fail
          refine (lpairs_any yb Sy most _ _ w16 (Two.y H16.out).1).mono ?_
          rintro e w17 ⟨A5, c5, rfl, ho5, hb⟩
          have H17 := Lib.hid (Two.belowW H16.out hb (fun k => k.below hb) (fun k => k.below hb))
          have HR5 := Lib.hid ho5.rd
          clear hb ho5 H16
          go_wp2_with fail
          refine (dlkept_any m Tm most _ w17 (Two.y H17.out).2.1 HLB.out HALLB.out.1 HOKB.out HSA.out.s.m).mono ?_
          rintro e w18 ⟨A6, c6, rfl, ho6, hb⟩
          have H18 := Lib.hid (Two.belowW H17.out hb (fun k => k.below hb) (fun k => k.below hb))
          replace HR5 := Lib.hid (HR5.out.below hb)
          have HR6 := Lib.hid ho6.rd
          clear hb ho6 H17
          go_wp2_with fail
          refine (same_any A5 A6 _ c5 _ c6 _ _ w18 rfl rfl HKL.out.2 HKL.out.2 HR5.out HR6.out).mono ?_
          rintro e w19 ⟨rfl, hb⟩
          rw [decide_eq_true rfl]
          have H19 := Lib.hid (Two.belowW H18.out hb (fun k => k.below hb) (fun k => k.below hb))
          clear hb H18 HR5 HR6
          go_wp2_with fail
          refine (llost_any yb Sy most _ _ w19 (Two.y H19.out).1).mono ?_
          rintro e w20 ⟨rfl, rfl⟩
          go_wp2_with fail
          refine (dllost_any m Tm most _ w19 (Two.y H19.out).2.1 HLB.out HALLB.out.1 HOKB.out (by rw [HALLB.out.2.1]; have := HSUM.out; omega) HSA.out.s.m).mono ?_
          rintro e w20 ⟨rfl, hb⟩
          rw [HALLB.out.2.1]
          have HFB := Lib.hid (Two.fin H19.out hb)
          clear hb H19
          generalize sumP q - sumP (keptP sd most (allOf q)) = lv2
          go_wp2
          go_ret
          exact ⟨rfl, HB3.out.trans (HFB.out.mono HZ3.out)⟩
end Go.Proofs.Ytooojpicbbpaaaa

