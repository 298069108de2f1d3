/- The walk of the statement HdrDoes. -/
import Derived.Test.YtnkkdciecjhpoaaDoorProg
import Derived.Test.YtnkkdciecjhpoaaDoorOpen
import Derived.Test.YtnkkdciecjhpoaaDoorPlayAll
import Derived.Test.YtnkkdciecjhpoaaDoorRef15
import Derived.Test.YtnkkdciecjhpoaaDoorHdrAsk
namespace Go.Proofs.YtnkkdciecjhpoaaDoor
open Go.RowKit

set_option maxHeartbeats 2000000 in
theorem hdrDoes_walk (w : World) (hTens : TensAt w) (digits : Int) (bddigits : -9223372036854775808 ≤ digits ∧ digits ≤ 9223372036854775807) (Avals : Option Addr) (cvals : Nat) (vals : List (Int × Int)) (rvals : Rd w Avals (vals.flatMap fun x => [.int .i64 x.1, .int .u64 x.2])) (bdvals : ∀ x ∈ vals, (-9223372036854775808 ≤ x.1 ∧ x.1 ≤ 9223372036854775807) ∧ (0 ≤ x.2 ∧ x.2 < 18446744073709551616)) (lvals : vals.length ≤ 9223372036854775807) (p0 p1 : Int) (bdp0 : 0 ≤ p0 ∧ p0 < 18446744073709551616) (bdp1 : 0 ≤ p1 ∧ p1 < 18446744073709551616) (x : Int) (bdx : -9223372036854775808 ≤ x ∧ x ≤ 9223372036854775807) :
    Calls Tryd.prog 6 #[.int .i64 digits, .slice Avals vals.length cvals, .agg #[.int .u64 p0, .int .u64 p1], .int .i64 x] w fun e w' => e = .returned (.bool true) ∧ Below w.heap.size w w' := by
  have HPQ : Hid ((0 ≤ p0 ∧ p0 < 18446744073709551616) ∧ (0 ≤ p1 ∧ p1 < 18446744073709551616)) := ⟨bdp0, bdp1⟩
  have HXB : Hid (-9223372036854775808 ≤ x ∧ x ≤ 9223372036854775807) := bdx
  have HR : Hid (RdP w Avals vals) := rvals
  have HO : Hid (okP vals) := bdvals
  have HTN := Lib.hid hTens
  clear rvals bdvals bddigits bdp0 bdp1 bdx hTens
  obtain ⟨len, hlen⟩ : ∃ len, vals.length = len := ⟨_, rfl⟩
  have HLN := Lib.hid hlen
  rw [hlen] at lvals ⊢
  clear hlen
  go_enter Tryd.func6, Tryd.ntmps6
  have hb0 : Below w.heap.size w (w.alloc (.cells #[.int .u64 p0, .int .u64 p1] 25)) := (Below.refl _ _).alloc (Nat.le_refl _) _
  have r2 := At.new' w #[.int .u64 p0, .int .u64 p1] 25 rfl
  go_wp2_with fail
  obtain ⟨rb, hrb⟩ : ∃ r, w.heap.size = r := ⟨_, rfl⟩
  obtain ⟨W1, hW1⟩ : ∃ W1, w.alloc (.cells #[.int .u64 p0, .int .u64 p1] 25) = W1 := ⟨_, rfl⟩
  rw [hW1] at hb0 r2 ⊢
  rw [hrb] at r2
  try rw [hrb]
  clear hW1 hrb
  refine (alive_any _ (HTN.out.below hb0)).mono ?_
  rintro e w1 ⟨rfl, hb⟩
  have hb1 := keep1 hb0 hb
  replace r2 := r2.below hb
  clear hb0 hb
  go_wp2_with fail
  refine (build_any Avals len cvals vals digits w1 (HTN.out.below hb1) HLN.out lvals (HR.out.below hb1) HO.out).mono ?_
  rintro e w2 (⟨hn, rfl, hb⟩ | ⟨hP, b, m, S, rfl, hB⟩)
  · have hb2 := keep1 hb1 hb
    clear hn hb hb1
    go_wp2
    go_ret
    exact ⟨rfl, hb2⟩
  · have HP := Lib.hid hP
    have HV := Lib.hid (hP.vok HO.out)
    have HB1 := Lib.hid hb1
    have H2 := Lib.hid hB
    have HR2 := Lib.hid ((HR.out.below hb1).below (Two.below hB))
    replace r2 := r2.below (Two.below hB)
    have f2 := r2.two
    have l2 := r2.lt
    clear hP hb1 hB
    obtain ⟨B1, hB1⟩ : ∃ B, w1.heap.size = B := ⟨_, rfl⟩
    have HBE := Lib.hid hB1
    rw [hB1] at H2
    clear hB1 HTN HR
    go_wp2_with fail
    refine (hquant_v b S digits 0 vals p0 p1 w2 H2.out.x HV.out HPQ.out.1.1 HPQ.out.1.2 HPQ.out.2.1 HPQ.out.2.2).mono ?_
    rintro e w3 ⟨rfl, hb⟩
    have H3 := Lib.hid (BothH.abide H2.out hb)
    replace HR2 := Lib.hid (HR2.out.below hb)
    replace r2 := r2.below hb
    replace f2 := r2.two
    replace l2 := r2.lt
    clear hb H2
    go_wp2_with fail
    refine (rquant15_any m (.slice none 0 0) (.slice none 0 0) digits 0 4096 Avals len cvals (standV (repM (gOf digits))) vals p0 p1 w3 H3.out.y (standD_ok w3 m _ _ digits 0 4096 Avals len cvals H3.out.y HP.out.m.1 HP.out.m.2) HLN.out (by have := HP.out.n; have := HLN.out; omega) HR2.out HO.out HV.out.pos HV.out.sum HPQ.out.1.1 HPQ.out.1.2 HPQ.out.2.1 HPQ.out.2.2).mono ?_
    rintro e w4 ⟨rfl, hb⟩
    have H4 := Lib.hid (BothH.abide H3.out hb)
    replace HR2 := Lib.hid (HR2.out.below hb)
    clear hb H3 r2 f2 l2
    obtain ⟨qv, hqv⟩ : ∃ q, quantD (standV (repM (gOf digits))) vals p0 p1 = q := ⟨_, rfl⟩
    obtain ⟨ev, hev⟩ : ∃ q, placeE p0 p1 (sumP vals) = q := ⟨_, rfl⟩
    simp only [hqv, hev]
    clear hqv hev
    go_wp2_with fail
    refine (hrank_v b S digits 0 vals x w4 H4.out.x HV.out HXB.out.1 HXB.out.2).mono ?_
    rintro e w5 ⟨rfl, hb⟩
    have H5 := Lib.hid (BothH.abide H4.out hb)
    replace HR2 := Lib.hid (HR2.out.below hb)
    clear hb H4
    go_wp2_with fail
    refine (rrank15_any m (.slice none 0 0) (.slice none 0 0) digits 0 4096 Avals len cvals vals x w5 H5.out.y HP.out.m.1 HP.out.m.2 HLN.out (by have := HP.out.n; have := HLN.out; omega) HR2.out HV.out.pos HV.out.sum HXB.out.1 HXB.out.2).mono ?_
    rintro e w6 ⟨rfl, hb⟩
    have H6 := Lib.hid (BothH.abide H5.out hb)
    replace HR2 := Lib.hid (HR2.out.below hb)
    clear hb H5
    obtain ⟨v1, hv1⟩ : ∃ q, rankD1 (gOf digits) vals x = q := ⟨_, rfl⟩
    obtain ⟨v2, hv2⟩ : ∃ q, rankD2 (gOf digits) vals x = q := ⟨_, rfl⟩
    simp only [hv1, hv2]
    clear hv1 hv2
    have HFB := Lib.hid (Two.below H6.out)
    go_wp2_with fail
    refine (hsame_any b S digits 0 vals m (.slice none 0 0) (.slice none 0 0) 0 4096 Avals len cvals w6 H6.out.x H6.out.y HLN.out (by have := HP.out.n; have := HLN.out; omega) HR2.out HV.out HP.out.m.1 HP.out.m.2).mono ?_
    rintro e w7 ⟨rfl, hb⟩
    have HF7 : Hid (Below w.heap.size w w7) := keep1 (HB1.out.trans (HFB.out.mono (by have := HBE.out; have := HB1.out.size; omega))) hb
    clear H6 HFB HB1 hb
    go_wp2
    go_ret
    exact ⟨rfl, HF7.out⟩
end Go.Proofs.YtnkkdciecjhpoaaDoor
