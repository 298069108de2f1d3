/- The statements' same. -/
import Derived.Test.YtplfiheejecjiaaGreatDoorProg
import Derived.Test.YtplfiheejecjiaaGreatDoorBuild13
namespace Go.Proofs.YtplfiheejecjiaaGreatDoor
open Go.RowKit

theorem keptP_len {s : Bool} {most : Int} {ps : List (Int × Int)} : (keptP s most ps).length ≤ ps.length := List.length_filter_le _ _
set_option maxRecDepth 100000 in
set_option maxHeartbeats 4000000 in
theorem bsame_any (b : Nat) (S : List Nat) (k s : Bool) (part : Nat → Int) (rep : Int → Int) (most : Int) (l : List (Int × Int)) (m : Nat) (lows reps : Value) (d : Int) (A : Option Addr) (len cap : Nat) (w : World) (h : BnV w b S k part rep s most l) (hb : BinsAt w m lows reps d (sideZ s) most A len cap) (hP : PartOk w m part) (hl : l.length = len) (hm : len ≤ 1000) (hR : RdP w A l) (hv : VOk l) :
    Calls Tryz.prog 20 #[.pointer (some ⟨b, 0, none⟩), .pointer (some ⟨m, 0, none⟩)] w fun e w' => e = .returned (.bool true) ∧ Below w.heap.size w w' := by
  have hs := hv.sum
  have hs0 := hv.sum0
  have hmo := h.m14
  have hpr : ∀ a, 0 < a → a ≤ 9223372036854775808 → -9223372036854775808 ≤ part a ∧ part a ≤ 9223372036854775807 := fun a h0 h1 => by
    have := h.rng a h0 h1
    omega
  have HBI := Lib.hid hb
  have t1 : At w m _ _ := hb
  have HROW := Lib.hid fun (bl : Bool) W (hW : Below w.heap.size w W) => brow_any m lows reps d (sideZ s) most A len cap part l bl W (hb.below hW) (hP.below hW) hl (by omega) (hR.below hW) hv.ok hpr
  have HKP := Lib.hid fun (bl : Bool) W (hW : Below w.heap.size w W) => bkept_any m lows reps d s most A len cap part l bl W (hb.below hW) (hP.below hW) hl (by omega) (hR.below hW) hv.ok hv.pos hs hpr hmo
  have HSM := Lib.hid fun (bl : Bool) (A B : Option Addr) (c1 c2 : Nat) W (k1 : RdP W A (keptP s most (rowV part bl l))) (k2 : RdP W B (keptP s most (rowV part bl l))) => same_any A B (keptP s most (rowV part bl l)).length c1 (keptP s most (rowV part bl l)).length c2 _ _ W rfl rfl (by have := rowV_len (part := part) (below := bl) (l := l); have := keptP_len (s := s) (most := most) (ps := rowV part bl l); omega) (by have := rowV_len (part := part) (below := bl) (l := l); have := keptP_len (s := s) (most := most) (ps := rowV part bl l); omega) k1 k2
  have HTO := Lib.hid fun (bl : Bool) (A : Option Addr) (c1 : Nat) W (k1 : RdP W A (rowV part bl l)) => total_any A (rowV part bl l).length c1 _ W rfl (by have := rowV_len (part := part) (below := bl) (l := l); omega) k1 (rowV_ok hpr hv.ok)
  have HTV := Lib.hid fun W (hW : Below w.heap.size w W) => btot_v b S k part rep s most l W (h.below hW) hv
  have HTB := Lib.hid fun W (hW : Below w.heap.size w W) => btotal_any m lows reps d (sideZ s) most A len cap l W (hb.below hW) hl (by omega) (hR.below hW) hv.pos hs
  have HZR := Lib.hid fun W (hW : Below w.heap.size w W) => bzero_v b S k part rep s most l W (h.below hW)
  have HLO := Lib.hid fun W (hW : Below w.heap.size w W) => blost_v b S k part rep s most l W (h.below hW)
  have HRS := Lib.hid fun W (hW : Below w.heap.size w W) => brows_v b S k part rep s most l W (h.below hW)
  rw [← negV_row (part := part) hv.pos (by omega), ← posV_row (part := part) hv.pos (by omega)] at HLO
  obtain ⟨t1', t2⟩ := hv.total (part := part)
  have g0 := sumP_nonneg (rowV_gd (part := part) (below := true) hv.pos (by omega)).pos
  have g1 := sumP_nonneg (rowV_gd (part := part) (below := false) hv.pos (by omega)).pos
  have HR0 := Lib.hid (HROW.out true)
  have HR1 := Lib.hid (HROW.out false)
  have HK0 := Lib.hid (HKP.out true)
  have HK1 := Lib.hid (HKP.out false)
  have HS0 := Lib.hid (HSM.out true)
  have HS1 := Lib.hid (HSM.out false)
  have HT0 := Lib.hid (HTO.out true)
  have HT1 := Lib.hid (HTO.out false)
  unfold KeptR at HK0 HK1
  obtain ⟨P0, hP0⟩ : ∃ v, rowV part true l = v := ⟨_, rfl⟩
  obtain ⟨P1, hP1⟩ : ∃ v, rowV part false l = v := ⟨_, rfl⟩
  rw [hP0] at HRS HS0 HT0 HR0 HK0 HLO t1' g0
  rw [hP1] at HRS HS1 HT1 HR1 HK1 HLO t1' g1
  obtain ⟨K0, hK0⟩ : ∃ v, keptP s most P0 = v := ⟨_, rfl⟩
  obtain ⟨K1, hK1⟩ : ∃ v, keptP s most P1 = v := ⟨_, rfl⟩
  rw [hK0] at HRS HS0 HK0 HLO
  rw [hK1] at HRS HS1 HK1 HLO
  obtain ⟨v0, hv0⟩ : ∃ v, sumP P0 = v := ⟨_, rfl⟩
  obtain ⟨v1, hv1⟩ : ∃ v, sumP P1 = v := ⟨_, rfl⟩
  rw [hv0] at t1' g0 HT0 HLO HK0
  rw [hv1] at t1' g1 HT1 HLO HK1
  obtain ⟨x0, hx0⟩ : ∃ v, v0 - sumP K0 = v := ⟨_, rfl⟩
  obtain ⟨x1, hx1⟩ : ∃ v, v1 - sumP K1 = v := ⟨_, rfl⟩
  rw [hx0] at HLO HK0
  rw [hx1] at HLO HK1
  obtain ⟨z, hz⟩ : ∃ v, zeroV l = v := ⟨_, rfl⟩
  obtain ⟨t, ht⟩ : ∃ v, sumP l = v := ⟨_, rfl⟩
  rw [hz, ht] at t1'
  rw [hz] at t2 HZR
  rw [ht] at HTV HTB hs hs0
  have w0 : v0 % 18446744073709551616 = v0 := by omega
  have w1 : v1 % 18446744073709551616 = v1 := by omega
  rw [w0] at HT0
  rw [w1] at HT1
  have HW1 : Hid (IntKind.u64.wrap (t - v0) = t - v0) := wrap_in (by omega)
  have HW2 : Hid (IntKind.u64.wrap (t - v0 - v1) = z) := by show _ = _; rw [show t - v0 - v1 = z by omega]; exact wrap_in (by omega)
  clear h hb hP hl hm hR hv hmo hpr t1' t2 g0 g1 hv0 hv1 hx0 hx1 hz ht hP0 hP1 hK0 hK1 w0 w1 HSM HTO HROW HKP hs hs0 t1 HBI
  go_enter Tryz.func20, Tryz.ntmps20
  go_wp2_with fail
  refine (HRS.out w (Below.refl _ _)).mono ?_
  rintro e w1 ⟨A0, c0, A1, c1, rfl, hr0, hr1, hb⟩
  have HB1 := Lib.hid hb
  have HA0 := Lib.hid hr0
  have HA1 := Lib.hid hr1
  clear hr0 hr1 hb HRS
  go_wp2_with fail
  refine (HLO.out w1 HB1.out).mono ?_
  rintro e w2 ⟨rfl, hb⟩
  have HB2 := Lib.hid (keep1 HB1.out hb)
  have HA02 := Lib.hid (HA0.out.below hb)
  have HA12 := Lib.hid (HA1.out.below hb)
  clear hb HLO HB1 HA0 HA1
  go_wp2_with fail
  refine (HK0.out w2 HB2.out).mono ?_
  rintro e w3 ⟨A3, c3, rfl, hr, hb⟩
  have HB3 := Lib.hid (keep1 HB2.out hb)
  have HA03 := Lib.hid (HA02.out.below hb)
  have HA13 := Lib.hid (HA12.out.below hb)
  have HX := Lib.hid hr
  clear hr hb HK0 HB2 HA02 HA12
  go_wp2_with fail
  refine (HK1.out w3 HB3.out).mono ?_
  rintro e w4 ⟨A4, c4, rfl, hr, hb⟩
  have HB4 := Lib.hid (keep1 HB3.out hb)
  have HA04 := Lib.hid (HA03.out.below hb)
  have HA14 := Lib.hid (HA13.out.below hb)
  have HX4 := Lib.hid (HX.out.below hb)
  have HY := Lib.hid hr
  clear hr hb HK1 HB3 HA03 HA13 HX
  go_wp2_with fail
  refine (HS0.out A0 A3 c0 c3 w4 HA04.out HX4.out).mono ?_
  rintro e w5 ⟨rfl, hb⟩
  rw [decide_true]
  have HB5 := Lib.hid (keep1 HB4.out hb)
  have HA15 := Lib.hid (HA14.out.below hb)
  have HY5 := Lib.hid (HY.out.below hb)
  clear hb HS0 HB4 HA04 HX4 HA14 HY
  go_wp2_with fail
  refine (HS1.out A1 A4 c1 c4 w5 HA15.out HY5.out).mono ?_
  rintro e w6 ⟨rfl, hb⟩
  rw [decide_true]
  have HB6 := Lib.hid (keep1 HB5.out hb)
  clear hb HS1 HB5 HA15 HY5
  go_wp2_with fail
  refine (HTV.out w6 HB6.out).mono ?_
  rintro e w7 ⟨rfl, hb⟩
  have HB7 := Lib.hid (keep1 HB6.out hb)
  clear hb HB6 HTV
  go_wp2_with fail
  refine (HTB.out w7 HB7.out).mono ?_
  rintro e w8 ⟨rfl, hb⟩
  have HB8 := Lib.hid (keep1 HB7.out hb)
  clear hb HB7
  go_wp2_with fail
  refine (HZR.out w8 HB8.out).mono ?_
  rintro e w9 ⟨rfl, rfl⟩
  clear HZR
  go_wp2_with fail
  refine (HTB.out w8 HB8.out).mono ?_
  rintro e w10 ⟨rfl, hb⟩
  have HB10 := Lib.hid (keep1 HB8.out hb)
  clear hb HB8 HTB
  go_wp2_with fail
  refine (HR0.out w10 HB10.out).mono ?_
  rintro e w11 ⟨A11, c11, rfl, hr, hb⟩
  have HB11 := Lib.hid (keep1 HB10.out hb)
  have HX := Lib.hid hr
  clear hb hr HB10 HR0
  go_wp2_with fail
  refine (HT0.out A11 c11 w11 HX.out).mono ?_
  rintro e w12 ⟨rfl, hb⟩
  have HB12 := Lib.hid (keep1 HB11.out hb)
  clear hb HB11 HX HT0
  go_wp2_with fail
  refine (HR1.out w12 HB12.out).mono ?_
  rintro e w13 ⟨A13, c13, rfl, hr, hb⟩
  have HB13 := Lib.hid (keep1 HB12.out hb)
  have HX := Lib.hid hr
  clear hb hr HB12 HR1
  go_wp2_with fail
  refine (HT1.out A13 c13 w13 HX.out).mono ?_
  rintro e w14 ⟨rfl, hb⟩
  have HB14 := Lib.hid (keep1 HB13.out hb)
  clear hb HB13 HX HT1
  have hw1 := HW1.out
  have hz2 := HW2.out
  go_wp2
  go_ret
  exact ⟨rfl, HB14.out⟩
theorem BothB.same {B : Nat} {w wr : World} {b m : Nat} {S TB : List Nat} {k s : Bool} {part : Nat → Int} {rep stand : Int → Int} {u v d most : Int} {A : Option Addr} {len cap : Nat} {l : List (Int × Int)} (h : BothB B w wr b m S TB k s part rep u v d most A len cap l) (hc : Cs u v d k part rep stand) (hl : l.length = len) (hm : len ≤ 1000) (hR : RdP wr A l) (hv : VOk l) :
    Calls Tryz.prog 20 #[.pointer (some ⟨b, 0, none⟩), .pointer (some ⟨m, 0, none⟩)] wr fun e w' => e = .returned (.bool true) ∧ Below wr.heap.size wr w' := by
  obtain ⟨lows, reps, hBI, hPO, _⟩ := DocAt.get (Two.y h) hc
  exact bsame_any b S k s part rep most l m lows reps d A len cap wr (Two.x h) hBI hPO hl hm hR hv
end Go.Proofs.YtplfiheejecjiaaGreatDoor
