/- The walk of the statement BinsLoads. -/
import Derived.Test.YtplfiheejecjiaaGreatDoorProg
import Derived.Test.YtplfiheejecjiaaGreatDoorOpen
import Derived.Test.YtplfiheejecjiaaGreatDoorSame13
import Derived.Test.YtplfiheejecjiaaGreatDoorCase
import Derived.Test.YtplfiheejecjiaaGreatDoorBnLoadV
namespace Go.Proofs.YtplfiheejecjiaaGreatDoor
open Go.RowKit

/-- The bins and the document's, while other bins come and go. -/
structure BL (w : World) (n3 : Nat) (W : World) (b m : Nat) (S TB : List Nat) (k s : Bool) (part : Nat → Int) (rep : Int → Int) (u v d most : Int) (c : List (Int × Int)) (A : Option Addr) (len cap : Nat) : Prop where
  hb : BnV W b S k part rep s most c
  hm : DocAt W m TB u v d (sideZ s) most A len cap
  bl : Below w.heap.size w W
  z : n3 ≤ W.heap.size
section
variable {w W W' : World} {n3 b m : Nat} {S TB T : List Nat} {k s : Bool} {part : Nat → Int} {rep : Int → Int} {u v d most : Int} {c : List (Int × Int)} {A : Option Addr} {len cap : Nat}
theorem BL.below (h : BL w n3 W b m S TB k s part rep u v d most c A len cap) (hb : Below W.heap.size W W') : BL w n3 W' b m S TB k s part rep u v d most c A len cap :=
  ⟨h.hb.below hb, h.hm.below hb, keep1 h.bl hb, Nat.le_trans h.z hb.size⟩
theorem BL.frame (h : BL w n3 W b m S TB k s part rep u v d most c A len cap) (hF : Frame T W W') (h1 : ∀ j ∈ S, j < n3) (h2 : ∀ j ∈ TB, j < n3) (hT : ∀ j ∈ T, n3 ≤ j) (hz : w.heap.size ≤ n3) (hlt : ∀ j ∈ T, j < W.heap.size) : BL w n3 W' b m S TB k s part rep u v d most c A len cap :=
  ⟨h.hb.frame hF fun j hj hn => by have := h1 j hj; have := hT j hn; omega, h.hm.frame hF fun j hj hn => by have := h2 j hj; have := hT j hn; omega, hF.below' h.bl h.bl.size fun j hj => ⟨by have := hT j hj; omega, hlt j hj⟩, Nat.le_trans h.z hF.size⟩
theorem grown_ge {S S' : List Nat} {n n3 : Nat} (hg : GrownS S S' n) (h : ∀ j ∈ S, n3 ≤ j) (hz : n3 ≤ n) : ∀ j ∈ S', n3 ≤ j := fun j hj => by
  rcases hg j hj with h1 | h1
  · exact h j h1
  · omega
end
set_option maxRecDepth 100000 in
set_option maxHeartbeats 4000000 in
theorem binsLoads_walk (w : World) (hTens : TensAt w) (cu cv cd cs cm : Int) (bdcu : 0 ≤ cu ∧ cu < 18446744073709551616) (bdcv : 0 ≤ cv ∧ cv < 18446744073709551616) (bdcd : -9223372036854775808 ≤ cd ∧ cd ≤ 9223372036854775807) (bdcs : -9223372036854775808 ≤ cs ∧ cs ≤ 9223372036854775807) (bdcm : -9223372036854775808 ≤ cm ∧ cm ≤ 9223372036854775807) (Ac : Option Addr) (cc : Nat) (c : List (Int × Int)) (rc : Rd w Ac (c.flatMap fun x => [.int .i64 x.1, .int .u64 x.2])) (bdc : ∀ x ∈ c, (-9223372036854775808 ≤ x.1 ∧ x.1 ≤ 9223372036854775807) ∧ (0 ≤ x.2 ∧ x.2 < 18446744073709551616)) (lc : c.length ≤ 9223372036854775807) (x : Int) (bdx : -9223372036854775808 ≤ x ∧ x ≤ 9223372036854775807) (Arow : Option Addr) (crow : Nat) (row : List (Int × Int)) (rrow : Rd w Arow (row.flatMap fun x => [.int .i64 x.1, .int .u64 x.2])) (bdrow : ∀ x ∈ row, (-9223372036854775808 ≤ x.1 ∧ x.1 ≤ 9223372036854775807) ∧ (0 ≤ x.2 ∧ x.2 < 18446744073709551616)) (lrow : row.length ≤ 9223372036854775807) (lost : Int) (bdlost : 0 ≤ lost ∧ lost < 18446744073709551616) (zero : Int) (bdzero : 0 ≤ zero ∧ zero < 18446744073709551616) :
    Calls Tryz.prog 6 #[.agg #[.int .u64 cu, .int .u64 cv, .int .i64 cd, .int .i64 cs, .int .i64 cm, .slice Ac c.length cc], .int .i64 x, .slice Arow row.length crow, .int .u64 lost, .int .u64 zero] w fun e w' => e = .returned (.bool true) ∧ Below w.heap.size w w' := by
  have HRW0 : Hid (RdP w Arow row) := rrow
  have HCR : Hid (okP row) := bdrow
  obtain ⟨nr, hnr⟩ : ∃ n, row.length = n := ⟨_, rfl⟩
  have HNR := Lib.hid hnr
  have HX := Lib.hid bdx
  have HLZ := Lib.hid (And.intro bdlost bdzero)
  rw [hnr]
  clear rrow bdrow lrow hnr bdx bdlost bdzero
  have HTN := Lib.hid hTens
  have HC0 : Hid (okP c) := bdc
  have HRC0 : Hid (RdP w Ac c) := rc
  obtain ⟨n, hn⟩ : ∃ n, c.length = n := ⟨_, rfl⟩
  have HN := Lib.hid hn
  have HUV := Lib.hid (And.intro bdcu bdcv)
  rw [hn]
  have hba : Below w.heap.size w (w.alloc (.cells #[.int .u64 cu, .int .u64 cv, .int .i64 cd, .int .i64 cs, .int .i64 cm, .slice Ac n cc] 27)) := (Below.refl _ _).alloc (Nat.le_refl _) _
  have am : At (w.alloc (.cells #[.int .u64 cu, .int .u64 cv, .int .i64 cd, .int .i64 cs, .int .i64 cm, .slice Ac n cc] 27)) w.heap.size #[.int .u64 cu, .int .u64 cv, .int .i64 cd, .int .i64 cs, .int .i64 cm, .slice Ac n cc] 27 := At.new' _ _ _ rfl
  clear hTens bdcu bdcv bdcd bdcs bdcm rc bdc lc hn
  go_enter Tryz.func6, Tryz.ntmps6
  go_wp2_with fail
  obtain ⟨W1, hW1⟩ : ∃ W, w.alloc (.cells #[.int .u64 cu, .int .u64 cv, .int .i64 cd, .int .i64 cs, .int .i64 cm, .slice Ac n cc] 27) = W := ⟨_, rfl⟩
  obtain ⟨rb, hrb⟩ : ∃ r, w.heap.size = r := ⟨_, rfl⟩
  rw [hW1] at hba am
  rw [hrb] at am
  simp only [hW1, hrb]
  clear hW1 hrb
  refine (alive_any W1 (HTN.out.below hba)).mono ?_
  rintro e w2 ⟨rfl, hb⟩
  have HB2 := Lib.hid (keep1 hba hb)
  have a2 := am.below hb
  have HAM := Lib.hid a2
  have f2 := a2.six
  have l2 := a2.lt
  clear hba hb am a2
  go_wp2_with fail
  refine (build_any cu cv cd cs cm Ac n cc c w2 (HTN.out.below HB2.out) HUV.out.1 HUV.out.2 HN.out (HRC0.out.below HB2.out) HC0.out).mono ?_
  rintro e w3 (⟨rfl, hb⟩ | ⟨hp, k, s, part, rep, stand, b, m, S, TB, rfl, hc, rfl, hB⟩)
  · have HB3 := Lib.hid (keep1 HB2.out hb)
    clear hb HB2 f2 l2 HAM
    go_wp2
    go_ret
    exact ⟨rfl, HB3.out⟩
  have HP := Lib.hid hp
  have HV := Lib.hid (hp.vok HC0.out)
  have HC := Lib.hid hc
  have HB3 := Lib.hid (keep1 HB2.out (Two.below hB))
  have hc3 := HAM.out.below (Two.below hB)
  obtain ⟨n3, hn3⟩ : ∃ z, w3.heap.size = z := ⟨_, rfl⟩
  have HS1 : Hid (∀ j ∈ S, j < n3) := fun j hj => by have := ((Two.ws hB) j hj).2; omega
  have HSW : Hid (∀ j ∈ S, w.heap.size ≤ j) := fun j hj => Nat.le_trans HB2.out.size ((Two.ws hB) j hj).1
  have HTB : Hid (∀ j ∈ TB, j < n3) := fun j hj => by have := ((Two.wt hB) j hj).2; omega
  have HZ3 : Hid (w.heap.size ≤ n3) := by have := HB3.out.size; show _ ≤ _; omega
  have H3 : Hid (BL w n3 w3 b m S TB k s part rep cu cv cd cm c Ac n cc) := ⟨Two.x hB, Two.y hB, HB3.out, by omega⟩
  have H60 : Hid (n ≤ 60) := by have := HP.out.n; have := HN.out; show _ ≤ _; omega
  have HSM : Hid (sumP c + 3 ≤ 9223372036854775807) := by have := HP.out.sum; show _ ≤ _; omega
  have HN3 := Lib.hid hn3
  have f3 := hc3.six
  have l3 := hc3.lt
  clear hp hB hc hc3 HB2 HAM f2 l2 HB3 hn3
  by_cases hnr60 : 60 < nr
  · have hd1 : decide ((60 : Int) < nr) = true := decide_eq_true (by omega)
    have hd2 : decide (60 < nr) = true := decide_eq_true hnr60
    clear hnr60
    go_wp2
    go_ret
    exact ⟨rfl, H3.out.bl⟩
  have hd1 : decide ((60 : Int) < nr) = false := decide_eq_false (by omega)
  have hd2 : decide (60 < nr) = false := decide_eq_false hnr60
  have HR60 : Hid (nr ≤ 60) := by show _ ≤ _; omega
  clear hnr60
  go_wp2_with fail
  refine (empty_any cu cv cd k s part rep stand cm Ac n cc w3 (HTN.out.below H3.out.bl) HC.out HP.out.m).mono ?_
  rintro e w4 ⟨⟨d, S2, rfl, hW, hN⟩, hb⟩
  have H4 := Lib.hid (H3.out.below hb)
  have HD4 := Lib.hid hN
  have HS2 : Hid (∀ j ∈ S2, n3 ≤ j) := fun j hj => by have := (hW j hj).1; have := HN3.out; omega
  clear hW hN hb H3 f3 l3 hd1 hd2 HN3
  go_wp2_with fail
  refine (brows_v b S k part rep s cm c w4 H4.out.hb).mono ?_
  rintro e w5 ⟨A0, k0, A1, k1, rfl, hr0, hr1, hb⟩
  have HA0 := Lib.hid hr0
  have HA1 := Lib.hid hr1
  have H5 := Lib.hid (H4.out.below hb)
  have HD5 := Lib.hid (HD4.out.below hb)
  have HLO := Lib.hid (blost_v b S k part rep s cm c w5 H5.out.hb)
  have HOW := Lib.hid fun (n0 n1 : Nat) W (h : BnV W d S2 k part rep s cm []) k0' k1' R0 R1 => bload_own d S2 k part rep s cm [] c A0 n0 k0 A1 n1 k1 W h HV.out k0' k1' R0 R1
  have HZE := Lib.hid fun W (h : BnV W b S k part rep s cm c) => bzero_v b S k part rep s cm c W h
  obtain ⟨K0, hK0⟩ : ∃ z, keptP s cm (rowV part true c) = z := ⟨_, rfl⟩
  obtain ⟨K1, hK1⟩ : ∃ z, keptP s cm (rowV part false c) = z := ⟨_, rfl⟩
  rw [hK0] at HA0 HLO HOW ⊢
  rw [hK1] at HA1 HLO HOW ⊢
  obtain ⟨n0, hn0⟩ : ∃ z, K0.length = z := ⟨_, rfl⟩
  obtain ⟨n1, hn1⟩ : ∃ z, K1.length = z := ⟨_, rfl⟩
  obtain ⟨lo0, hlo0⟩ : ∃ z, negV c - sumP K0 = z := ⟨_, rfl⟩
  obtain ⟨lo1, hlo1⟩ : ∃ z, posV c - sumP K1 = z := ⟨_, rfl⟩
  obtain ⟨zv, hzv⟩ : ∃ z, zeroV c = z := ⟨_, rfl⟩
  have HNN := Lib.hid (And.intro hn0 hn1)
  rw [hn0, hn1]
  rw [hlo0, hlo1] at HLO HOW
  rw [hzv] at HZE HOW
  clear hr0 hr1 hb hK0 hK1 hn0 hn1 hlo0 hlo1 hzv H4 HD4
  go_wp2_with fail
  refine HLO.out.mono ?_
  rintro e w6 ⟨rfl, hb⟩
  have H6 := Lib.hid (H5.out.below hb)
  have HD6 := Lib.hid (HD5.out.below hb)
  have HA06 := Lib.hid (HA0.out.below hb)
  have HA16 := Lib.hid (HA1.out.below hb)
  clear hb H5 HD5 HA0 HA1 HLO
  go_wp2_with fail
  refine (HZE.out w6 H6.out.hb).mono ?_
  rintro e w7 ⟨rfl, rfl⟩
  clear HZE
  go_wp2_with fail
  refine (HOW.out n0 n1 w6 HD6.out HNN.out.1 HNN.out.2 HA06.out HA16.out).mono ?_
  rintro e w8 ⟨rfl, S3, hg, hX, hF⟩
  have H8 := Lib.hid (H6.out.frame hF HS1.out HTB.out HS2.out HZ3.out HD6.out.lt)
  have HD8 := Lib.hid hX
  have HS3 := Lib.hid (grown_ge hg HS2.out H6.out.z)
  clear hg hX hF H6 HD6 HA06 HA16 HOW HNN HS2
  go_wp2_with fail
  obtain ⟨lows, reps, hBI, hPO, _⟩ := H8.out.hm.get HC.out
  refine (bsame_any d S3 k s part rep cm c m lows reps cd Ac n cc w8 HD8.out hBI hPO HN.out (by have := H60.out; omega) (HRC0.out.below H8.out.bl) HV.out).mono ?_
  rintro e w9 ⟨rfl, hb⟩
  have H9 := Lib.hid (H8.out.below hb)
  have HD9 := Lib.hid (HD8.out.below hb)
  clear hb H8 HD8 hBI hPO
  go_wp2_with fail
  refine (badd_v d S3 k part rep s cm x 3 c w9 HD9.out HV.out HX.out (by omega) HSM.out).mono ?_
  rintro e w10 ⟨rfl, S4, hg, hX, hF⟩
  have H10 := Lib.hid (H9.out.frame hF HS1.out HTB.out HS3.out HZ3.out HD9.out.lt)
  have HD10 := Lib.hid hX
  have HS4 := Lib.hid (grown_ge hg HS3.out H9.out.z)
  clear hg hX hF H9 HD9 HS3
  go_wp2_with fail
  refine (badd_v b S k part rep s cm x 3 c w10 H10.out.hb HV.out HX.out (by omega) HSM.out).mono ?_
  rintro e w11 ⟨rfl, S5, hg, hX, hF⟩
  have HB11 := Lib.hid hX
  have HD11 := Lib.hid (HD10.out.frame hF fun j hj hn => by have := HS4.out j hj; have := HS1.out j hn; omega)
  have HW11 : Hid (Below w.heap.size w w11) := hF.below' H10.out.bl H10.out.bl.size fun j hj => ⟨HSW.out j hj, H10.out.hb.lt j hj⟩
  have HS5 := Lib.hid (grown_ge hg HSW.out H10.out.bl.size)
  have HV2 := Lib.hid (HV.out.snoc HX.out (c := 3) (by omega) HSM.out)
  clear hg hX hF H10 HD10 HX HSM HV
  obtain ⟨cx, hcx⟩ : ∃ z, c ++ [(x, (3 : Int))] = z := ⟨_, rfl⟩
  rw [hcx] at HB11 HD11 HV2
  clear hcx
  have HOK := Lib.hid (bload_ok HB11.out HV2.out)
  have HM := Lib.hid HB11.out.m14
  have HRD := Lib.hid (brows_v d S4 k part rep s cm cx w11 HD11.out)
  have HRB := Lib.hid fun W (h : BnV W b S5 k part rep s cm cx) => brows_v b S5 k part rep s cm cx W h
  have HTD := Lib.hid fun W (h : BnV W d S4 k part rep s cm cx) => btot_v d S4 k part rep s cm cx W h HV2.out
  have HTT := Lib.hid fun W (h : BnV W b S5 k part rep s cm cx) => btot_v b S5 k part rep s cm cx W h HV2.out
  obtain ⟨K2, hK2⟩ : ∃ z, keptP s cm (rowV part true cx) = z := ⟨_, rfl⟩
  obtain ⟨K3, hK3⟩ : ∃ z, keptP s cm (rowV part false cx) = z := ⟨_, rfl⟩
  obtain ⟨T, hT⟩ : ∃ z, sumP cx = z := ⟨_, rfl⟩
  rw [hK2, hK3] at HOK HRD HRB
  rw [hT] at HTD HTT
  unfold RowsR at HRD HRB
  obtain ⟨n4, hn4⟩ : ∃ z, K2.length = z := ⟨_, rfl⟩
  obtain ⟨n5, hn5⟩ : ∃ z, K3.length = z := ⟨_, rfl⟩
  have HNN := Lib.hid (And.intro hn4 hn5)
  rw [hn4, hn5] at HRD HRB
  have HSA : Hid (∀ (A B : Option Addr) (c1 c2 : Nat) W, RdP W A K2 → RdP W B K2 → Calls Tryz.prog 26 #[.slice A n4 c1, .slice B n4 c2] W fun e W' => e = .returned (.bool true) ∧ Below W.heap.size W W') := fun A B c1 c2 W r1 r2 =>
    (same_any A B n4 c1 n4 c2 K2 K2 W HNN.out.1 HNN.out.1 (by have := HOK.out.l0.ln; have := HM.out; have := HNN.out; omega) (by have := HOK.out.l0.ln; have := HM.out; have := HNN.out; omega) r1 r2).mono fun e W' h => ⟨by rw [h.1, decide_eq_true rfl], h.2⟩
  have HSB : Hid (∀ (A B : Option Addr) (c1 c2 : Nat) W, RdP W A K3 → RdP W B K3 → Calls Tryz.prog 26 #[.slice A n5 c1, .slice B n5 c2] W fun e W' => e = .returned (.bool true) ∧ Below W.heap.size W W') := fun A B c1 c2 W r1 r2 =>
    (same_any A B n5 c1 n5 c2 K3 K3 W HNN.out.2 HNN.out.2 (by have := HOK.out.l1.ln; have := HM.out; have := HNN.out; omega) (by have := HOK.out.l1.ln; have := HM.out; have := HNN.out; omega) r1 r2).mono fun e W' h => ⟨by rw [h.1, decide_eq_true rfl], h.2⟩
  have htt : (T == T) = true := beq_self_eq_true T
  have htn : (T != T) = false := by rw [bne, htt]; rfl
  clear hK2 hK3 hT hn4 hn5 HOK HM
  go_wp2_with fail
  refine HRD.out.mono ?_
  rintro e w12 ⟨A2, k2, A3, k3, rfl, hr2, hr3, hb⟩
  have HA2 := Lib.hid hr2
  have HA3 := Lib.hid hr3
  have HB12 := Lib.hid (HB11.out.below hb)
  have HD12 := Lib.hid (HD11.out.below hb)
  have HW12 := Lib.hid (keep1 HW11.out hb)
  clear hr2 hr3 hb HB11 HD11 HW11 HRD
  go_wp2_with fail
  refine (HRB.out w12 HB12.out).mono ?_
  rintro e w13 ⟨A4, k4, A5, k5, rfl, hr4, hr5, hb⟩
  have HA4 := Lib.hid hr4
  have HA5 := Lib.hid hr5
  have HA23 := Lib.hid (HA2.out.below hb)
  have HA33 := Lib.hid (HA3.out.below hb)
  have HB13 := Lib.hid (HB12.out.below hb)
  have HD13 := Lib.hid (HD12.out.below hb)
  have HW13 := Lib.hid (keep1 HW12.out hb)
  clear hr4 hr5 hb HB12 HD12 HW12 HA2 HA3
  go_wp2_with fail
  refine (HSA.out A2 A4 k2 k4 w13 HA23.out HA4.out).mono ?_
  rintro e w14 ⟨rfl, hb⟩
  have HA5' := Lib.hid (HA5.out.below hb)
  have HA24 := Lib.hid (HA23.out.below hb)
  have HA34 := Lib.hid (HA33.out.below hb)
  have HB14 := Lib.hid (HB13.out.below hb)
  have HD14 := Lib.hid (HD13.out.below hb)
  have HW14 := Lib.hid (keep1 HW13.out hb)
  clear hb HB13 HD13 HW13 HA23 HA33 HA4 HA5
  go_wp2_with fail
  refine (HSB.out A3 A5 k3 k5 w14 HA34.out HA5'.out).mono ?_
  rintro e w15 ⟨rfl, hb⟩
  have HA25 := Lib.hid (HA24.out.below hb)
  have HA35 := Lib.hid (HA34.out.below hb)
  have HB15 := Lib.hid (HB14.out.below hb)
  have HD15 := Lib.hid (HD14.out.below hb)
  have HW15 := Lib.hid (keep1 HW14.out hb)
  clear hb HB14 HD14 HW14 HA24 HA34 HA5'
  go_wp2_with fail
  refine (HTD.out w15 HD15.out).mono ?_
  rintro e w16 ⟨rfl, hb⟩
  have HA26 := Lib.hid (HA25.out.below hb)
  have HA36 := Lib.hid (HA35.out.below hb)
  have HB16 := Lib.hid (HB15.out.below hb)
  have HW16 := Lib.hid (keep1 HW15.out hb)
  clear hb HB15 HD15 HW15 HA25 HA35 HTD
  go_wp2_with fail
  refine (HTT.out w16 HB16.out).mono ?_
  rintro e w17 ⟨rfl, hb⟩
  have HA27 := Lib.hid (HA26.out.below hb)
  have HA37 := Lib.hid (HA36.out.below hb)
  have HB17 := Lib.hid (HB16.out.below hb)
  have HW17 := Lib.hid (keep1 HW16.out hb)
  clear hb HB16 HW16 HA26 HA36
  go_wp2_with fail
  refine (HTT.out w17 HB17.out).mono ?_
  rintro e w18 ⟨rfl, hb⟩
  have HA28 := Lib.hid (HA27.out.below hb)
  have HA38 := Lib.hid (HA37.out.below hb)
  have HB18 := Lib.hid (HB17.out.below hb)
  have HW18 := Lib.hid (keep1 HW17.out hb)
  clear hb HB17 HW17 HA27 HA37
  go_wp2_with fail
  refine (bload_v b S5 k part rep s cm cx none 0 0 [] Arow nr crow row 0 lost zero w18 HB18.out rfl HNR.out (by omega) (by have := HR60.out; omega) (Rd.nil _ _) (HRW0.out.below HW18.out) (fun x hx => by simp at hx) HCR.out (by omega) HLZ.out.1 HLZ.out.2).mono ?_
  rintro e w19 (⟨hOK, rfl, S6, hg, hBn, hF⟩ | ⟨hNO, rfl, hb⟩)
  · have HBN := Lib.hid hBn
    have HW19 : Hid (Below w.heap.size w w19) := hF.below' HW18.out HW18.out.size fun j hj => ⟨HS5.out j hj, HB18.out.lt j hj⟩
    have HGM : Hid (GdM row) := hOK.l1.gm
    have HSS : Hid ((0 ≤ sumP row ∧ sumP row < 18446744073709551616) ∧ (0 ≤ sumP row + lost ∧ sumP row + lost < 18446744073709551616) ∧ 0 ≤ sumP row + lost + zero ∧ sumP row + lost + zero ≤ 9223372036854775807) := by
      have h1 := hOK.sm
      have h2 := sumP_nonneg hOK.l1.gm.gd.pos
      have h3 := HLZ.out
      rw [sumP_nil] at h1
      exact ⟨by omega, by omega, by omega⟩
    clear hOK hg hBn hF HA28 HA38 HB18 HW18 HRB HSA HSB HTT HNN
    have HRR : Hid (Calls Tryz.prog 22 #[.pointer (some ⟨b, 0, none⟩)] w19 fun e w' => ∃ A0 c0 A1 c1, e = .returned (.tuple #[.slice A0 0 c0, .slice A1 nr c1]) ∧ RdP w' A1 row ∧ Below w19.heap.size w19 w') := (brows_b w19 HBN.out).mono fun e w' h => by
      obtain ⟨A0, c0, A1, c1, he, _, h2, h3⟩ := h
      rw [HNR.out] at he
      exact ⟨A0, c0, A1, c1, he, h2, h3⟩
    go_wp2_with fail
    refine HRR.out.mono ?_
    rintro e w20 ⟨A6, k6, A7, k7, rfl, hr7, hb⟩
    have HA7 := Lib.hid hr7
    have HW20 := Lib.hid (keep1 HW19.out hb)
    have HBN20 := Lib.hid (HBN.out.below hb)
    clear hr7 hb HW19 HBN HRR
    have HGG : Hid (Calls Tryz.prog 28 #[.slice Arow nr crow] w20 fun e w' => e = .returned (.bool true) ∧ Below w20.heap.size w20 w') := (rowgood_any Arow nr crow row w20 HNR.out (by have := HR60.out; omega) (HRW0.out.below HW20.out) HCR.out).mono fun e w' h => by
      obtain ⟨⟨bv, he, hv⟩, h2⟩ := h
      rw [hv.2 HGM.out] at he
      exact ⟨he, h2⟩
    go_wp2_with fail
    refine HGG.out.mono ?_
    rintro e w21 ⟨rfl, hb⟩
    have HA71 := Lib.hid (HA7.out.below hb)
    have HW21 := Lib.hid (keep1 HW20.out hb)
    have HBN21 := Lib.hid (HBN20.out.below hb)
    clear hb HW20 HBN20 HGG HA7
    have HSC : Hid (Calls Tryz.prog 26 #[.slice A7 nr k7, .slice Arow nr crow] w21 fun e W' => e = .returned (.bool true) ∧ Below w21.heap.size w21 W') :=
      (same_any A7 Arow nr k7 nr crow row row w21 HNR.out HNR.out (by have := HR60.out; omega) (by have := HR60.out; omega) HA71.out (HRW0.out.below HW21.out)).mono fun e W' h => ⟨by rw [h.1, decide_eq_true rfl], h.2⟩
    go_wp2_with fail
    refine HSC.out.mono ?_
    rintro e w22 ⟨rfl, hb⟩
    have HW22 := Lib.hid (keep1 HW21.out hb)
    have HBN22 := Lib.hid (HBN21.out.below hb)
    clear hb HW21 HBN21 HSC HA71
    go_wp2_with fail
    refine (bzero_b w22 HBN22.out).mono ?_
    rintro e w23 ⟨rfl, rfl⟩
    have HTB2 := Lib.hid (btot_b w22 HBN22.out (sumP row + lost + zero) HLZ.out.2.1 (by rw [sumP_nil]; omega) HSS.out.2.2.2)
    have HTR := Lib.hid fun W (hW : Below w22.heap.size w22 W) => total_any Arow nr crow row W HNR.out (by have := HR60.out; omega) (HRW0.out.below (keep1 HW22.out hW)) HCR.out
    rw [Int.emod_eq_of_lt HSS.out.1.1 HSS.out.1.2] at HTR
    obtain ⟨a, ha⟩ : ∃ a, sumP row = a := ⟨_, rfl⟩
    rw [ha] at HTB2 HTR HSS
    have hzz : (zero == zero) = true := beq_self_eq_true zero
    clear ha
    go_wp2_with fail
    refine HTB2.out.mono ?_
    rintro e w24 ⟨rfl, hb⟩
    have HB24 := Lib.hid hb
    clear hb HTB2 HBN22
    go_wp2_with fail
    refine (HTR.out w24 HB24.out).mono ?_
    rintro e w25 ⟨rfl, hb⟩
    have HW25 := Lib.hid (keep1 HW22.out (keep1 HB24.out hb))
    have h1 : IntKind.u64.wrap (a + lost) = a + lost := by simp only [IntKind.wrap_u64]; exact Int.emod_eq_of_lt HSS.out.2.1.1 HSS.out.2.1.2
    have h2 : IntKind.u64.wrap (a + lost + zero) = a + lost + zero := by simp only [IntKind.wrap_u64]; exact Int.emod_eq_of_lt HSS.out.2.2.1 (by have := HSS.out.2.2.2; omega)
    have h3 : (a + lost + zero == a + lost + zero) = true := beq_self_eq_true _
    clear hb HB24 HW22 HTR HSS
    go_wp2
    go_ret
    exact ⟨rfl, HW25.out⟩
  · have HA29 := Lib.hid (HA28.out.below hb)
    have HA39 := Lib.hid (HA38.out.below hb)
    have HB19 := Lib.hid (HB18.out.below hb)
    have HW19 := Lib.hid (keep1 HW18.out hb)
    clear hb hNO HB18 HW18 HA28 HA38
    go_wp2_with fail
    refine (HRB.out w19 HB19.out).mono ?_
    rintro e w20 ⟨A6, k6, A7, k7, rfl, hr6, hr7, hb⟩
    have HA6 := Lib.hid hr6
    have HA7 := Lib.hid hr7
    have HA2a := Lib.hid (HA29.out.below hb)
    have HA3a := Lib.hid (HA39.out.below hb)
    have HB20 := Lib.hid (HB19.out.below hb)
    have HW20 := Lib.hid (keep1 HW19.out hb)
    clear hr6 hr7 hb HB19 HW19 HA29 HA39
    go_wp2_with fail
    refine (HTT.out w20 HB20.out).mono ?_
    rintro e w21 ⟨rfl, hb⟩
    have HA6b := Lib.hid (HA6.out.below hb)
    have HA7b := Lib.hid (HA7.out.below hb)
    have HA2b := Lib.hid (HA2a.out.below hb)
    have HA3b := Lib.hid (HA3a.out.below hb)
    have HW21 := Lib.hid (keep1 HW20.out hb)
    clear hb HB20 HW20 HA6 HA7 HA2a HA3a
    go_wp2_with fail
    refine (HSA.out A2 A6 k2 k6 w21 HA2b.out HA6b.out).mono ?_
    rintro e w22 ⟨rfl, hb⟩
    have HA7c := Lib.hid (HA7b.out.below hb)
    have HA3c := Lib.hid (HA3b.out.below hb)
    have HW22 := Lib.hid (keep1 HW21.out hb)
    clear hb HW21 HA6b HA7b HA2b HA3b
    go_wp2_with fail
    refine (HSB.out A3 A7 k3 k7 w22 HA3c.out HA7c.out).mono ?_
    rintro e w23 ⟨rfl, hb⟩
    have HW23 := Lib.hid (keep1 HW22.out hb)
    clear hb HW22 HA3c HA7c
    go_wp2
    go_ret
    exact ⟨rfl, HW23.out⟩
end Go.Proofs.YtplfiheejecjiaaGreatDoor
