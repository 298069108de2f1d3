/- The walk of the statement LumpsRanks. -/
import Derived.Test.YtbmnebpjjghkpaaProg
import Derived.Test.YtbmnebpjjghkpaaOpen
import Derived.Test.YtbmnebpjjghkpaaTold22
import Derived.Test.YtbmnebpjjghkpaaHeld
import Derived.Test.YtbmnebpjjghkpaaFar
namespace Go.Proofs.Ytbmnebpjjghkpaa
open Go.RowKit

set_option maxRecDepth 100000 in
set_option maxHeartbeats 4000000 in
theorem lumpsRanks_walk (w : World) (most : Int) (bdmost : -9223372036854775808 ≤ most ∧ most ≤ 9223372036854775807) (Avals : Option Addr) (cvals : Nat) (vals : List (Int × Int)) (rvals : Rd w Avals (vals.flatMap fun x => [.int .i64 x.1, .int .u64 x.2])) (bdvals : ∀ x ∈ vals, (-9223372036854775808 ≤ x.1 ∧ x.1 ≤ 9223372036854775807) ∧ (0 ≤ x.2 ∧ x.2 < 18446744073709551616)) (lvals : vals.length ≤ 9223372036854775807) (p0 p1 : Int) (bdp0 : 0 ≤ p0 ∧ p0 < 18446744073709551616) (bdp1 : 0 ≤ p1 ∧ p1 < 18446744073709551616) (q0 q1 : Int) (bdq0 : 0 ≤ q0 ∧ q0 < 18446744073709551616) (bdq1 : 0 ≤ q1 ∧ q1 < 18446744073709551616) (x : Int) (bdx : -9223372036854775808 ≤ x ∧ x ≤ 9223372036854775807) :
    Calls Try.prog 7 #[.int .i64 most, .slice Avals vals.length cvals, .agg #[.int .u64 p0, .int .u64 p1], .agg #[.int .u64 q0, .int .u64 q1], .int .i64 x] w fun e w' => e = .returned (.bool true) ∧ Below w.heap.size w w' := by
  have HPQ : Hid ((0 ≤ p0 ∧ p0 < 18446744073709551616) ∧ (0 ≤ p1 ∧ p1 < 18446744073709551616)) := ⟨bdp0, bdp1⟩
  have HQQ : Hid ((0 ≤ q0 ∧ q0 < 18446744073709551616) ∧ (0 ≤ q1 ∧ q1 < 18446744073709551616)) := ⟨bdq0, bdq1⟩
  have HR : Hid (RdP w Avals vals) := rvals
  have HO : Hid (okP vals) := bdvals
  clear rvals bdvals bdmost bdp0 bdp1 bdq0 bdq1 bdx
  obtain ⟨len, hlen⟩ : ∃ len, vals.length = len := ⟨_, rfl⟩
  have HLN := Lib.hid hlen
  rw [hlen] at lvals ⊢
  clear hlen
  go_enter Try.func7, Try.ntmps7
  have hb0 : Below w.heap.size w ((w.alloc (.cells #[.int .u64 p0, .int .u64 p1] 58)).alloc (.cells #[.int .u64 q0, .int .u64 q1] 58)) := ((Below.refl _ _).alloc (Nat.le_refl _) _).alloc (by simp) _
  have r2 := (At.new' w #[.int .u64 p0, .int .u64 p1] 58 rfl).alloc (.cells #[.int .u64 q0, .int .u64 q1] 58)
  have r3 := At.new' (w.alloc (.cells #[.int .u64 p0, .int .u64 p1] 58)) #[.int .u64 q0, .int .u64 q1] 58 (b := w.heap.size + 1) (by simp)
  go_wp2_with fail
  obtain ⟨rb, hrb⟩ : ∃ r, w.heap.size = r := ⟨_, rfl⟩
  obtain ⟨W1, hW1⟩ : ∃ W1, (w.alloc (.cells #[.int .u64 p0, .int .u64 p1] 58)).alloc (.cells #[.int .u64 q0, .int .u64 q1] 58) = W1 := ⟨_, rfl⟩
  have HRB := Lib.hid hrb
  rw [hW1] at hb0 r2 r3 ⊢
  rw [hrb] at r2 r3
  try simp only [hrb]
  clear hW1 hrb
  refine (alive_any _).mono ?_
  rintro e w1 ⟨rfl, hb⟩
  have hb1 := keep1 hb0 hb
  replace r2 := r2.below hb
  replace r3 := r3.below hb
  clear hb0 hb
  go_wp2_with fail
  refine (build_any Avals len cvals vals most w1 HLN.out lvals (HR.out.below hb1) HO.out).mono ?_
  rintro e w2 (⟨hn, rfl, hb⟩ | ⟨hP, b, m, S, T, rfl, hB⟩)
  · have hb2 := keep1 hb1 hb
    clear hn hb hb1
    go_wp2
    go_ret
    exact ⟨rfl, hb2⟩
  · have HP := Lib.hid hP
    have HB1 := Lib.hid hb1
    have H2 := Lib.hid hB
    have HR2 := Lib.hid ((HR.out.below hb1).below (Two.below hB))
    replace r2 := r2.below (Two.below hB)
    replace r3 := r3.below (Two.below hB)
    have HPL := Lib.hid hP.pl
    have HTD := Lib.hid hP.told
    have HSM := Lib.hid hP.sum
    have HLL := Lib.hid hP.len
    clear hP hb1 hB
    obtain ⟨L, hL⟩ : ∃ L, playL most vals = L := ⟨_, rfl⟩
    rw [hL] at H2 HPL HTD HLL
    clear hL
    obtain ⟨B1, hB1⟩ : ∃ B, w1.heap.size = B := ⟨_, rfl⟩
    have HBE := Lib.hid hB1
    rw [hB1] at H2
    clear hB1
    go_wp2_with fail
    refine (krank_any b S most L x w2 H2.out.x (by have := HLL.out; omega)).mono ?_
    rintro e w3 ⟨rfl, hb⟩
    have H3 := Lib.hid (BothK.abide H2.out hb)
    replace HR2 := Lib.hid (HR2.out.below hb)
    replace r2 := r2.below hb
    replace r3 := r3.below hb
    clear hb H2
    go_wp2_with fail
    refine (up_any Avals len cvals vals x w3 HLN.out (by have := HP.out.n; have := HLN.out; omega) HR2.out (fun x hx => (HP.out.c x hx).1) (by have := HSM.out; omega)).mono ?_
    rintro e w4 ⟨rfl, hb⟩
    have H4 := Lib.hid (BothK.abide H3.out hb)
    replace HR2 := Lib.hid (HR2.out.below hb)
    replace r2 := r2.below hb
    replace r3 := r3.below hb
    have hd1 : decide (upV vals x < rankLo L x) = false := decide_eq_false (by have := HTD.out.2.lo x; omega)
    have hd2 : decide (rankHi L x < upV vals x) = false := decide_eq_false (by have := HTD.out.2.hi x; omega)
    obtain ⟨rl, hrl⟩ : ∃ q, rankLo L x = q := ⟨_, rfl⟩
    obtain ⟨rh, hrh⟩ : ∃ q, rankHi L x = q := ⟨_, rfl⟩
    obtain ⟨uv, huv⟩ : ∃ q, upV vals x = q := ⟨_, rfl⟩
    simp only [hrl, hrh, huv] at hd1 hd2 ⊢
    have f2 := r2.two
    have l2 := r2.lt
    clear hrl hrh huv hb H3
    go_wp2_with fail
    refine (rgood_any p0 p1 w4 HPQ.out.1.1 HPQ.out.1.2 HPQ.out.2.1 HPQ.out.2.2).mono ?_
    rintro e w5 ⟨rfl, hb⟩
    have H5 := Lib.hid (BothK.abide H4.out hb)
    replace HR2 := Lib.hid (HR2.out.below hb)
    replace r2 := r2.below hb
    replace r3 := r3.below hb
    clear hb H4 hd1 hd2 f2 l2
    by_cases hgp : goodF p0 p1 = true
    rotate_left
    · have HFB := Lib.hid (Two.below H5.out)
      have hgf : goodF p0 p1 = false := by simpa using hgp
      rw [hgf]
      clear hgp hgf H5
      go_wp2
      go_ret
      exact ⟨rfl, HB1.out.trans (HFB.out.mono (by have := HBE.out; have := HB1.out.size; omega))⟩
    rw [hgp]
    have HGP := Lib.hid hgp
    have f3 := r3.two
    have l3 := r3.lt
    clear hgp
    go_wp2_with fail
    refine (rgood_any q0 q1 w5 HQQ.out.1.1 HQQ.out.1.2 HQQ.out.2.1 HQQ.out.2.2).mono ?_
    rintro e w6 ⟨rfl, hb⟩
    have H6 := Lib.hid (BothK.abide H5.out hb)
    replace HR2 := Lib.hid (HR2.out.below hb)
    replace r2 := r2.below hb
    replace r3 := r3.below hb
    clear hb H5 f3 l3
    by_cases hgq : goodF q0 q1 = true
    rotate_left
    · have HFB := Lib.hid (Two.below H6.out)
      have hgf : goodF q0 q1 = false := by simpa using hgq
      rw [hgf]
      clear hgq hgf H6
      go_wp2
      go_ret
      exact ⟨rfl, HB1.out.trans (HFB.out.mono (by have := HBE.out; have := HB1.out.size; omega))⟩
    rw [hgq]
    have HGQ := Lib.hid hgq
    clear hgq
    by_cases hl0 : len = 0
    · have HFB := Lib.hid (Two.below H6.out)
      subst hl0
      clear H6
      go_wp2
      go_ret
      exact ⟨rfl, HB1.out.trans (HFB.out.mono (by have := HBE.out; have := HB1.out.size; omega))⟩
    have hl0' : ((len : Int) == 0) = false := beq_eq_false_iff_ne.2 (by omega)
    have hl0'' : (len == 0) = false := beq_eq_false_iff_ne.2 hl0
    have HL0 := Lib.hid hl0
    clear hl0
    have HVN : Hid (vals ≠ []) := fun e => by have := HLN.out; have h := HL0.out; rw [e] at this; simp at this; omega
    have HLNN : Hid (L ≠ []) := fun e => HVN.out (HTD.out.1.ne.2 e)
    have HTP : Hid (0 < sumN L) := by
      have h1 := HLNN.out
      have h2 := HPL.out.gd
      show 0 < _
      cases L with
      | nil => exact absurd rfl h1
      | cons y ys =>
        rw [sumN_cons]
        have := h2.pos y (by simp)
        have := sumN_nonneg (ls := ys) fun z hz => h2.pos z (by simp [hz])
        omega
    have HTM : Hid (sumN L < 18446744073709551616) := by have := HPL.out.sm; have := HSM.out; show _ < _; omega
    have HIP := Lib.hid (placeT_is HPQ.out.1.1 HTP.out HTM.out HGP.out)
    have HIQ := Lib.hid (placeT_is HQQ.out.1.1 HTP.out HTM.out HGQ.out)
    have HE1 : Hid (placeE p0 p1 (sumN L) = 0) := by show _ = _; unfold placeE; rw [if_pos HGP.out, if_neg (by have := HTP.out; omega)]
    have HE2 : Hid (placeE q0 q1 (sumN L) = 0) := by show _ = _; unfold placeE; rw [if_pos HGQ.out, if_neg (by have := HTP.out; omega)]
    have HV1 : Hid (quantV L p0 p1 = qX (placeT p0 p1 (sumN L)) L) := by show _ = _; unfold quantV; rw [if_pos HE1.out]
    have HV2 : Hid (quantV L q0 q1 = qX (placeT q0 q1 (sumN L)) L) := by show _ = _; unfold quantV; rw [if_pos HE2.out]
    have HF1 : Hid (placeT p0 p1 (sumN L) ≤ upV vals (quantV L p0 p1)) := by
      show _ ≤ _
      rw [HV1.out]
      exact Int.le_trans (qX_rank HPL.out.gd HIP.out.le) (HTD.out.2.lo _)
    have HF2 : Hid (placeT p0 p1 (sumN L) ≤ placeT q0 q1 (sumN L) → quantV L p0 p1 ≤ quantV L q0 q1) := fun h => by
      rw [HV1.out, HV2.out]
      exact qfold_mono h L _
    have HF3 : Hid (eLow vals ≤ quantV L p0 p1 ∧ quantV L p0 p1 ≤ eHigh vals) := by
      have hnl : vals.length ≠ 0 := by have := HLN.out; have := HL0.out; omega
      show _ ∧ _
      unfold eLow eHigh
      rw [if_neg hnl, if_neg hnl, ← (HTD.out.1.low HPL.out.gd HVN.out).1, ← HTD.out.1.high HVN.out, HV1.out]
      have h1 := qX_ge HIP.out.one HLNN.out
      have h2 := HPL.out.gd.rng _ (mem_lget (List.length_pos_iff.2 HLNN.out))
      obtain ⟨k1, k2, _⟩ := topL_spec L (lget L 0).2.2
      refine ⟨by omega, qfold_le _ _ L _ ?_ k2⟩
      have h3 := (HPL.out.rg HO.out _ (mem_lget (List.length_pos_iff.2 HLNN.out))).2
      dsimp only
      omega
    clear HV1 HV2
    have HTT := Lib.hid fun W (hb : Below w6.heap.size w6 W) => (ktotal_any b S most _ L W (H6.out.x.below hb).r).mono fun e w' (h : e = .returned (.int .u64 (sumN L)) ∧ W = w') => (⟨h.1, by rw [← h.2]; exact Below.refl _ _⟩ : e = .returned (.int .u64 (sumN L)) ∧ Below W.heap.size W w')
    have HPP := Lib.hid fun W => rplace_any p0 p1 (sumN L) W HPQ.out.1.1 HPQ.out.1.2 HPQ.out.2.1 HPQ.out.2.2 (by have := HTP.out; omega) HTM.out
    have HPP2 := Lib.hid fun W => rplace_any q0 q1 (sumN L) W HQQ.out.1.1 HQQ.out.1.2 HQQ.out.2.1 HQQ.out.2.2 (by have := HTP.out; omega) HTM.out
    have HKQ := Lib.hid fun W (hb : Below w6.heap.size w6 W) => kquant_any b S most L p0 p1 W (H6.out.x.below hb) (by have := HLL.out; omega) HPQ.out.1.1 HPQ.out.1.2 HPQ.out.2.1 HPQ.out.2.2
    have HKQ2 := Lib.hid fun W (hb : Below w6.heap.size w6 W) => kquant_any b S most L q0 q1 W (H6.out.x.below hb) (by have := HLL.out; omega) HQQ.out.1.1 HQQ.out.1.2 HQQ.out.2.1 HQQ.out.2.2
    have HKE := Lib.hid fun W (hb : Below w6.heap.size w6 W) => kends_told b S most L vals W (H6.out.x.below hb) (by have := HLL.out; omega) HTD.out.1
    have HFB := Lib.hid (Two.below H6.out)
    have HUP := Lib.hid fun W x (hb : Below w6.heap.size w6 W) => up_any Avals len cvals vals x W HLN.out (by have := HP.out.n; have := HLN.out; omega) (HR2.out.below hb) (fun x hx => (HP.out.c x hx).1) (by have := HSM.out; omega)
    rw [HE1.out] at HKQ HPP
    rw [HE2.out] at HKQ2 HPP2
    obtain ⟨tt, htt⟩ : ∃ q, sumN L = q := ⟨_, rfl⟩
    simp only [htt] at HTT HPP HPP2 HF1 HF2
    obtain ⟨tp, htp⟩ : ∃ q, placeT p0 p1 tt = q := ⟨_, rfl⟩
    obtain ⟨tq, htq⟩ : ∃ q, placeT q0 q1 tt = q := ⟨_, rfl⟩
    obtain ⟨va, hva⟩ : ∃ q, quantV L p0 p1 = q := ⟨_, rfl⟩
    obtain ⟨vb, hvb⟩ : ∃ q, quantV L q0 q1 = q := ⟨_, rfl⟩
    obtain ⟨el, hel⟩ : ∃ q, eLow vals = q := ⟨_, rfl⟩
    obtain ⟨eh, heh⟩ : ∃ q, eHigh vals = q := ⟨_, rfl⟩
    obtain ⟨ei, hei⟩ : ∃ q, eIs vals = q := ⟨_, rfl⟩
    simp only [htp, htq, hva, hvb, hel, heh, hei] at HPP HPP2 HKQ HKQ2 HKE HF1 HF2 HF3
    clear htt htp htq hva hvb hel heh hei HIP HIQ HE1 HE2 HTP HTM HP HSM HLL HPL HTD H6 HLNN HVN HGP HGQ HL0 HR2
    have HB6 := Lib.hid (Below.refl w6.heap.size w6)
    go_wp2
    have hB7 : Below w6.heap.size w6 w6.drew := (Below.refl _ _).drew
    have hfar1 := fun x : Far w6 => (x.at r2).two
    have hfar2 := fun x : Far w6 => (x.at r3).two
    refine wp_region_far (by kernel_rfl) (by kernel_rfl) ?_
    repeat (first | go_big_quiet_skip | (go_big_quiet_want; go_big_quiet_op; first | go_big_quiet_on | (apply Exists.intro; refine ⟨fun _ => ?_, ?_⟩; (focus (first | (refine far_of (HTT.out _ (Far.below _))) | (refine far_of (HPP.out _)))); go_big_quiet_on)))
    refine wpQuiet_nil ?_
    rintro _ ⟨xq, rfl⟩
    clear hfar1 hfar2
    have hb7 := xq.below
    obtain ⟨W7, hW7⟩ : ∃ W, xq.far = W := ⟨_, rfl⟩
    rw [hW7] at hb7 ⊢
    clear hW7 hB7
    replace r2 := r2.below hb7
    replace r3 := r3.below hb7
    have HB7 := Lib.hid hb7
    clear hb7
    go_wp2
    have hfar1 := fun x : Far W7 => (x.at r2).two
    have hfar2 := fun x : Far W7 => (x.at r3).two
    refine wp_region_far (by kernel_rfl) (by kernel_rfl) ?_
    repeat (first | go_big_quiet_skip | (go_big_quiet_want; go_big_quiet_op; first | go_big_quiet_on | (apply Exists.intro; refine ⟨fun _ => ?_, ?_⟩; (focus (first | (refine far_of (HTT.out _ (keep1 HB7.out (Far.below _)))) | (refine far_of (HPP2.out _)))); go_big_quiet_on)))
    refine wpQuiet_nil ?_
    rintro _ ⟨xq, rfl⟩
    clear hfar1 hfar2
    have hb8 := keep1 HB7.out xq.below
    replace r2 := r2.below xq.below
    replace r3 := r3.below xq.below
    obtain ⟨W8, hW8⟩ : ∃ W, xq.far = W := ⟨_, rfl⟩
    rw [hW8] at hb8 r2 r3 ⊢
    clear hW8
    have HB8 := Lib.hid hb8
    have f2 := r2.two
    have l2 := r2.lt
    have f3 := r3.two
    have l3 := r3.lt
    clear hb8 HB7 HTT HPP HPP2
    go_wp2_with fail
    refine (HKQ.out _ HB8.out).mono ?_
    rintro e w9 ⟨rfl, hb⟩
    replace r3 := r3.below hb
    replace f3 := r3.two
    replace l3 := r3.lt
    have HB9 := Lib.hid (keep1 HB8.out hb)
    clear hb HB8 HKQ f2 l2
    go_wp2_with fail
    refine (HKQ2.out _ HB9.out).mono ?_
    rintro e w10 ⟨rfl, hb⟩
    have HB10 := Lib.hid (keep1 HB9.out hb)
    clear hb HB9 HKQ2 f3 l3 r2 r3
    go_wp2_with fail
    refine (HKE.out _ HB10.out).mono ?_
    rintro e w11 ⟨rfl, hb⟩
    have HB11 := Lib.hid (keep1 HB10.out hb)
    clear hb HB10 HKE
    go_wp2_with fail
    refine (HUP.out _ va HB11.out).mono ?_
    rintro e w12 ⟨rfl, hb⟩
    have HB12 := Lib.hid (keep1 HB11.out hb)
    clear hb HB11 HUP
    have hd1 : decide (tp ≤ upV vals va) = true := decide_eq_true HF1.out
    obtain ⟨uva, huva⟩ : ∃ q, upV vals va = q := ⟨_, rfl⟩
    simp only [huva] at hd1 ⊢
    have hd3 : decide (el ≤ va) = true := decide_eq_true HF3.out.1
    have hd4 : decide (va ≤ eh) = true := decide_eq_true HF3.out.2
    have HFIN : Hid (Below w.heap.size w w12) := keep1 (keep1 HB1.out (show Below w1.heap.size w1 w6 by rw [HBE.out]; exact HFB.out)) HB12.out
    clear huva HF1 HF3
    by_cases htq2 : tq < tp
    · have hd2 : decide (tq < tp) = true := decide_eq_true htq2
      clear HF2 htq2
      go_wp2
      go_ret
      exact ⟨rfl, HFIN.out⟩
    · have hd2 : decide (tq < tp) = false := decide_eq_false htq2
      have hd5 : decide (va ≤ vb) = true := decide_eq_true (HF2.out (by omega))
      clear HF2 htq2
      go_wp2
      go_ret
      exact ⟨rfl, HFIN.out⟩
end Go.Proofs.Ytbmnebpjjghkpaa

