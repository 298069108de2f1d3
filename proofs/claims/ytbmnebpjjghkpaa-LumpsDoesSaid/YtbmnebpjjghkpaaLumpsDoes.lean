/- The walk of the statement LumpsDoes. -/
import Derived.Test.YtbmnebpjjghkpaaProg
import Derived.Test.YtbmnebpjjghkpaaOpen
import Derived.Test.YtbmnebpjjghkpaaTold22
import Derived.Test.YtbmnebpjjghkpaaHeld
namespace Go.Proofs.Ytbmnebpjjghkpaa
open Go.RowKit

set_option maxRecDepth 100000 in
set_option maxHeartbeats 4000000 in
theorem lumpsDoes_walk (w : World) (most : Int) (bdmost : -9223372036854775808 ≤ most ∧ most ≤ 9223372036854775807) (Avals : Option Addr) (cvals : Nat) (vals : List (Int × Int)) (rvals : Rd w Avals (vals.flatMap fun x => [.int .i64 x.1, .int .u64 x.2])) (bdvals : ∀ x ∈ vals, (-9223372036854775808 ≤ x.1 ∧ x.1 ≤ 9223372036854775807) ∧ (0 ≤ x.2 ∧ x.2 < 18446744073709551616)) (lvals : vals.length ≤ 9223372036854775807) (p0 p1 : Int) (bdp0 : 0 ≤ p0 ∧ p0 < 18446744073709551616) (bdp1 : 0 ≤ p1 ∧ p1 < 18446744073709551616) (x : Int) (bdx : -9223372036854775808 ≤ x ∧ x ≤ 9223372036854775807) :
    Calls Try.prog 6 #[.int .i64 most, .slice Avals vals.length cvals, .agg #[.int .u64 p0, .int .u64 p1], .int .i64 x] w fun e w' => e = .returned (.bool true) ∧ Below w.heap.size w w' := by
  have HPQ : Hid ((0 ≤ p0 ∧ p0 < 18446744073709551616) ∧ (0 ≤ p1 ∧ p1 < 18446744073709551616)) := ⟨bdp0, bdp1⟩
  have HR : Hid (RdP w Avals vals) := rvals
  have HO : Hid (okP vals) := bdvals
  clear rvals bdvals bdmost bdp0 bdp1 bdx
  obtain ⟨len, hlen⟩ : ∃ len, vals.length = len := ⟨_, rfl⟩
  have HLN := Lib.hid hlen
  rw [hlen] at lvals ⊢
  clear hlen
  go_enter Try.func6, Try.ntmps6
  have hb0 : Below w.heap.size w (w.alloc (.cells #[.int .u64 p0, .int .u64 p1] 58)) := (Below.refl _ _).alloc (Nat.le_refl _) _
  have r2 := At.new' w #[.int .u64 p0, .int .u64 p1] 58 rfl
  go_wp2_with fail
  obtain ⟨rb, hrb⟩ : ∃ r, w.heap.size = r := ⟨_, rfl⟩
  obtain ⟨W1, hW1⟩ : ∃ W1, w.alloc (.cells #[.int .u64 p0, .int .u64 p1] 58) = W1 := ⟨_, rfl⟩
  have HRB := Lib.hid hrb
  rw [hW1] at hb0 r2 ⊢
  rw [hrb] at r2
  try rw [hrb]
  clear hW1 hrb
  refine (alive_any _).mono ?_
  rintro e w1 ⟨rfl, hb⟩
  have hb1 := keep1 hb0 hb
  replace r2 := r2.below hb
  clear hb0 hb
  go_wp2_with fail
  refine (build_any Avals len cvals vals most w1 HLN.out lvals (HR.out.below hb1) HO.out).mono ?_
  rintro e w2 (⟨hn, rfl, hb⟩ | ⟨hP, b, m, S, T, rfl, hB⟩)
  · have hb2 := keep1 hb1 hb
    clear hn hb hb1
    go_wp2
    go_ret
    exact ⟨rfl, hb2⟩
  · have HP := Lib.hid hP
    have HB1 := Lib.hid hb1
    have H2 := Lib.hid hB
    have HR2 := Lib.hid ((HR.out.below hb1).below (Two.below hB))
    replace r2 := r2.below (Two.below hB)
    have HZ := Lib.hid (Nat.le_trans hb1.size (Two.size hB))
    have HPL := Lib.hid hP.pl
    have HTD := Lib.hid hP.told
    have HSM := Lib.hid hP.sum
    have HLL := Lib.hid hP.len
    have f2 := r2.two
    have l2 := r2.lt
    clear hP hb1 hB
    obtain ⟨L, hL⟩ : ∃ L, playL most vals = L := ⟨_, rfl⟩
    rw [hL] at H2 HPL HTD HLL
    clear hL
    obtain ⟨B1, hB1⟩ : ∃ B, w1.heap.size = B := ⟨_, rfl⟩
    have HBE := Lib.hid hB1
    rw [hB1] at H2
    clear hB1
    go_wp2_with fail
    refine (kquant_any b S most L p0 p1 w2 H2.out.x (by have := HLL.out; omega) HPQ.out.1.1 HPQ.out.1.2 HPQ.out.2.1 HPQ.out.2.2).mono ?_
    rintro e w3 ⟨rfl, hb⟩
    have H3 := Lib.hid (BothK.abide H2.out hb)
    replace HR2 := Lib.hid (HR2.out.below hb)
    replace r2 := r2.below hb
    replace f2 := r2.two
    replace l2 := r2.lt
    clear hb H2
    go_wp2_with fail
    refine (dkquant_any m T most L p0 p1 w3 H3.out.y HPL.out.gd (by rw [HPL.out.sm]; have := HSM.out; omega) (by have := HLL.out; omega) HPQ.out.1.1 HPQ.out.1.2 HPQ.out.2.1 HPQ.out.2.2).mono ?_
    rintro e w4 ⟨rfl, hb⟩
    have H4 := Lib.hid (BothK.abide H3.out hb)
    replace HR2 := Lib.hid (HR2.out.below hb)
    clear hb H3 r2 f2 l2
    obtain ⟨qv, hqv⟩ : ∃ q, quantV L p0 p1 = q := ⟨_, rfl⟩
    obtain ⟨qe, hqe⟩ : ∃ q, placeE p0 p1 (sumN L) = q := ⟨_, rfl⟩
    simp only [hqv, hqe]
    clear hqv hqe
    go_wp2_with fail
    refine (krank_any b S most L x w4 H4.out.x (by have := HLL.out; omega)).mono ?_
    rintro e w5 ⟨rfl, hb⟩
    have H5 := Lib.hid (BothK.abide H4.out hb)
    replace HR2 := Lib.hid (HR2.out.below hb)
    clear hb H4
    go_wp2_with fail
    refine (dkrank_any m T most L x w5 H5.out.y HPL.out.gd (by rw [HPL.out.sm]; have := HSM.out; omega) (by have := HLL.out; omega)).mono ?_
    rintro e w6 ⟨rfl, hb⟩
    have H6 := Lib.hid (BothK.abide H5.out hb)
    replace HR2 := Lib.hid (HR2.out.below hb)
    clear hb H5
    obtain ⟨rl, hrl⟩ : ∃ q, rankLo L x = q := ⟨_, rfl⟩
    obtain ⟨rh, hrh⟩ : ∃ q, rankHi L x = q := ⟨_, rfl⟩
    simp only [hrl, hrh]
    clear hrl hrh
    go_wp2_with fail
    refine (kends_told b S most L vals w6 H6.out.x (by have := HLL.out; omega) HTD.out.1).mono ?_
    rintro e w7 ⟨rfl, hb⟩
    have H7 := Lib.hid (BothK.abide H6.out hb)
    replace HR2 := Lib.hid (HR2.out.below hb)
    clear hb H6
    go_wp2_with fail
    refine (vends_told Avals len cvals vals w7 HLN.out (by have := HP.out.n; have := HLN.out; omega) HR2.out).mono ?_
    rintro e w8 ⟨rfl, hb⟩
    have H8 := Lib.hid (BothK.abide H7.out hb)
    replace HR2 := Lib.hid (HR2.out.below hb)
    clear hb H7
    obtain ⟨el, hel⟩ : ∃ q, eLow vals = q := ⟨_, rfl⟩
    obtain ⟨eh, heh⟩ : ∃ q, eHigh vals = q := ⟨_, rfl⟩
    obtain ⟨ei, hei⟩ : ∃ q, eIs vals = q := ⟨_, rfl⟩
    simp only [hel, heh, hei]
    clear hel heh hei
    obtain ⟨A, c, d8, hrd, _⟩ := docK_at H8.out.y
    obtain ⟨n, hn⟩ : ∃ n, L.length = n := ⟨_, rfl⟩
    have HLN2 := Lib.hid hn
    rw [hn] at d8
    have d8' := d8.drew
    have HRD : Hid (RdL w8.drew A L) := hrd.below (Below.refl _ _).drew
    replace H8 := Lib.hid (BothK.abide H8.out (Below.refl _ _).drew)
    replace HR2 := Lib.hid (HR2.out.below (Below.refl _ _).drew)
    clear hn hrd d8
    go_wp2
    obtain ⟨W8, hW8⟩ : ∃ W, w8.drew = W := ⟨_, rfl⟩
    rw [hW8] at H8 d8' HRD HR2
    haveI : Nonempty (Held fun w' => At w' m #[.int .i64 most, .slice A n c] 37) := ⟨⟨W8, d8'⟩⟩
    have hfar := fun z : Held fun w' => At w' m #[.int .i64 most, .slice A n c] 37 => z.held.two
    refine wp_region_noPanic ?_
    refine wp_region_held_drew (S := HeldS fun w' => At w' m #[.int .i64 most, .slice A n c] 37) (by kernel_rfl) (HeldS.mk' (hW8 ▸ d8')) (fun hHeld => ?_)
    rw [hW8] at hHeld ⊢
    clear hW8
    refine wpAnyH_run0 [true, false, false, true, true, true, true] 46 (by kernel_rfl) (by kernel_rfl) (fun _ _ _ _ h => h) (by kernel_rfl) hHeld ?_
    simp only [runOps_true, runOps_false, runOps_nil]
    repeat (first | go_big_quiet_skip | (go_big_quiet_want; go_big_quiet_op; go_big_quiet_on))
    refine wpQuiet_nil ?_
    refine wpAnyH_ready (rs := [1]) (by kernel_rfl) (by simp) ?_
    refine AllReadyH.cons rfl (fun K hK => ?_) AllReadyH.nil
    go_simp
    go_wp2_with (go_at_call 12; refine (klumps_any b S most _ L W8 H8.out.x.r (by have := HLL.out; omega)).mono ?_; rintro e w9 ⟨A9, c9, rfl, ho, hb⟩; rw [HLN2.out])
    refine hK.out _ _ ?_ (fun hHeld => ?_)
    clear hK K
    · exact HeldS.mk' (d8'.below hb)
    replace d8' := d8'.below hb
    replace H8 := Lib.hid (BothK.abide H8.out hb)
    replace HRD := Lib.hid (HRD.out.below hb)
    replace HR2 := Lib.hid (HR2.out.below hb)
    have HR9 := Lib.hid ho.rd
    clear hb ho
    refine wpAnyH_ready (rs := [2]) (by kernel_rfl) (by simp) ?_
    refine AllReadyH.cons rfl (fun K hK => ?_) AllReadyH.nil
    go_simp
    go_wp2_with (go_at_call 14; refine (plain_any A9 n c9 L w9 HLN2.out (by have := HLL.out; have := HLN2.out; omega) HR9.out).mono ?_; rintro e w10 ⟨A10, c10, rfl, ho, hb⟩; rw [HLN2.out])
    refine hK.out _ _ ?_ (fun hHeld => ?_)
    clear hK K
    · exact HeldS.mk' (d8'.below hb)
    replace d8' := d8'.below hb
    replace H8 := Lib.hid (BothK.abide H8.out hb)
    replace HRD := Lib.hid (HRD.out.below hb)
    replace HR2 := Lib.hid (HR2.out.below hb)
    have HR10 := Lib.hid ho.rd
    clear hb ho HR9
    refine wpAnyH_ready (rs := [7]) (by kernel_rfl) (by simp) ?_
    refine AllReadyH.cons rfl (fun K hK => ?_) AllReadyH.nil
    go_simp
    go_wp2_with (go_at_call 13; refine (ksame_any A10 A n c10 n c L L w10 HLN2.out HLN2.out (by have := HLL.out; have := HLN2.out; omega) (by have := HLL.out; have := HLN2.out; omega) HR10.out HRD.out).mono ?_; rintro e w11 ⟨rfl, hb⟩; rw [decide_eq_true rfl])
    refine hK.out _ _ ?_ (fun hHeld => ?_)
    clear hK K
    · exact HeldS.mk' (d8'.below hb)
    replace d8' := d8'.below hb
    replace H8 := Lib.hid (BothK.abide H8.out hb)
    replace HR2 := Lib.hid (HR2.out.below hb)
    clear hb HR10 HRD
    refine wpAnyH_run0 [false, false, false, false, false, false, false, false, true, true, true, true, true, true, true, true, true, true, true, true, true, true, true, true, true, true, true, true, true, true, true, true, true, true, true, true, true, true, true, true, true, true, true, true, true, false, true] 5 (by kernel_rfl) (by kernel_rfl) (fun _ _ _ _ h => h) (by kernel_rfl) hHeld ?_
    simp only [runOps_true, runOps_false, runOps_nil]
    repeat (first | go_big_quiet_skip | (go_big_quiet_want; go_big_quiet_op; go_big_quiet_on))
    refine wpQuiet_nil ?_
    refine wpAnyH_ready (rs := [45]) (by kernel_rfl) (by simp) ?_
    refine AllReadyH.cons rfl (fun K hK => ?_) AllReadyH.nil
    go_simp
    go_wp2_with (go_at_call 18; refine (ktotal_any b S most _ L w11 H8.out.x.r).mono ?_; rintro e w12 ⟨rfl, rfl⟩; rw [HPL.out.sm])
    refine hK.out _ _ ?_ (fun hHeld => ?_)
    clear hK K
    · exact HeldS.mk' d8'
    refine wpAnyH_ready (rs := [47]) (by kernel_rfl) (by simp) ?_
    refine AllReadyH.cons rfl (fun K hK => ?_) AllReadyH.nil
    go_simp
    go_wp2_with (go_at_call 23; refine (up_any Avals len cvals vals 9223372036854775807 w11 HLN.out (by have := HP.out.n; have := HLN.out; omega) HR2.out (fun x hx => (HP.out.c x hx).1) (by have := HSM.out; omega)).mono ?_; rintro e w12 ⟨rfl, hb⟩; rw [upV_all HO.out])
    refine hK.out _ _ ?_ (fun hHeld => ?_)
    clear hK K
    · exact HeldS.mk' (d8'.below hb)
    have HFB := Lib.hid (Two.fin H8.out hb)
    clear hb H8 HR2 d8'
    generalize sumP vals = sv
    refine wpAnyH_run0 [false, false, false, false, false, false, false, false, false, false, false, false, false, false, false, false, false, false, false, false, false, false, false, false, false, false, false, false, false, false, false, false, false, false, false, false, false, false, false, false, false, false, false, false, false, false, false, false, true, true, true] 0 (by kernel_rfl) (by kernel_rfl) (fun _ _ _ _ h => h) (by kernel_rfl) hHeld ?_
    simp only [runOps_true, runOps_false, runOps_nil]
    repeat (first | go_big_quiet_skip | (go_big_quiet_want; go_big_quiet_op; go_big_quiet_on))
    refine wpQuiet_nil ?_
    refine wpAnyH_done (by kernel_rfl) ?_ _
    refine NoPanic.normal ?_
    clear hfar hHeld
    go_wp2
    go_ret
    exact ⟨rfl, HB1.out.trans (HFB.out.mono (by have := HBE.out; have := HB1.out.size; omega))⟩
end Go.Proofs.Ytbmnebpjjghkpaa

