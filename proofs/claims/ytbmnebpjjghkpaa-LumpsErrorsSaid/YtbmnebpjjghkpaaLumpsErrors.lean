/- The walk of the statement LumpsErrors. -/
import Derived.Test.YtbmnebpjjghkpaaProg
import Derived.Test.YtbmnebpjjghkpaaOpen
import Derived.Test.YtbmnebpjjghkpaaTold22
import Derived.Test.YtbmnebpjjghkpaaHeld
import Derived.Test.YtbmnebpjjghkpaaFar
namespace Go.Proofs.Ytbmnebpjjghkpaa
open Go.RowKit

set_option maxRecDepth 100000 in
set_option maxHeartbeats 4000000 in
theorem lumpsErrors_walk (w : World) (most : Int) (bdmost : -9223372036854775808 ≤ most ∧ most ≤ 9223372036854775807) (Avals : Option Addr) (cvals : Nat) (vals : List (Int × Int)) (rvals : Rd w Avals (vals.flatMap fun x => [.int .i64 x.1, .int .u64 x.2])) (bdvals : ∀ x ∈ vals, (-9223372036854775808 ≤ x.1 ∧ x.1 ≤ 9223372036854775807) ∧ (0 ≤ x.2 ∧ x.2 < 18446744073709551616)) (lvals : vals.length ≤ 9223372036854775807) (other : Int) (bdother : -9223372036854775808 ≤ other ∧ other ≤ 9223372036854775807) (p0 p1 : Int) (bdp0 : 0 ≤ p0 ∧ p0 < 18446744073709551616) (bdp1 : 0 ≤ p1 ∧ p1 < 18446744073709551616) :
    Calls Try.prog 8 #[.int .i64 most, .slice Avals vals.length cvals, .int .i64 other, .agg #[.int .u64 p0, .int .u64 p1]] w fun e w' => e = .returned (.bool true) ∧ Below w.heap.size w w' := by
  have HPQ : Hid ((0 ≤ p0 ∧ p0 < 18446744073709551616) ∧ (0 ≤ p1 ∧ p1 < 18446744073709551616)) := ⟨bdp0, bdp1⟩
  have HR : Hid (RdP w Avals vals) := rvals
  have HO : Hid (okP vals) := bdvals
  clear rvals bdvals bdmost bdp0 bdp1 bdother
  obtain ⟨len, hlen⟩ : ∃ len, vals.length = len := ⟨_, rfl⟩
  have HLN := Lib.hid hlen
  rw [hlen] at lvals ⊢
  clear hlen
  go_enter Try.func8, Try.ntmps8
  have hb0 : Below w.heap.size w (w.alloc (.cells #[.int .u64 p0, .int .u64 p1] 58)) := (Below.refl _ _).alloc (Nat.le_refl _) _
  have r2 := At.new' w #[.int .u64 p0, .int .u64 p1] 58 rfl
  go_wp2_with fail
  obtain ⟨rb, hrb⟩ : ∃ r, w.heap.size = r := ⟨_, rfl⟩
  obtain ⟨W1, hW1⟩ : ∃ W1, w.alloc (.cells #[.int .u64 p0, .int .u64 p1] 58) = W1 := ⟨_, rfl⟩
  have HRB := Lib.hid hrb
  rw [hW1] at hb0 r2 ⊢
  rw [hrb] at r2
  try rw [hrb]
  clear hW1 hrb
  refine (alive_any _).mono ?_
  rintro e w1 ⟨rfl, hb⟩
  have hb1 := keep1 hb0 hb
  replace r2 := r2.below hb
  clear hb0 hb
  go_wp2_with fail
  refine (knil_ends _).mono ?_
  rintro e w2 ⟨rfl, rfl⟩
  have f2 := r2.two
  have l2 := r2.lt
  go_wp2_with fail
  refine (knil_quant p0 p1 _).mono ?_
  rintro e w2 ⟨rfl, hb⟩
  have hb2 := keep1 hb1 hb
  clear hb hb1 f2 l2 r2
  go_wp2_with fail
  refine (knil_rank 1 _).mono ?_
  rintro e w3 ⟨rfl, hb⟩
  have hb3 := keep1 hb2 hb
  clear hb hb2
  go_wp2_with fail
  refine (knil_put 1 1 _).mono ?_
  rintro e w4 ⟨rfl, rfl⟩
  go_wp2_with fail
  refine (knil_join _).mono ?_
  rintro e w4 ⟨rfl, rfl⟩
  go_wp2_with fail
  refine (knil_total _).mono ?_
  rintro e w4 ⟨rfl, rfl⟩
  go_wp2_with fail
  refine (knil_lumps _).mono ?_
  rintro e w4 ⟨rfl, rfl⟩
  go_wp2_with fail
  refine (knil_most _).mono ?_
  rintro e w4 ⟨rfl, rfl⟩
  have HN : Hid (∃ v w4, Below w3.heap.size w3 w4 ∧ ((2 ≤ most ∧ most ≤ 64) ∨ ¬ (2 ≤ most ∧ most ≤ 64))) := ⟨0, w3, Below.refl _ _, by omega⟩
  clear HN
  by_cases hm : 2 ≤ most ∧ most ≤ 64
  · have hd1 : decide (2 ≤ most) = true := decide_eq_true hm.1
    have hd2 : decide (most ≤ 64) = true := decide_eq_true hm.2
    have HM := Lib.hid hm
    clear hm
    go_wp2_with fail
    refine (knew_any most w3 HM.out.1 HM.out.2).mono ?_
    rintro e w5 ⟨⟨b0, rfl, hx1, hx2⟩, hb⟩
    clear hx1 hx2
    have hb5 := keep1 hb3 hb
    clear hb hb3
    go_wp2_with fail
    refine (build_any Avals len cvals vals most w5 HLN.out lvals (HR.out.below hb5) HO.out).mono ?_
    rintro e w6 (⟨hn, rfl, hb⟩ | ⟨hP, b, m, S, T, rfl, hB⟩)
    · have hb6 := keep1 hb5 hb
      clear hn hb hb5 hd1 hd2
      go_wp2
      go_ret
      exact ⟨rfl, hb6⟩
    · have HPL := Lib.hid hP.pl
      have HSM := Lib.hid hP.sum
      have HLL := Lib.hid hP.len
      have HB5 := Lib.hid hb5
      have H6 := Lib.hid hB
      obtain ⟨L, hL⟩ : ∃ L, playL most vals = L := ⟨_, rfl⟩
      rw [hL] at H6 HPL HLL
      clear hP hb5 hB hd1 hd2 hL
      obtain ⟨B5, hB5⟩ : ∃ B, w5.heap.size = B := ⟨_, rfl⟩
      have HBE := Lib.hid hB5
      rw [hB5] at H6
      clear hB5
      by_cases hom : 2 ≤ other ∧ other ≤ 64
      · have HOM := Lib.hid hom
        clear hom
        go_wp2_with fail
        refine (knew_any other w6 HOM.out.1 HOM.out.2).mono ?_
        rintro e w7 ⟨⟨o, rfl, hx1, hSo⟩, hb⟩
        clear hx1
        have H7 := Lib.hid (BothK.abide H6.out hb)
        have HSO := Lib.hid hSo
        clear hb H6 hSo
        by_cases hne : other = most
        · subst hne
          obtain ⟨A, c, d8, hrd, _⟩ := docK_at H7.out.y
          obtain ⟨n, hn⟩ : ∃ n, L.length = n := ⟨_, rfl⟩
          have HLN2 := Lib.hid hn
          rw [hn] at d8
          have d8' := d8.drew
          have HRD : Hid (RdL w7.drew A L) := hrd.below (Below.refl _ _).drew
          have H8 := Lib.hid (BothK.abide H7.out (Below.refl _ _).drew)
          clear hn hrd d8 H7
          go_wp2
          obtain ⟨W8, hW8⟩ : ∃ W, w7.drew = W := ⟨_, rfl⟩
          rw [hW8] at H8 d8' HRD
          haveI : Nonempty (Held fun w' => At w' m #[.int .i64 other, .slice A n c] 37) := ⟨⟨W8, d8'⟩⟩
          have hfar := fun z : Held fun w' => At w' m #[.int .i64 other, .slice A n c] 37 => z.held.two
          refine wp_region_noPanic ?_
          refine wp_region_held_drew (S := HeldS fun w' => At w' m #[.int .i64 other, .slice A n c] 37) (by kernel_rfl) (HeldS.mk' (hW8 ▸ d8')) (fun hHeld => ?_)
          rw [hW8] at hHeld ⊢
          clear hW8
          refine wpAnyH_run0 [true] 26 (by kernel_rfl) (by kernel_rfl) (fun _ _ _ _ h => h) (by kernel_rfl) hHeld ?_
          simp only [runOps_true, runOps_false, runOps_nil]
          repeat (first | go_big_quiet_skip | (go_big_quiet_want; go_big_quiet_op; go_big_quiet_on))
          refine wpQuiet_nil ?_
          refine wpAnyH_ready (rs := [1]) (by kernel_rfl) (by simp) ?_
          refine AllReadyH.cons rfl (fun K hK => ?_) AllReadyH.nil
          go_simp
          go_wp2_with (go_at_call 15; refine (kput_zero b 1 W8).mono ?_; rintro e w9 ⟨rfl, rfl⟩)
          refine hK.out _ _ ?_ (fun hHeld => ?_)
          clear hK K
          · exact HeldS.mk' d8'
          refine wpAnyH_run0 [false, false, true, true, true, true] 21 (by kernel_rfl) (by kernel_rfl) (fun _ _ _ _ h => h) (by kernel_rfl) hHeld ?_
          simp only [runOps_true, runOps_false, runOps_nil]
          repeat (first | go_big_quiet_skip | (go_big_quiet_want; go_big_quiet_op; go_big_quiet_on))
          refine wpQuiet_nil ?_
          refine wpAnyH_ready (rs := [6]) (by kernel_rfl) (by simp) ?_
          refine AllReadyH.cons rfl (fun K hK => ?_) AllReadyH.nil
          go_simp
          go_wp2_with (go_at_call 18; refine (ktotal_any b S other _ L W8 H8.out.x.r).mono ?_; rintro e w9 ⟨rfl, rfl⟩)
          refine hK.out _ _ ?_ (fun hHeld => ?_)
          clear hK K
          · exact HeldS.mk' d8'
          have hw : IntKind.u64.wrap (9223372036854775808 - sumN L) = 9223372036854775808 - sumN L := by have h1 := HPL.out.sm; have := HSM.out; simp only [IntKind.wrap_u64]; omega
          refine wpAnyH_run0 [false, false, false, false, false, false, false, true] 19 (by kernel_rfl) (by kernel_rfl) (fun _ _ _ _ h => h) (by kernel_rfl) hHeld ?_
          simp only [runOps_true, runOps_false, runOps_nil]
          repeat (first | go_big_quiet_skip | (go_big_quiet_want; go_big_quiet_op; go_big_quiet_on))
          refine wpQuiet_nil ?_
          refine wpAnyH_ready (rs := [8]) (by kernel_rfl) (by simp) ?_
          refine AllReadyH.cons rfl (fun K hK => ?_) AllReadyH.nil
          go_simp
          go_wp2_with (go_at_call 15; refine (kput_full b S other L 1 (9223372036854775808 - sumN L) W8 H8.out.x (by have h1 := HPL.out.sm; have := HSM.out; omega) (by have h1 := HPL.out.sm; have := HSM.out; omega) (by omega)).mono ?_; rintro e w9 ⟨rfl, hb⟩)
          refine hK.out _ _ ?_ (fun hHeld => ?_)
          clear hK K
          · exact HeldS.mk' (d8'.below hb)
          replace d8' := d8'.below hb
          replace H8 := Lib.hid (BothK.abide H8.out hb)
          replace HRD := Lib.hid (HRD.out.below hb)
          clear hb hw
          refine wpAnyH_run0 [false, false, false, false, false, false, false, false, false, true, true, true, true] 14 (by kernel_rfl) (by kernel_rfl) (fun _ _ _ _ h => h) (by kernel_rfl) hHeld ?_
          simp only [runOps_true, runOps_false, runOps_nil]
          repeat (first | go_big_quiet_skip | (go_big_quiet_want; go_big_quiet_op; go_big_quiet_on))
          refine wpQuiet_nil ?_
          refine wpAnyH_ready (rs := [13]) (by kernel_rfl) (by simp) ?_
          refine AllReadyH.cons rfl (fun K hK => ?_) AllReadyH.nil
          go_simp
          go_wp2_with (go_at_call 19; refine (kjoin_nil b w9).mono ?_; rintro e w10 ⟨rfl, rfl⟩)
          refine hK.out _ _ ?_ (fun hHeld => ?_)
          clear hK K
          · exact HeldS.mk' d8'
          refine wpAnyH_run0 [false, false, false, false, false, false, false, false, false, false, false, false, false, false, true, true, true, true, false, false, true, true, true, true] 5 (by kernel_rfl) (by kernel_rfl) (fun _ _ _ _ h => h) (by kernel_rfl) hHeld ?_
          simp only [runOps_true, runOps_false, runOps_nil]
          repeat (first | go_big_quiet_skip | (go_big_quiet_want; go_big_quiet_op; go_big_quiet_on))
          refine wpQuiet_nil ?_
          refine wpAnyH_ready (rs := [18]) (by kernel_rfl) (by simp) ?_
          refine AllReadyH.cons rfl (fun K hK => ?_) AllReadyH.nil
          go_simp
          go_wp2_with (go_at_call 12; refine (klumps_any b S other _ L w9 H8.out.x.r (by have := HLL.out; omega)).mono ?_; rintro e w10 ⟨A9, c9, rfl, ho, hb⟩; rw [HLN2.out])
          refine hK.out _ _ ?_ (fun hHeld => ?_)
          clear hK K
          · exact HeldS.mk' (d8'.below hb)
          replace d8' := d8'.below hb
          replace H8 := Lib.hid (BothK.abide H8.out hb)
          replace HRD := Lib.hid (HRD.out.below hb)
          have HR9 := Lib.hid ho.rd
          clear hb ho
          refine wpAnyH_ready (rs := [19]) (by kernel_rfl) (by simp) ?_
          refine AllReadyH.cons rfl (fun K hK => ?_) AllReadyH.nil
          go_simp
          go_wp2_with (go_at_call 14; refine (plain_any A9 n c9 L w10 HLN2.out (by have := HLL.out; have := HLN2.out; omega) HR9.out).mono ?_; rintro e w11 ⟨A10, c10, rfl, ho, hb⟩; rw [HLN2.out])
          refine hK.out _ _ ?_ (fun hHeld => ?_)
          clear hK K
          · exact HeldS.mk' (d8'.below hb)
          replace d8' := d8'.below hb
          replace H8 := Lib.hid (BothK.abide H8.out hb)
          replace HRD := Lib.hid (HRD.out.below hb)
          have HR10 := Lib.hid ho.rd
          clear hb ho HR9
          refine wpAnyH_ready (rs := [24]) (by kernel_rfl) (by simp) ?_
          refine AllReadyH.cons rfl (fun K hK => ?_) AllReadyH.nil
          go_simp
          go_wp2_with (go_at_call 13; refine (ksame_any A10 A n c10 n c L L w11 HLN2.out HLN2.out (by have := HLL.out; have := HLN2.out; omega) (by have := HLL.out; have := HLN2.out; omega) HR10.out HRD.out).mono ?_; rintro e w12 ⟨rfl, hb⟩; rw [decide_eq_true rfl])
          refine hK.out _ _ ?_ (fun hHeld => ?_)
          clear hK K
          · exact HeldS.mk' (d8'.below hb)
          have HFB := Lib.hid (Two.fin H8.out hb)
          clear hb H8 d8' HR10 HRD
          refine wpAnyH_run0 [false, false, false, false, false, false, false, false, false, false, false, false, false, false, false, false, false, false, false, false, false, false, false, false, false, true, true] 0 (by kernel_rfl) (by kernel_rfl) (fun _ _ _ _ h => h) (by kernel_rfl) hHeld ?_
          simp only [runOps_true, runOps_false, runOps_nil]
          repeat (first | go_big_quiet_skip | (go_big_quiet_want; go_big_quiet_op; go_big_quiet_on))
          refine wpQuiet_nil ?_
          refine wpAnyH_done (by kernel_rfl) ?_ _
          refine NoPanic.normal ?_
          clear hfar hHeld
          go_wp2
          go_ret
          exact ⟨rfl, keep1 HB5.out (show Below w5.heap.size w5 w12 by rw [HBE.out]; exact HFB.out)⟩
        · have hne1 : (other == most) = false := beq_eq_false_iff_ne.2 hne
          have HNE := Lib.hid hne
          clear hne
          go_wp2_with fail
          refine (kjoin_match b o S [o] most other L [] w7 H7.out.x HSO.out (fun h => HNE.out h.symm)).mono ?_
          rintro e w8 ⟨rfl, hb⟩
          have H8 := Lib.hid (BothK.abide H7.out hb)
          clear hb H7 hne1 HSO
          replace H7 := H8
          clear H8
          obtain ⟨A, c, d8, hrd, _⟩ := docK_at H7.out.y
          obtain ⟨n, hn⟩ : ∃ n, L.length = n := ⟨_, rfl⟩
          have HLN2 := Lib.hid hn
          rw [hn] at d8
          have d8' := d8.drew
          have HRD : Hid (RdL w8.drew A L) := hrd.below (Below.refl _ _).drew
          have H8 := Lib.hid (BothK.abide H7.out (Below.refl _ _).drew)
          clear hn hrd d8 H7
          go_wp2
          obtain ⟨W8, hW8⟩ : ∃ W, w8.drew = W := ⟨_, rfl⟩
          rw [hW8] at H8 d8' HRD
          haveI : Nonempty (Held fun w' => At w' m #[.int .i64 most, .slice A n c] 37) := ⟨⟨W8, d8'⟩⟩
          have hfar := fun z : Held fun w' => At w' m #[.int .i64 most, .slice A n c] 37 => z.held.two
          refine wp_region_noPanic ?_
          refine wp_region_held_drew (S := HeldS fun w' => At w' m #[.int .i64 most, .slice A n c] 37) (by kernel_rfl) (HeldS.mk' (hW8 ▸ d8')) (fun hHeld => ?_)
          rw [hW8] at hHeld ⊢
          clear hW8
          refine wpAnyH_run0 [true] 26 (by kernel_rfl) (by kernel_rfl) (fun _ _ _ _ h => h) (by kernel_rfl) hHeld ?_
          simp only [runOps_true, runOps_false, runOps_nil]
          repeat (first | go_big_quiet_skip | (go_big_quiet_want; go_big_quiet_op; go_big_quiet_on))
          refine wpQuiet_nil ?_
          refine wpAnyH_ready (rs := [1]) (by kernel_rfl) (by simp) ?_
          refine AllReadyH.cons rfl (fun K hK => ?_) AllReadyH.nil
          go_simp
          go_wp2_with (go_at_call 15; refine (kput_zero b 1 W8).mono ?_; rintro e w9 ⟨rfl, rfl⟩)
          refine hK.out _ _ ?_ (fun hHeld => ?_)
          clear hK K
          · exact HeldS.mk' d8'
          refine wpAnyH_run0 [false, false, true, true, true, true] 21 (by kernel_rfl) (by kernel_rfl) (fun _ _ _ _ h => h) (by kernel_rfl) hHeld ?_
          simp only [runOps_true, runOps_false, runOps_nil]
          repeat (first | go_big_quiet_skip | (go_big_quiet_want; go_big_quiet_op; go_big_quiet_on))
          refine wpQuiet_nil ?_
          refine wpAnyH_ready (rs := [6]) (by kernel_rfl) (by simp) ?_
          refine AllReadyH.cons rfl (fun K hK => ?_) AllReadyH.nil
          go_simp
          go_wp2_with (go_at_call 18; refine (ktotal_any b S most _ L W8 H8.out.x.r).mono ?_; rintro e w9 ⟨rfl, rfl⟩)
          refine hK.out _ _ ?_ (fun hHeld => ?_)
          clear hK K
          · exact HeldS.mk' d8'
          have hw : IntKind.u64.wrap (9223372036854775808 - sumN L) = 9223372036854775808 - sumN L := by have h1 := HPL.out.sm; have := HSM.out; simp only [IntKind.wrap_u64]; omega
          refine wpAnyH_run0 [false, false, false, false, false, false, false, true] 19 (by kernel_rfl) (by kernel_rfl) (fun _ _ _ _ h => h) (by kernel_rfl) hHeld ?_
          simp only [runOps_true, runOps_false, runOps_nil]
          repeat (first | go_big_quiet_skip | (go_big_quiet_want; go_big_quiet_op; go_big_quiet_on))
          refine wpQuiet_nil ?_
          refine wpAnyH_ready (rs := [8]) (by kernel_rfl) (by simp) ?_
          refine AllReadyH.cons rfl (fun K hK => ?_) AllReadyH.nil
          go_simp
          go_wp2_with (go_at_call 15; refine (kput_full b S most L 1 (9223372036854775808 - sumN L) W8 H8.out.x (by have h1 := HPL.out.sm; have := HSM.out; omega) (by have h1 := HPL.out.sm; have := HSM.out; omega) (by omega)).mono ?_; rintro e w9 ⟨rfl, hb⟩)
          refine hK.out _ _ ?_ (fun hHeld => ?_)
          clear hK K
          · exact HeldS.mk' (d8'.below hb)
          replace d8' := d8'.below hb
          replace H8 := Lib.hid (BothK.abide H8.out hb)
          replace HRD := Lib.hid (HRD.out.below hb)
          clear hb hw
          refine wpAnyH_run0 [false, false, false, false, false, false, false, false, false, true, true, true, true] 14 (by kernel_rfl) (by kernel_rfl) (fun _ _ _ _ h => h) (by kernel_rfl) hHeld ?_
          simp only [runOps_true, runOps_false, runOps_nil]
          repeat (first | go_big_quiet_skip | (go_big_quiet_want; go_big_quiet_op; go_big_quiet_on))
          refine wpQuiet_nil ?_
          refine wpAnyH_ready (rs := [13]) (by kernel_rfl) (by simp) ?_
          refine AllReadyH.cons rfl (fun K hK => ?_) AllReadyH.nil
          go_simp
          go_wp2_with (go_at_call 19; refine (kjoin_nil b w9).mono ?_; rintro e w10 ⟨rfl, rfl⟩)
          refine hK.out _ _ ?_ (fun hHeld => ?_)
          clear hK K
          · exact HeldS.mk' d8'
          refine wpAnyH_run0 [false, false, false, false, false, false, false, false, false, false, false, false, false, false, true, true, true, true, false, false, true, true, true, true] 5 (by kernel_rfl) (by kernel_rfl) (fun _ _ _ _ h => h) (by kernel_rfl) hHeld ?_
          simp only [runOps_true, runOps_false, runOps_nil]
          repeat (first | go_big_quiet_skip | (go_big_quiet_want; go_big_quiet_op; go_big_quiet_on))
          refine wpQuiet_nil ?_
          refine wpAnyH_ready (rs := [18]) (by kernel_rfl) (by simp) ?_
          refine AllReadyH.cons rfl (fun K hK => ?_) AllReadyH.nil
          go_simp
          go_wp2_with (go_at_call 12; refine (klumps_any b S most _ L w9 H8.out.x.r (by have := HLL.out; omega)).mono ?_; rintro e w10 ⟨A9, c9, rfl, ho, hb⟩; rw [HLN2.out])
          refine hK.out _ _ ?_ (fun hHeld => ?_)
          clear hK K
          · exact HeldS.mk' (d8'.below hb)
          replace d8' := d8'.below hb
          replace H8 := Lib.hid (BothK.abide H8.out hb)
          replace HRD := Lib.hid (HRD.out.below hb)
          have HR9 := Lib.hid ho.rd
          clear hb ho
          refine wpAnyH_ready (rs := [19]) (by kernel_rfl) (by simp) ?_
          refine AllReadyH.cons rfl (fun K hK => ?_) AllReadyH.nil
          go_simp
          go_wp2_with (go_at_call 14; refine (plain_any A9 n c9 L w10 HLN2.out (by have := HLL.out; have := HLN2.out; omega) HR9.out).mono ?_; rintro e w11 ⟨A10, c10, rfl, ho, hb⟩; rw [HLN2.out])
          refine hK.out _ _ ?_ (fun hHeld => ?_)
          clear hK K
          · exact HeldS.mk' (d8'.below hb)
          replace d8' := d8'.below hb
          replace H8 := Lib.hid (BothK.abide H8.out hb)
          replace HRD := Lib.hid (HRD.out.below hb)
          have HR10 := Lib.hid ho.rd
          clear hb ho HR9
          refine wpAnyH_ready (rs := [24]) (by kernel_rfl) (by simp) ?_
          refine AllReadyH.cons rfl (fun K hK => ?_) AllReadyH.nil
          go_simp
          go_wp2_with (go_at_call 13; refine (ksame_any A10 A n c10 n c L L w11 HLN2.out HLN2.out (by have := HLL.out; have := HLN2.out; omega) (by have := HLL.out; have := HLN2.out; omega) HR10.out HRD.out).mono ?_; rintro e w12 ⟨rfl, hb⟩; rw [decide_eq_true rfl])
          refine hK.out _ _ ?_ (fun hHeld => ?_)
          clear hK K
          · exact HeldS.mk' (d8'.below hb)
          have HFB := Lib.hid (Two.fin H8.out hb)
          clear hb H8 d8' HR10 HRD
          refine wpAnyH_run0 [false, false, false, false, false, false, false, false, false, false, false, false, false, false, false, false, false, false, false, false, false, false, false, false, false, true, true] 0 (by kernel_rfl) (by kernel_rfl) (fun _ _ _ _ h => h) (by kernel_rfl) hHeld ?_
          simp only [runOps_true, runOps_false, runOps_nil]
          repeat (first | go_big_quiet_skip | (go_big_quiet_want; go_big_quiet_op; go_big_quiet_on))
          refine wpQuiet_nil ?_
          refine wpAnyH_done (by kernel_rfl) ?_ _
          refine NoPanic.normal ?_
          clear hfar hHeld
          go_wp2
          go_ret
          exact ⟨rfl, keep1 HB5.out (show Below w5.heap.size w5 w12 by rw [HBE.out]; exact HFB.out)⟩
      · have HOM : Hid (other < 2 ∨ 64 < other) := by show _ ∨ _; omega
        clear hom
        go_wp2_with fail
        refine (knew_bad other w6 HOM.out).mono ?_
        rintro e w7 ⟨rfl, rfl⟩
        have H7 := H6
        clear H6
        obtain ⟨A, c, d8, hrd, _⟩ := docK_at H7.out.y
        obtain ⟨n, hn⟩ : ∃ n, L.length = n := ⟨_, rfl⟩
        have HLN2 := Lib.hid hn
        rw [hn] at d8
        have d8' := d8.drew
        have HRD : Hid (RdL w6.drew A L) := hrd.below (Below.refl _ _).drew
        have H8 := Lib.hid (BothK.abide H7.out (Below.refl _ _).drew)
        clear hn hrd d8 H7
        go_wp2
        obtain ⟨W8, hW8⟩ : ∃ W, w6.drew = W := ⟨_, rfl⟩
        rw [hW8] at H8 d8' HRD
        haveI : Nonempty (Held fun w' => At w' m #[.int .i64 most, .slice A n c] 37) := ⟨⟨W8, d8'⟩⟩
        have hfar := fun z : Held fun w' => At w' m #[.int .i64 most, .slice A n c] 37 => z.held.two
        refine wp_region_noPanic ?_
        refine wp_region_held_drew (S := HeldS fun w' => At w' m #[.int .i64 most, .slice A n c] 37) (by kernel_rfl) (HeldS.mk' (hW8 ▸ d8')) (fun hHeld => ?_)
        rw [hW8] at hHeld ⊢
        clear hW8
        refine wpAnyH_run0 [true] 26 (by kernel_rfl) (by kernel_rfl) (fun _ _ _ _ h => h) (by kernel_rfl) hHeld ?_
        simp only [runOps_true, runOps_false, runOps_nil]
        repeat (first | go_big_quiet_skip | (go_big_quiet_want; go_big_quiet_op; go_big_quiet_on))
        refine wpQuiet_nil ?_
        refine wpAnyH_ready (rs := [1]) (by kernel_rfl) (by simp) ?_
        refine AllReadyH.cons rfl (fun K hK => ?_) AllReadyH.nil
        go_simp
        go_wp2_with (go_at_call 15; refine (kput_zero b 1 W8).mono ?_; rintro e w9 ⟨rfl, rfl⟩)
        refine hK.out _ _ ?_ (fun hHeld => ?_)
        clear hK K
        · exact HeldS.mk' d8'
        refine wpAnyH_run0 [false, false, true, true, true, true] 21 (by kernel_rfl) (by kernel_rfl) (fun _ _ _ _ h => h) (by kernel_rfl) hHeld ?_
        simp only [runOps_true, runOps_false, runOps_nil]
        repeat (first | go_big_quiet_skip | (go_big_quiet_want; go_big_quiet_op; go_big_quiet_on))
        refine wpQuiet_nil ?_
        refine wpAnyH_ready (rs := [6]) (by kernel_rfl) (by simp) ?_
        refine AllReadyH.cons rfl (fun K hK => ?_) AllReadyH.nil
        go_simp
        go_wp2_with (go_at_call 18; refine (ktotal_any b S most _ L W8 H8.out.x.r).mono ?_; rintro e w9 ⟨rfl, rfl⟩)
        refine hK.out _ _ ?_ (fun hHeld => ?_)
        clear hK K
        · exact HeldS.mk' d8'
        have hw : IntKind.u64.wrap (9223372036854775808 - sumN L) = 9223372036854775808 - sumN L := by have h1 := HPL.out.sm; have := HSM.out; simp only [IntKind.wrap_u64]; omega
        refine wpAnyH_run0 [false, false, false, false, false, false, false, true] 19 (by kernel_rfl) (by kernel_rfl) (fun _ _ _ _ h => h) (by kernel_rfl) hHeld ?_
        simp only [runOps_true, runOps_false, runOps_nil]
        repeat (first | go_big_quiet_skip | (go_big_quiet_want; go_big_quiet_op; go_big_quiet_on))
        refine wpQuiet_nil ?_
        refine wpAnyH_ready (rs := [8]) (by kernel_rfl) (by simp) ?_
        refine AllReadyH.cons rfl (fun K hK => ?_) AllReadyH.nil
        go_simp
        go_wp2_with (go_at_call 15; refine (kput_full b S most L 1 (9223372036854775808 - sumN L) W8 H8.out.x (by have h1 := HPL.out.sm; have := HSM.out; omega) (by have h1 := HPL.out.sm; have := HSM.out; omega) (by omega)).mono ?_; rintro e w9 ⟨rfl, hb⟩)
        refine hK.out _ _ ?_ (fun hHeld => ?_)
        clear hK K
        · exact HeldS.mk' (d8'.below hb)
        replace d8' := d8'.below hb
        replace H8 := Lib.hid (BothK.abide H8.out hb)
        replace HRD := Lib.hid (HRD.out.below hb)
        clear hb hw
        refine wpAnyH_run0 [false, false, false, false, false, false, false, false, false, true, true, true, true] 14 (by kernel_rfl) (by kernel_rfl) (fun _ _ _ _ h => h) (by kernel_rfl) hHeld ?_
        simp only [runOps_true, runOps_false, runOps_nil]
        repeat (first | go_big_quiet_skip | (go_big_quiet_want; go_big_quiet_op; go_big_quiet_on))
        refine wpQuiet_nil ?_
        refine wpAnyH_ready (rs := [13]) (by kernel_rfl) (by simp) ?_
        refine AllReadyH.cons rfl (fun K hK => ?_) AllReadyH.nil
        go_simp
        go_wp2_with (go_at_call 19; refine (kjoin_nil b w9).mono ?_; rintro e w10 ⟨rfl, rfl⟩)
        refine hK.out _ _ ?_ (fun hHeld => ?_)
        clear hK K
        · exact HeldS.mk' d8'
        refine wpAnyH_run0 [false, false, false, false, false, false, false, false, false, false, false, false, false, false, true, true, true, true, false, false, true, true, true, true] 5 (by kernel_rfl) (by kernel_rfl) (fun _ _ _ _ h => h) (by kernel_rfl) hHeld ?_
        simp only [runOps_true, runOps_false, runOps_nil]
        repeat (first | go_big_quiet_skip | (go_big_quiet_want; go_big_quiet_op; go_big_quiet_on))
        refine wpQuiet_nil ?_
        refine wpAnyH_ready (rs := [18]) (by kernel_rfl) (by simp) ?_
        refine AllReadyH.cons rfl (fun K hK => ?_) AllReadyH.nil
        go_simp
        go_wp2_with (go_at_call 12; refine (klumps_any b S most _ L w9 H8.out.x.r (by have := HLL.out; omega)).mono ?_; rintro e w10 ⟨A9, c9, rfl, ho, hb⟩; rw [HLN2.out])
        refine hK.out _ _ ?_ (fun hHeld => ?_)
        clear hK K
        · exact HeldS.mk' (d8'.below hb)
        replace d8' := d8'.below hb
        replace H8 := Lib.hid (BothK.abide H8.out hb)
        replace HRD := Lib.hid (HRD.out.below hb)
        have HR9 := Lib.hid ho.rd
        clear hb ho
        refine wpAnyH_ready (rs := [19]) (by kernel_rfl) (by simp) ?_
        refine AllReadyH.cons rfl (fun K hK => ?_) AllReadyH.nil
        go_simp
        go_wp2_with (go_at_call 14; refine (plain_any A9 n c9 L w10 HLN2.out (by have := HLL.out; have := HLN2.out; omega) HR9.out).mono ?_; rintro e w11 ⟨A10, c10, rfl, ho, hb⟩; rw [HLN2.out])
        refine hK.out _ _ ?_ (fun hHeld => ?_)
        clear hK K
        · exact HeldS.mk' (d8'.below hb)
        replace d8' := d8'.below hb
        replace H8 := Lib.hid (BothK.abide H8.out hb)
        replace HRD := Lib.hid (HRD.out.below hb)
        have HR10 := Lib.hid ho.rd
        clear hb ho HR9
        refine wpAnyH_ready (rs := [24]) (by kernel_rfl) (by simp) ?_
        refine AllReadyH.cons rfl (fun K hK => ?_) AllReadyH.nil
        go_simp
        go_wp2_with (go_at_call 13; refine (ksame_any A10 A n c10 n c L L w11 HLN2.out HLN2.out (by have := HLL.out; have := HLN2.out; omega) (by have := HLL.out; have := HLN2.out; omega) HR10.out HRD.out).mono ?_; rintro e w12 ⟨rfl, hb⟩; rw [decide_eq_true rfl])
        refine hK.out _ _ ?_ (fun hHeld => ?_)
        clear hK K
        · exact HeldS.mk' (d8'.below hb)
        have HFB := Lib.hid (Two.fin H8.out hb)
        clear hb H8 d8' HR10 HRD
        refine wpAnyH_run0 [false, false, false, false, false, false, false, false, false, false, false, false, false, false, false, false, false, false, false, false, false, false, false, false, false, true, true] 0 (by kernel_rfl) (by kernel_rfl) (fun _ _ _ _ h => h) (by kernel_rfl) hHeld ?_
        simp only [runOps_true, runOps_false, runOps_nil]
        repeat (first | go_big_quiet_skip | (go_big_quiet_want; go_big_quiet_op; go_big_quiet_on))
        refine wpQuiet_nil ?_
        refine wpAnyH_done (by kernel_rfl) ?_ _
        refine NoPanic.normal ?_
        clear hfar hHeld
        go_wp2
        go_ret
        exact ⟨rfl, keep1 HB5.out (show Below w5.heap.size w5 w12 by rw [HBE.out]; exact HFB.out)⟩
  · have HM : Hid (most < 2 ∨ 64 < most) := by show _ ∨ _; omega
    have hdd : (decide (2 ≤ most) = false) ∨ (decide (2 ≤ most) = true ∧ decide (most ≤ 64) = false) := by
      by_cases h : 2 ≤ most
      · exact .inr ⟨decide_eq_true h, decide_eq_false (by omega)⟩
      · exact .inl (decide_eq_false h)
    have HNP : Hid (¬ PlayK most vals) := fun h => hm h.m
    clear hm
    go_wp2_with fail
    refine (knew_bad most w3 HM.out).mono ?_
    rintro e w5 ⟨rfl, rfl⟩
    rcases hdd with hd1 | ⟨hd1, hd2⟩
    · go_wp2_with fail
      refine (build_any Avals len cvals vals most w3 HLN.out lvals (HR.out.below hb3) HO.out).mono ?_
      rintro e w6 (⟨hn, rfl, hb⟩ | ⟨hP, b, m, S, T, rfl, hB⟩)
      · have hb6 := keep1 hb3 hb
        clear hn hb hb3 hd1
        go_wp2
        go_ret
        exact ⟨rfl, hb6⟩
      · exact absurd hP HNP.out
    · go_wp2_with fail
      refine (build_any Avals len cvals vals most w3 HLN.out lvals (HR.out.below hb3) HO.out).mono ?_
      rintro e w6 (⟨hn, rfl, hb⟩ | ⟨hP, b, m, S, T, rfl, hB⟩)
      · have hb6 := keep1 hb3 hb
        clear hn hb hb3 hd1 hd2
        go_wp2
        go_ret
        exact ⟨rfl, hb6⟩
      · exact absurd hP HNP.out
end Go.Proofs.Ytbmnebpjjghkpaa

