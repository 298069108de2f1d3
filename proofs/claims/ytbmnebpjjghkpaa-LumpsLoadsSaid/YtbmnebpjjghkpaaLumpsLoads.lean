/- The walk of the statement LumpsLoads. -/
import Derived.Test.YtbmnebpjjghkpaaProg
import Derived.Test.YtbmnebpjjghkpaaOpen
import Derived.Test.YtbmnebpjjghkpaaTold22
import Derived.Test.YtbmnebpjjghkpaaHeld
import Derived.Test.YtbmnebpjjghkpaaFar
namespace Go.Proofs.Ytbmnebpjjghkpaa
open Go.RowKit

theorem two_swapX {B : Nat} {w wr w' : World} {S T So : List Nat} {X Y X' Y' : Prop} (h : Two B w wr S T X Y) (hb : Below wr.heap.size wr w') (hY : Y → Y') (hS : Within So wr.heap.size w'.heap.size) (hX : X') : Two B w w' So T X' Y' :=
  ⟨hX, hY h.y, fun k hk => ⟨Nat.le_trans h.size (hS k hk).1, (hS k hk).2⟩, h.wt.mono hb.size, fun k hk hn => by have := (hS k hk).1; have := (h.wt k hn).2; omega, h.below.trans (hb.mono h.size), Nat.le_trans h.size hb.size⟩

set_option maxRecDepth 100000 in
set_option maxHeartbeats 4000000 in
theorem lumpsLoads_walk (w : World) (most : Int) (bdmost : -9223372036854775808 ≤ most ∧ most ≤ 9223372036854775807) (Avals : Option Addr) (cvals : Nat) (vals : List (Int × Int)) (rvals : Rd w Avals (vals.flatMap fun x => [.int .i64 x.1, .int .u64 x.2])) (bdvals : ∀ x ∈ vals, (-9223372036854775808 ≤ x.1 ∧ x.1 ≤ 9223372036854775807) ∧ (0 ≤ x.2 ∧ x.2 < 18446744073709551616)) (lvals : vals.length ≤ 9223372036854775807) (x : Int) (bdx : -9223372036854775808 ≤ x ∧ x ≤ 9223372036854775807) (Alist : Option Addr) (clist : Nat) (list : List (Int × Int × Int)) (rlist : Rd w Alist (list.flatMap fun x => [.int .u64 x.1, .int .i64 x.2.1, .int .i64 x.2.2])) (bdlist : ∀ x ∈ list, (0 ≤ x.1 ∧ x.1 < 18446744073709551616) ∧ (-9223372036854775808 ≤ x.2.1 ∧ x.2.1 ≤ 9223372036854775807) ∧ (-9223372036854775808 ≤ x.2.2 ∧ x.2.2 ≤ 9223372036854775807)) (llist : list.length ≤ 9223372036854775807) :
    Calls Try.prog 3 #[.int .i64 most, .slice Avals vals.length cvals, .int .i64 x, .slice Alist list.length clist] w fun e w' => e = .returned (.bool true) ∧ Below w.heap.size w w' := by
  have HR : Hid (RdP w Avals vals) := rvals
  have HO : Hid (okP vals) := bdvals
  have HRL : Hid (RdL w Alist list) := rlist
  have HOL : Hid (okL list) := bdlist
  have HX := Lib.hid bdx
  clear rvals bdvals rlist bdlist bdmost bdx
  obtain ⟨len, hlen⟩ : ∃ len, vals.length = len := ⟨_, rfl⟩
  have HLN := Lib.hid hlen
  rw [hlen] at lvals ⊢
  obtain ⟨ll, hll⟩ : ∃ len, list.length = len := ⟨_, rfl⟩
  have HLL := Lib.hid hll
  rw [hll] at llist ⊢
  clear hlen hll
  go_enter Try.func3, Try.ntmps3
  go_wp2_with fail
  refine (alive_any _).mono ?_
  rintro e w1 ⟨rfl, hb1⟩
  go_wp2_with fail
  refine (build_any Avals len cvals vals most w1 HLN.out lvals (HR.out.below hb1) HO.out).mono ?_
  rintro e w2 (⟨hn, rfl, hb⟩ | ⟨hP, b, m, S, T, rfl, hB⟩)
  · have hb2 := keep1 hb1 hb
    clear hn hb hb1
    go_wp2
    go_ret
    exact ⟨rfl, hb2⟩
  · by_cases h80 : (80 : Int) < ll
    · have hd : decide ((80 : Int) < ll) = true := decide_eq_true h80
      have HFB := Lib.hid (keep1 hb1 (Two.below hB))
      clear hP hb1 hB
      go_wp2
      go_ret
      exact ⟨rfl, HFB.out⟩
    · have hd : decide ((80 : Int) < ll) = false := decide_eq_false h80
      have hd' : decide (80 < ll) = false := decide_eq_false (by omega)
      have ll80 : ll ≤ 80 := by omega
      have HPL := Lib.hid hP.pl
      have HSM := Lib.hid hP.sum
      have HLE := Lib.hid hP.len
      have HM := Lib.hid hP.m
      have HB1 := Lib.hid hb1
      have H2 := Lib.hid hB
      obtain ⟨L, hL⟩ : ∃ L, playL most vals = L := ⟨_, rfl⟩
      rw [hL] at H2 HPL HLE
      obtain ⟨n, hnn⟩ : ∃ n, L.length = n := ⟨_, rfl⟩
      have HN := Lib.hid hnn
      have hn64 : n ≤ 64 := by have := HLE.out; omega
      clear hP hb1 hB hL h80 hnn
      go_wp2_with fail
      refine (klumps_any b S most _ L w2 (Two.x H2.out).r (by have := HLE.out; omega)).mono ?_
      rintro e w3 ⟨A3, c3, rfl, ho, hb⟩
      rw [HN.out]
      have H3 := Lib.hid (BothK.abide H2.out hb)
      have HR3 := Lib.hid ho.rd
      clear hb ho H2 hd hd'
      go_wp2_with fail
      refine (kload_any A3 n c3 L most w3 HM.out.1 HM.out.2 HN.out (by omega) HR3.out (Two.x H3.out).ok).mono ?_
      rintro e w4 ⟨hld, hb⟩
      have hok : OkK most L := ⟨(Two.x H3.out).gd, (Two.x H3.out).sm, HPL.out.ln⟩
      rcases hld with ⟨_, o, So, rfl, hSo, hw⟩ | ⟨hno, _⟩
      rotate_left
      · exact absurd hok hno
      have H4 : Hid (BothK w1.heap.size w1 w4 o m So T most L) := two_swapX H3.out hb (fun k => k.below hb) hw hSo
      clear hok hSo hw hb HR3 H3
      obtain ⟨B1, hB1⟩ : ∃ B, w1.heap.size = B := ⟨_, rfl⟩
      have HBE := Lib.hid hB1
      rw [hB1] at H4
      clear hB1
      obtain ⟨A, c, d8, hrd, _⟩ := docK_at (Two.y H4.out)
      rw [HN.out] at d8
      have d8' := d8.drew
      have HRD : Hid (RdL w4.drew A L) := hrd.below (Below.refl _ _).drew
      have H8 := Lib.hid (BothK.abide H4.out (Below.refl _ _).drew)
      clear hrd d8 H4
      go_wp2
      obtain ⟨W8, hW8⟩ : ∃ W, w4.drew = W := ⟨_, rfl⟩
      rw [hW8] at H8 d8' HRD
      haveI : Nonempty (Held fun w' => At w' m #[.int .i64 most, .slice A n c] 37) := ⟨⟨W8, d8'⟩⟩
      have hfar := fun z : Held fun w' => At w' m #[.int .i64 most, .slice A n c] 37 => z.held.two
      refine wp_region_noPanic ?_
      refine wp_region_held_drew (S := HeldS fun w' => At w' m #[.int .i64 most, .slice A n c] 37) (by kernel_rfl) (HeldS.mk' (hW8 ▸ d8')) (fun hHeld => ?_)
      rw [hW8] at hHeld ⊢
      clear hW8
      refine wpAnyH_run0 [true, true, true, true, false, false, true, true, true, true] 5 (by kernel_rfl) (by kernel_rfl) (fun _ _ _ _ h => h) (by kernel_rfl) hHeld ?_
      simp only [runOps_true, runOps_false, runOps_nil]
      repeat (first | go_big_quiet_skip | (go_big_quiet_want; go_big_quiet_op; go_big_quiet_on))
      refine wpQuiet_nil ?_
      refine wpAnyH_ready (rs := [4]) (by kernel_rfl) (by simp) ?_
      refine AllReadyH.cons rfl (fun K hK => ?_) AllReadyH.nil
      go_simp
      go_wp2_with (go_at_call 12; refine (klumps_any o So most _ L W8 (Two.x H8.out).r (by have := HN.out; omega)).mono ?_; rintro e v1 ⟨A9, c9, rfl, ho, hb⟩; rw [HN.out])
      refine hK.out _ _ ?_ (fun hHeld => ?_)
      clear hK K
      · exact HeldS.mk' (d8'.below hb)
      replace d8' := d8'.below hb
      replace H8 := Lib.hid (BothK.abide H8.out hb)
      replace HRD := Lib.hid (HRD.out.below hb)
      have HR9 := Lib.hid ho.rd
      clear hb ho
      refine wpAnyH_ready (rs := [5]) (by kernel_rfl) (by simp) ?_
      refine AllReadyH.cons rfl (fun K hK => ?_) AllReadyH.nil
      go_simp
      go_wp2_with (go_at_call 14; refine (plain_any A9 n c9 L v1 HN.out (by omega) HR9.out).mono ?_; rintro e v2 ⟨A10, c10, rfl, ho, hb⟩; rw [HN.out])
      refine hK.out _ _ ?_ (fun hHeld => ?_)
      clear hK K
      · exact HeldS.mk' (d8'.below hb)
      replace d8' := d8'.below hb
      replace H8 := Lib.hid (BothK.abide H8.out hb)
      replace HRD := Lib.hid (HRD.out.below hb)
      have HR10 := Lib.hid ho.rd
      clear hb ho HR9
      refine wpAnyH_ready (rs := [10]) (by kernel_rfl) (by simp) ?_
      refine AllReadyH.cons rfl (fun K hK => ?_) AllReadyH.nil
      go_simp
      go_wp2_with (go_at_call 13; refine (ksame_any A10 A n c10 n c L L v2 HN.out HN.out (by omega) (by omega) HR10.out HRD.out).mono ?_; rintro e v3 ⟨rfl, hb⟩; rw [decide_eq_true rfl])
      refine hK.out _ _ ?_ (fun hHeld => ?_)
      clear hK K
      · exact HeldS.mk' (d8'.below hb)
      replace H8 := Lib.hid (BothK.abide H8.out hb)
      clear hb HR10 HRD d8'
      refine wpAnyH_run0 [false, false, false, false, false, false, false, false, false, false, false, true, true] 0 (by kernel_rfl) (by kernel_rfl) (fun _ _ _ _ h => h) (by kernel_rfl) hHeld ?_
      simp only [runOps_true, runOps_false, runOps_nil]
      repeat (first | go_big_quiet_skip | (go_big_quiet_want; go_big_quiet_op; go_big_quiet_on))
      refine wpQuiet_nil ?_
      refine wpAnyH_done (by kernel_rfl) ?_ _
      refine NoPanic.normal ?_
      clear hfar hHeld
      have H5 := H8
      clear H8
      go_wp2_with fail
      refine (kput_any o So most L x 3 _ (Two.x H5.out) HM.out.1 (by have := HLE.out; omega) (by omega) (by rw [HPL.out.sm]; have := HSM.out; omega) HX.out).mono ?_
      rintro e w5 ⟨rfl, S3, hg3, hC3, hF3⟩
      have H6 := Lib.hid (Two.stepX H5.out hg3 hC3 hC3.lt hF3 ((Two.y H5.out).frame hF3 (Two.ap H5.out).symm))
      clear hF3 hg3 hC3 H5
      go_wp2_with fail
      refine (dkput_any m T most L x 3 _ (Two.y H6.out) HPL.out.gd HM.out.1 (by have := HLE.out; omega) (by omega) (by rw [HPL.out.sm]; have := HSM.out; omega)).mono ?_
      rintro e w6 ⟨rfl, T4, hg4, hC4, hF4⟩
      have hpk := press_ok (most := most) (by have := HM.out; omega) (laid_gd (l := (3, x, x)) HPL.out.gd (by show (0 : Int) < 3; omega) (Int.le_refl _))
      have HKL : Hid ((press most (laid L (3, x, x))).length ≤ 64) := by have := hpk.2.2; have := HM.out; show _ ≤ _; omega
      have H7 : Hid (BothK B1 w1 w6 o m S3 T4 most (press most (laid L (3, x, x)))) := Two.stepY H6.out hg4 hC4 hC4.lt hF4 ((Two.x H6.out).frame hF4 (Two.ap H6.out))
      obtain ⟨KS, hK'⟩ : ∃ Q, press most (laid L (3, x, x)) = Q := ⟨_, rfl⟩
      rw [hK'] at H7 HKL
      obtain ⟨kn, hkn⟩ : ∃ n, KS.length = n := ⟨_, rfl⟩
      have HKN := Lib.hid hkn
      have kn64 : kn ≤ 64 := by have := HKL.out; omega
      clear hg4 hC4 hF4 H6 hpk hK' hkn
      obtain ⟨A, c, d8, hrd, _⟩ := docK_at (Two.y H7.out)
      rw [HKN.out] at d8
      have d8' := d8.drew
      have HRD : Hid (RdL w6.drew A KS) := hrd.below (Below.refl _ _).drew
      have H8 := Lib.hid (BothK.abide H7.out (Below.refl _ _).drew)
      clear hrd d8 H7
      go_wp2
      obtain ⟨W8, hW8⟩ : ∃ W, w6.drew = W := ⟨_, rfl⟩
      rw [hW8] at H8 d8' HRD
      haveI : Nonempty (Held fun w' => At w' m #[.int .i64 most, .slice A kn c] 37) := ⟨⟨W8, d8'⟩⟩
      have hfar := fun z : Held fun w' => At w' m #[.int .i64 most, .slice A kn c] 37 => z.held.two
      refine wp_region_noPanic ?_
      refine wp_region_held_drew (S := HeldS fun w' => At w' m #[.int .i64 most, .slice A kn c] 37) (by kernel_rfl) (HeldS.mk' (hW8 ▸ d8')) (fun hHeld => ?_)
      rw [hW8] at hHeld ⊢
      clear hW8
      refine wpAnyH_run0 [true, false, false, true, true, true, true] 4 (by kernel_rfl) (by kernel_rfl) (fun _ _ _ _ h => h) (by kernel_rfl) hHeld ?_
      simp only [runOps_true, runOps_false, runOps_nil]
      repeat (first | go_big_quiet_skip | (go_big_quiet_want; go_big_quiet_op; go_big_quiet_on))
      refine wpQuiet_nil ?_
      refine wpAnyH_ready (rs := [1]) (by kernel_rfl) (by simp) ?_
      refine AllReadyH.cons rfl (fun K hK => ?_) AllReadyH.nil
      go_simp
      go_wp2_with (go_at_call 12; refine (klumps_any o S3 most _ KS W8 (Two.x H8.out).r (by have := HKN.out; omega)).mono ?_; rintro e u1 ⟨A9, c9, rfl, ho, hb⟩; rw [HKN.out])
      refine hK.out _ _ ?_ (fun hHeld => ?_)
      clear hK K
      · exact HeldS.mk' (d8'.below hb)
      replace d8' := d8'.below hb
      replace H8 := Lib.hid (BothK.abide H8.out hb)
      replace HRD := Lib.hid (HRD.out.below hb)
      have HR9 := Lib.hid ho.rd
      clear hb ho
      refine wpAnyH_ready (rs := [2]) (by kernel_rfl) (by simp) ?_
      refine AllReadyH.cons rfl (fun K hK => ?_) AllReadyH.nil
      go_simp
      go_wp2_with (go_at_call 14; refine (plain_any A9 kn c9 KS u1 HKN.out (by omega) HR9.out).mono ?_; rintro e u2 ⟨A10, c10, rfl, ho, hb⟩; rw [HKN.out])
      refine hK.out _ _ ?_ (fun hHeld => ?_)
      clear hK K
      · exact HeldS.mk' (d8'.below hb)
      replace d8' := d8'.below hb
      replace H8 := Lib.hid (BothK.abide H8.out hb)
      replace HRD := Lib.hid (HRD.out.below hb)
      have HR10 := Lib.hid ho.rd
      clear hb ho HR9
      refine wpAnyH_ready (rs := [7]) (by kernel_rfl) (by simp) ?_
      refine AllReadyH.cons rfl (fun K hK => ?_) AllReadyH.nil
      go_simp
      go_wp2_with (go_at_call 13; refine (ksame_any A10 A kn c10 kn c KS KS u2 HKN.out HKN.out (by omega) (by omega) HR10.out HRD.out).mono ?_; rintro e u3 ⟨rfl, hb⟩; rw [decide_eq_true rfl])
      refine hK.out _ _ ?_ (fun hHeld => ?_)
      clear hK K
      · exact HeldS.mk' (d8'.below hb)
      replace H8 := Lib.hid (BothK.abide H8.out hb)
      clear hb HR10 HRD d8'
      refine wpAnyH_run0 [false, false, false, false, false, false, false, false, true] 0 (by kernel_rfl) (by kernel_rfl) (fun _ _ _ _ h => h) (by kernel_rfl) hHeld ?_
      simp only [runOps_true, runOps_false, runOps_nil]
      repeat (first | go_big_quiet_skip | (go_big_quiet_want; go_big_quiet_op; go_big_quiet_on))
      refine wpQuiet_nil ?_
      refine wpAnyH_done (by kernel_rfl) ?_ _
      refine NoPanic.normal ?_
      clear hfar hHeld
      have HB7 : Hid (Below w.heap.size w u3) := keep1 HB1.out (show Below w1.heap.size w1 u3 by rw [HBE.out]; exact Two.below H8.out)
      clear H8
      have HRL7 := Lib.hid (HRL.out.below HB7.out)
      go_wp2_with fail
      refine (plain_any Alist ll clist list _ HLL.out (by omega) HRL7.out).mono ?_
      rintro e w20 ⟨A20, c20, rfl, ho, hb⟩
      rw [HLL.out]
      have HR20 := Lib.hid ho.rd
      have HB20 := Lib.hid (keep1 HB7.out hb)
      replace HRL7 := Lib.hid (HRL7.out.below hb)
      clear hb ho HB7
      go_wp2_with fail
      refine (kgood_any A20 ll c20 list most w20 HLL.out (by omega) HR20.out HOL.out).mono ?_
      rintro e w21 ⟨⟨bv, rfl, hbv⟩, hb⟩
      have HB21 := Lib.hid (keep1 HB20.out hb)
      replace HRL7 := Lib.hid (HRL7.out.below hb)
      clear hb HR20 HB20
      go_wp2_with fail
      refine (kload_any Alist ll clist list most w21 HM.out.1 HM.out.2 HLL.out (by omega) HRL7.out HOL.out).mono ?_
      rintro e w22 ⟨hld, hb⟩
      have HB22 := Lib.hid (keep1 HB21.out hb)
      replace HRL7 := Lib.hid (HRL7.out.below hb)
      clear hb HB21
      rcases hld with ⟨hy, o2, S2, rfl, hS2, _⟩ | ⟨hno, rfl⟩
      · obtain rfl : bv = true := hbv.2 hy
        have HS2 := Lib.hid hS2
        clear hbv hy hS2
        go_wp2_with fail
        refine (klumps_any o2 S2 most _ list w22 HS2.out.r (by have := HLL.out; omega)).mono ?_
        rintro e w23 ⟨A23, c23, rfl, ho, hb⟩
        rw [HLL.out]
        have HR23 := Lib.hid ho.rd
        have HB23 := Lib.hid (keep1 HB22.out hb)
        replace HRL7 := Lib.hid (HRL7.out.below hb)
        clear hb ho HB22 HS2
        go_wp2_with fail
        refine (plain_any A23 ll c23 list w23 HLL.out (by omega) HR23.out).mono ?_
        rintro e w24 ⟨A24, c24, rfl, ho, hb⟩
        rw [HLL.out]
        have HR24 := Lib.hid ho.rd
        have HB24 := Lib.hid (keep1 HB23.out hb)
        replace HRL7 := Lib.hid (HRL7.out.below hb)
        clear hb ho HB23 HR23
        go_wp2_with fail
        refine (plain_any Alist ll clist list w24 HLL.out (by omega) HRL7.out).mono ?_
        rintro e w25 ⟨A25, c25, rfl, ho, hb⟩
        rw [HLL.out]
        have HR25 := Lib.hid ho.rd
        replace HR24 := Lib.hid (HR24.out.below hb)
        have HB25 := Lib.hid (keep1 HB24.out hb)
        clear hb ho HB24 HRL7
        go_wp2_with fail
        refine (ksame_any A24 A25 ll c24 ll c25 list list w25 HLL.out HLL.out (by omega) (by omega) HR24.out HR25.out).mono ?_
        rintro e w26 ⟨rfl, hb⟩
        rw [decide_eq_true rfl]
        have HB26 := Lib.hid (keep1 HB25.out hb)
        clear hb HB25 HR24 HR25
        go_wp2
        go_ret
        exact ⟨rfl, HB26.out⟩
      · obtain rfl : bv = false := by
          cases bv with
          | true => exact absurd (hbv.1 rfl) hno
          | false => rfl
        clear hbv hno HRL7
        go_wp2
        go_ret
        exact ⟨rfl, HB22.out⟩
end Go.Proofs.Ytbmnebpjjghkpaa

