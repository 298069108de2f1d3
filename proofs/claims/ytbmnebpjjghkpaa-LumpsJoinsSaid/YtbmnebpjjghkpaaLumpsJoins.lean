/- The walk of the statement LumpsJoins. -/
import Derived.Test.YtbmnebpjjghkpaaProg
import Derived.Test.YtbmnebpjjghkpaaOpen
import Derived.Test.YtbmnebpjjghkpaaTold22
import Derived.Test.YtbmnebpjjghkpaaHeld
import Derived.Test.YtbmnebpjjghkpaaFar
import Derived.Test.YtbmnebpjjghkpaaValRow
namespace Go.Proofs.Ytbmnebpjjghkpaa
open Go.RowKit

set_option maxRecDepth 100000 in
set_option maxHeartbeats 4000000 in
theorem lumpsJoins_walk (w : World) (most : Int) (bdmost : -9223372036854775808 ≤ most ∧ most ≤ 9223372036854775807) (Aa : Option Addr) (ca : Nat) (a : List (Int × Int)) (ra : Rd w Aa (a.flatMap fun x => [.int .i64 x.1, .int .u64 x.2])) (bda : ∀ x ∈ a, (-9223372036854775808 ≤ x.1 ∧ x.1 ≤ 9223372036854775807) ∧ (0 ≤ x.2 ∧ x.2 < 18446744073709551616)) (la : a.length ≤ 9223372036854775807) (Ab : Option Addr) (cb : Nat) (b : List (Int × Int)) (rb : Rd w Ab (b.flatMap fun x => [.int .i64 x.1, .int .u64 x.2])) (bdb : ∀ x ∈ b, (-9223372036854775808 ≤ x.1 ∧ x.1 ≤ 9223372036854775807) ∧ (0 ≤ x.2 ∧ x.2 < 18446744073709551616)) (lb : b.length ≤ 9223372036854775807) (x : Int) (bdx : -9223372036854775808 ≤ x ∧ x ≤ 9223372036854775807) :
    Calls Try.prog 5 #[.int .i64 most, .slice Aa a.length ca, .slice Ab b.length cb, .int .i64 x] w fun e w' => e = .returned (.bool true) ∧ Below w.heap.size w w' := by
  have HR : Hid (RdP w Aa a) := ra
  have HO : Hid (okP a) := bda
  have HRB : Hid (RdP w Ab b) := rb
  have HOB : Hid (okP b) := bdb
  clear ra bda rb bdb bdmost bdx
  obtain ⟨la', hla⟩ : ∃ len, a.length = len := ⟨_, rfl⟩
  have HLA := Lib.hid hla
  rw [hla] at la ⊢
  obtain ⟨lb', hlb⟩ : ∃ len, b.length = len := ⟨_, rfl⟩
  have HLB := Lib.hid hlb
  rw [hlb] at lb ⊢
  clear hla hlb
  go_enter Try.func5, Try.ntmps5
  go_wp2_with fail
  refine (alive_any _).mono ?_
  rintro e w1 ⟨rfl, hb1⟩
  go_wp2_with fail
  refine (build_any Aa la' ca a most w1 HLA.out la (HR.out.below hb1) HO.out).mono ?_
  rintro e w2 (⟨hn, rfl, hb⟩ | ⟨hP, s, m, S, T, rfl, hB⟩)
  · have hb2 := keep1 hb1 hb
    clear hn hb
    go_wp2_with fail
    refine (build_any Ab lb' cb b most w2 HLB.out lb (HRB.out.below hb2) HOB.out).mono ?_
    rintro e w3 (⟨hn, rfl, hb⟩ | ⟨hP, s, m, S, T, rfl, hB⟩)
    · have HB3 := Lib.hid (keep1 hb2 hb)
      clear hb2 hn hb hb1
      go_wp2
      go_ret
      exact ⟨rfl, HB3.out⟩
    · have HB3 := Lib.hid (keep1 hb2 (Two.below hB))
      clear hb2 hP hB hb1
      go_wp2
      go_ret
      exact ⟨rfl, HB3.out⟩
  · have HP := Lib.hid hP
    have HB1 := Lib.hid hb1
    have H2 := Lib.hid hB
    have hb2 := keep1 hb1 (Two.below hB)
    clear hP hb1 hB
    go_wp2_with fail
    refine (build_any Ab lb' cb b most w2 HLB.out lb (HRB.out.below hb2) HOB.out).mono ?_
    rintro e w3 (⟨hn, rfl, hb⟩ | ⟨hP, o, u, So, To, rfl, hB⟩)
    · have HB3 := Lib.hid (keep1 hb2 hb)
      clear hb2 hn hb H2
      go_wp2
      go_ret
      exact ⟨rfl, HB3.out⟩
    · have HPB := Lib.hid hP
      have H3 := Lib.hid hB
      have HZ2 : Hid (w1.heap.size ≤ w2.heap.size) := Two.size H2.out
      have HM := Lib.hid HP.out.m
      have HPL := Lib.hid (And.intro HP.out.pl HPB.out.pl)
      have HTD := Lib.hid (And.intro HP.out.told HPB.out.told)
      have HNN := Lib.hid (And.intro HP.out.sum HPB.out.sum)
      have HLL := Lib.hid (And.intro HP.out.len HPB.out.len)
      have HPOS : Hid (∀ x ∈ a ++ b, 0 < x.2) := fun x hx => by
        rcases List.mem_append.1 hx with h | h
        · exact (HP.out.c x h).1
        · exact (HPB.out.c x h).1
      have HALL : Hid (la' + lb' ≤ 120 ∧ la' ≤ 60 ∧ lb' ≤ 60) := by have := HP.out.n; have := HPB.out.n; have := HLA.out; have := HLB.out; exact ⟨by omega, by omega, by omega⟩
      obtain ⟨ls, hls⟩ : ∃ L, playL most a = L := ⟨_, rfl⟩
      obtain ⟨os, hos⟩ : ∃ L, playL most b = L := ⟨_, rfl⟩
      rw [hls] at H2 HPL HTD HLL
      rw [hos] at H3 HPL HTD HLL
      clear hls hos hP hB hb2 HP HPB
      have HOK := Lib.hid (laidAll_ok HPL.out.1.gd HPL.out.2.gd (HPL.out.1.rg HO.out) (HPL.out.2.rg HOB.out))
      have HSUM : Hid (sumN ls + sumN os ≤ 9223372036854775807) := by have h1 := HPL.out.1.sm; have h2 := HPL.out.2.sm; have := HNN.out; show _ ≤ _; omega
      have HAP : Hid (Apart S So ∧ Apart S To ∧ Apart T So ∧ Apart T To) := ⟨fun j hj hn => by have := (Two.ws H2.out j hj).2; have := (Two.ws H3.out j hn).1; omega, fun j hj hn => by have := (Two.ws H2.out j hj).2; have := (Two.wt H3.out j hn).1; omega, fun j hj hn => by have := (Two.wt H2.out j hj).2; have := (Two.ws H3.out j hn).1; omega, fun j hj hn => by have := (Two.wt H2.out j hj).2; have := (Two.wt H3.out j hn).1; omega⟩
      go_wp2_with fail
      refine (kjoin_any s o S So most ls os w3 ((Two.x H2.out).below (Two.below H3.out)) (Two.x H3.out) HM.out.1 (by have := HLL.out; omega) (by have := HLL.out; omega) HSUM.out).mono ?_
      rintro e w4 ⟨rfl, S', hg4, hS4, hF4⟩
      have HS4 := Lib.hid hS4
      have HD4 : Hid (DocK w4 m T most ls) := ((Two.y H2.out).below (Two.below H3.out)).frame hF4 (Two.ap H2.out).symm
      have HO4 : Hid (Sk w4 o So most os) := (Two.x H3.out).frame hF4 HAP.out.1.symm
      have HU4 : Hid (DocK w4 u To most os) := (Two.y H3.out).frame hF4 HAP.out.2.1.symm
      have HB4 : Hid (Below w1.heap.size w1 w4) := (hF4.below' ((Two.below H2.out).trans ((Two.below H3.out).mono HZ2.out)) (Nat.le_trans HZ2.out (Two.size H3.out)) ((Two.ws H2.out).mono (Two.size H3.out)))
      have HZ4 : Hid (w1.heap.size ≤ w4.heap.size ∧ w3.heap.size ≤ w4.heap.size) := ⟨Nat.le_trans (Nat.le_trans HZ2.out (Two.size H3.out)) hF4.size, hF4.size⟩
      have HAP4 : Hid (Apart S' T) := (Two.ap H2.out).grown hg4 ((Two.wt H2.out).mono (Two.size H3.out))
      have HWT : Hid (Within T w1.heap.size w4.heap.size) := ((Two.wt H2.out).mono (Nat.le_trans (Two.size H3.out) hF4.size))
      clear hg4 hS4 hF4 H2 H3
      go_wp2_with fail
      refine (dkjoin_any m u T To most most ls os w4 HD4.out HU4.out HAP.out.2.2.2 HPL.out.1.gd HPL.out.2.gd (HPL.out.1.rg HO.out) (HPL.out.2.rg HOB.out) HM.out.1 (by have := HLL.out; omega) (by have := HLL.out; omega) HSUM.out).mono ?_
      rintro e w5 ⟨rfl, T', hg5, hD5, hF5⟩
      have HS5 := Lib.hid (HS4.out.frame hF5 HAP4.out)
      have HD5 := Lib.hid hD5
      have HO5 := Lib.hid (HO4.out.frame hF5 HAP.out.2.2.1.symm)
      have HU5 := Lib.hid (HU4.out.frame hF5 HAP.out.2.2.2.symm)
      have HB5 : Hid (Below w.heap.size w w5) := keep1 HB1.out (hF5.below' HB4.out HZ4.out.1 HWT.out)
      clear hg5 hD5 hF5 HS4 HD4 HO4 HU4 HB4 HZ4 HAP4 HWT HAP HZ2 HB1
      have HEN := Lib.hid ((HTD.out.1.1.join HTD.out.2.1).press HOK.out.1 (most := most) (by have := HM.out; omega))
      have HRK := Lib.hid ((HTD.out.1.2.join HTD.out.2.2).press HOK.out.1 (most := most) (by have := HM.out; omega))
      have HKL : Hid (((press most (laidAll ls os)).length : Int) ≤ 64) := by have := (press_ok (most := most) (by have := HM.out; omega) HOK.out.1).2.2; have := HM.out; show _ ≤ _; omega
      obtain ⟨ks, hks⟩ : ∃ L, press most (laidAll ls os) = L := ⟨_, rfl⟩
      rw [hks] at HS5 HD5 HEN HRK HKL
      have HVS : Hid (sumP (a ++ b) ≤ 9223372036854775807) := by
        show _ ≤ _
        unfold sumP
        rw [List.map_append, List.sum_append]
        have := HNN.out
        unfold sumP at this
        omega
      have HLAB : Hid ((a ++ b).length = la' + lb') := by show _ = _; rw [List.length_append, HLA.out, HLB.out]
      clear hks HOK HSUM HPL HTD HNN
      have la60 : la' ≤ 60 := HALL.out.2.1
      have lb60 : lb' ≤ 60 := HALL.out.2.2
      have HOE := Lib.hid (OwnV.empty w5 w5.heap.size (Nat.le_refl _))
      have hbe : Below w5.heap.size w5 (w5.alloc (.cells #[] 46)) := (Below.refl _ _).alloc (Nat.le_refl _) _
      have HBE := Lib.hid hbe
      have HRA2 := Lib.hid (RdP.below (HR.out.below HB5.out) hbe)
      have HRB5 := Lib.hid (RdP.below HRB.out HB5.out)
      clear hbe
      go_wp2_with (first | (at_builtin; refine wpList_append_vals rfl _ _ rfl w5.heap.size (some ⟨w5.heap.size, 0, none⟩) 0 0 [] rfl rfl HOE.out Aa la' ca a rfl HLA.out HRA2.out (by omega) w5 HBE.out (by simp) ?_; intro A1 cap1 W1 HO1 hB1; simp only [Nat.zero_add]) | (at_builtin; refine wpList_append_vals rfl _ _ rfl w5.heap.size A1 cap1 la' ([] ++ a) rfl HLA.out HO1.out Ab lb' cb b rfl HLB.out (RdP.below HRB5.out hB1) (by omega) w5 hB1 hB1.size ?_; intro A2 cap2 W2 HO2 hB2) | fail)
      have HRC : Hid (RdP W2 A2 (a ++ b)) := HO2.out.rd
      have HF6 := Lib.hid (And.intro (HS5.out.below hB2) (And.intro (HD5.out.below hB2) (And.intro (HO5.out.below hB2) (And.intro (HU5.out.below hB2) (keep1 HB5.out hB2)))))
      clear hB2 HO2 hB1 HO1 HOE HBE HRA2 HRB5 HS5 HD5 HO5 HU5 HB5
      refine (krank_any s S' most ks x W2 HF6.out.1 (by have := HKL.out; omega)).mono ?_
      rintro e w7 ⟨rfl, hb⟩
      have HF7 := Lib.hid (And.intro (HF6.out.1.below hb) (And.intro (HF6.out.2.1.below hb) (And.intro (HF6.out.2.2.1.below hb) (And.intro (HF6.out.2.2.2.1.below hb) (keep1 HF6.out.2.2.2.2 hb)))))
      replace HRC := Lib.hid (HRC.out.below hb)
      clear hb HF6
      go_wp2_with fail
      refine (up_any A2 (la' + lb') cap2 (a ++ b) x w7 HLAB.out (by omega) HRC.out HPOS.out HVS.out).mono ?_
      rintro e w8 ⟨rfl, hb⟩
      have HF8 := Lib.hid (And.intro (HF7.out.1.below hb) (And.intro (HF7.out.2.1.below hb) (And.intro (HF7.out.2.2.1.below hb) (And.intro (HF7.out.2.2.2.1.below hb) (keep1 HF7.out.2.2.2.2 hb)))))
      replace HRC := Lib.hid (HRC.out.below hb)
      clear hb HF7
      have hd1 : decide (rankLo ks x ≤ upV (a ++ b) x) = true := decide_eq_true (HRK.out.lo x)
      have hd2 : decide (upV (a ++ b) x ≤ rankHi ks x) = true := decide_eq_true (HRK.out.hi x)
      obtain ⟨rl, hrl⟩ : ∃ q, rankLo ks x = q := ⟨_, rfl⟩
      obtain ⟨rh, hrh⟩ : ∃ q, rankHi ks x = q := ⟨_, rfl⟩
      obtain ⟨uv, huv⟩ : ∃ q, upV (a ++ b) x = q := ⟨_, rfl⟩
      simp only [hrl, hrh, huv] at hd1 hd2 ⊢
      have HD12 := Lib.hid (And.intro hd1 hd2)
      clear hrl hrh huv hd1 hd2
      go_wp2_with fail
      refine (kends_told s S' most ks (a ++ b) w8 HF8.out.1 (by have := HKL.out; omega) HEN.out).mono ?_
      rintro e w9 ⟨rfl, hb⟩
      have HF9 := Lib.hid (And.intro (HF8.out.1.below hb) (And.intro (HF8.out.2.1.below hb) (And.intro (HF8.out.2.2.1.below hb) (And.intro (HF8.out.2.2.2.1.below hb) (keep1 HF8.out.2.2.2.2 hb)))))
      replace HRC := Lib.hid (HRC.out.below hb)
      clear hb HF8
      go_wp2_with fail
      refine (vends_told A2 (la' + lb') cap2 (a ++ b) w9 HLAB.out (by omega) HRC.out).mono ?_
      rintro e w10 ⟨rfl, hb⟩
      have HF10 := Lib.hid (And.intro (HF9.out.1.below hb) (And.intro (HF9.out.2.1.below hb) (And.intro (HF9.out.2.2.1.below hb) (And.intro (HF9.out.2.2.2.1.below hb) (keep1 HF9.out.2.2.2.2 hb)))))
      clear hb HF9 HRC
      obtain ⟨el, hel⟩ : ∃ q, eLow (a ++ b) = q := ⟨_, rfl⟩
      obtain ⟨eh, heh⟩ : ∃ q, eHigh (a ++ b) = q := ⟨_, rfl⟩
      obtain ⟨ei, hei⟩ : ∃ q, eIs (a ++ b) = q := ⟨_, rfl⟩
      simp only [hel, heh, hei]
      clear hel heh hei
      have hbd : Below w10.heap.size w10 w10.drew := (Below.refl _ _).drew
      obtain ⟨A3, c3, d1, hrd1, _⟩ := docK_at (HF10.out.2.1.below hbd)
      obtain ⟨A4, c4, d2, hrd2, _⟩ := docK_at (HF10.out.2.2.2.1.below hbd)
      have HR1 := Lib.hid hrd1
      have HR2 := Lib.hid hrd2
      have HF11 := Lib.hid (And.intro (HF10.out.1.below hbd) (And.intro (HF10.out.2.2.1.below hbd) (keep1 HF10.out.2.2.2.2 hbd)))
      obtain ⟨kn, hkn⟩ : ∃ n, ks.length = n := ⟨_, rfl⟩
      obtain ⟨on, hon⟩ : ∃ n, os.length = n := ⟨_, rfl⟩
      have HKN := Lib.hid hkn
      have HON := Lib.hid hon
      have HKLE : Hid (kn ≤ 64 ∧ on ≤ 64) := by have := HKL.out; have := HLL.out; exact ⟨by omega, by omega⟩
      rw [hkn] at d1
      rw [hon] at d2
      clear hrd1 hrd2 hkn hon HF10 hbd
      go_wp2
      obtain ⟨W4, hW4⟩ : ∃ W, w10.drew = W := ⟨_, rfl⟩
      rw [hW4] at d1 d2 HR1 HR2 HF11
      haveI : Nonempty (Held fun w' => At w' m #[.int .i64 most, .slice A3 kn c3] 37 ∧ At w' u #[.int .i64 most, .slice A4 on c4] 37) := ⟨⟨W4, d1, d2⟩⟩
      have hfar1 := fun z : Held fun w' => At w' m #[.int .i64 most, .slice A3 kn c3] 37 ∧ At w' u #[.int .i64 most, .slice A4 on c4] 37 => z.held.1.two
      have hfar2 := fun z : Held fun w' => At w' m #[.int .i64 most, .slice A3 kn c3] 37 ∧ At w' u #[.int .i64 most, .slice A4 on c4] 37 => z.held.2.two
      refine wp_region_noPanic ?_
      refine wp_region_held_drew (S := HeldS fun w' => At w' m #[.int .i64 most, .slice A3 kn c3] 37 ∧ At w' u #[.int .i64 most, .slice A4 on c4] 37) (by kernel_rfl) (HeldS.mk' (hW4 ▸ ⟨d1, d2⟩)) (fun hHeld => ?_)
      rw [hW4] at hHeld ⊢
      clear hW4
      refine wpAnyH_run0 [true, false, false, true, true, true, true] 34 (by kernel_rfl) (by kernel_rfl) (fun _ _ _ _ h => h) (by kernel_rfl) hHeld ?_
      simp only [runOps_true, runOps_false, runOps_nil]
      repeat (first | go_big_quiet_skip | (go_big_quiet_want; go_big_quiet_op; go_big_quiet_on))
      refine wpQuiet_nil ?_
      refine wpAnyH_ready (rs := [1]) (by kernel_rfl) (by simp) ?_
      refine AllReadyH.cons rfl (fun K hK => ?_) AllReadyH.nil
      go_simp
      go_wp2_with (go_at_call 12; refine (klumps_any s S' most _ ks W4 HF11.out.1.r (by have := HKL.out; omega)).mono ?_; rintro e w11 ⟨A5, c5, rfl, ho, hb⟩; rw [HKN.out])
      refine hK.out _ _ ?_ (fun hHeld => ?_)
      clear hK K
      · exact HeldS.mk' ⟨d1.below hb, d2.below hb⟩
      replace d1 := d1.below hb
      replace d2 := d2.below hb
      replace HR1 := Lib.hid (HR1.out.below hb)
      replace HR2 := Lib.hid (HR2.out.below hb)
      replace HF11 := Lib.hid (And.intro (HF11.out.1.below hb) (And.intro (HF11.out.2.1.below hb) (keep1 HF11.out.2.2 hb)))
      have HR5 := Lib.hid ho.rd
      clear hb ho
      refine wpAnyH_ready (rs := [2]) (by kernel_rfl) (by simp) ?_
      refine AllReadyH.cons rfl (fun K hK => ?_) AllReadyH.nil
      go_simp
      go_wp2_with (go_at_call 14; refine (plain_any A5 kn c5 ks w11 HKN.out (by have := HKLE.out; omega) HR5.out).mono ?_; rintro e w12 ⟨A6, c6, rfl, ho, hb⟩; rw [HKN.out])
      refine hK.out _ _ ?_ (fun hHeld => ?_)
      clear hK K
      · exact HeldS.mk' ⟨d1.below hb, d2.below hb⟩
      replace d1 := d1.below hb
      replace d2 := d2.below hb
      replace HR1 := Lib.hid (HR1.out.below hb)
      replace HR2 := Lib.hid (HR2.out.below hb)
      replace HF11 := Lib.hid (And.intro (HF11.out.1.below hb) (And.intro (HF11.out.2.1.below hb) (keep1 HF11.out.2.2 hb)))
      have HR6 := Lib.hid ho.rd
      clear hb ho HR5
      refine wpAnyH_ready (rs := [7]) (by kernel_rfl) (by simp) ?_
      refine AllReadyH.cons rfl (fun K hK => ?_) AllReadyH.nil
      go_simp
      go_wp2_with (go_at_call 13; refine (ksame_any A6 A3 kn c6 kn c3 ks ks w12 HKN.out HKN.out (by have := HKLE.out; omega) (by have := HKLE.out; omega) HR6.out HR1.out).mono ?_; rintro e w13 ⟨rfl, hb⟩; rw [decide_eq_true rfl])
      refine hK.out _ _ ?_ (fun hHeld => ?_)
      clear hK K
      · exact HeldS.mk' ⟨d1.below hb, d2.below hb⟩
      replace d1 := d1.below hb
      replace d2 := d2.below hb
      replace HR2 := Lib.hid (HR2.out.below hb)
      replace HF11 := Lib.hid (And.intro (HF11.out.1.below hb) (And.intro (HF11.out.2.1.below hb) (keep1 HF11.out.2.2 hb)))
      clear hb HR6 HR1
      refine wpAnyH_run0 [false, false, false, false, false, false, false, false, true, true, false, false, true, true, true, true] 25 (by kernel_rfl) (by kernel_rfl) (fun _ _ _ _ h => h) (by kernel_rfl) hHeld ?_
      simp only [runOps_true, runOps_false, runOps_nil]
      repeat (first | go_big_quiet_skip | (go_big_quiet_want; go_big_quiet_op; go_big_quiet_on))
      refine wpQuiet_nil ?_
      refine wpAnyH_ready (rs := [10]) (by kernel_rfl) (by simp) ?_
      refine AllReadyH.cons rfl (fun K hK => ?_) AllReadyH.nil
      go_simp
      go_wp2_with (go_at_call 12; refine (klumps_any o So most _ os w13 HF11.out.2.1.r (by have := HLL.out; omega)).mono ?_; rintro e w14 ⟨A7, c7, rfl, ho, hb⟩; rw [HON.out])
      refine hK.out _ _ ?_ (fun hHeld => ?_)
      clear hK K
      · exact HeldS.mk' ⟨d1.below hb, d2.below hb⟩
      replace d1 := d1.below hb
      replace d2 := d2.below hb
      replace HR2 := Lib.hid (HR2.out.below hb)
      replace HF11 := Lib.hid (And.intro (HF11.out.1.below hb) (And.intro (HF11.out.2.1.below hb) (keep1 HF11.out.2.2 hb)))
      have HR7 := Lib.hid ho.rd
      clear hb ho
      refine wpAnyH_ready (rs := [11]) (by kernel_rfl) (by simp) ?_
      refine AllReadyH.cons rfl (fun K hK => ?_) AllReadyH.nil
      go_simp
      go_wp2_with (go_at_call 14; refine (plain_any A7 on c7 os w14 HON.out (by have := HKLE.out; omega) HR7.out).mono ?_; rintro e w15 ⟨A8, c8, rfl, ho, hb⟩; rw [HON.out])
      refine hK.out _ _ ?_ (fun hHeld => ?_)
      clear hK K
      · exact HeldS.mk' ⟨d1.below hb, d2.below hb⟩
      replace d1 := d1.below hb
      replace d2 := d2.below hb
      replace HR2 := Lib.hid (HR2.out.below hb)
      replace HF11 := Lib.hid (And.intro (HF11.out.1.below hb) (And.intro (HF11.out.2.1.below hb) (keep1 HF11.out.2.2 hb)))
      have HR8 := Lib.hid ho.rd
      clear hb ho HR7
      refine wpAnyH_ready (rs := [16]) (by kernel_rfl) (by simp) ?_
      refine AllReadyH.cons rfl (fun K hK => ?_) AllReadyH.nil
      go_simp
      go_wp2_with (go_at_call 13; refine (ksame_any A8 A4 on c8 on c4 os os w15 HON.out HON.out (by have := HKLE.out; omega) (by have := HKLE.out; omega) HR8.out HR2.out).mono ?_; rintro e w16 ⟨rfl, hb⟩; rw [decide_eq_true rfl])
      refine hK.out _ _ ?_ (fun hHeld => ?_)
      clear hK K
      · exact HeldS.mk' ⟨d1.below hb, d2.below hb⟩
      replace HF11 := Lib.hid (keep1 HF11.out.2.2 hb)
      clear hb HR8 HR2 d1 d2
      have hd1 := HD12.out.1
      have hd2 := HD12.out.2
      refine wpAnyH_run0 [false, false, false, false, false, false, false, false, false, false, false, false, false, false, false, false, false, true, true, true, true, true, true, true, true, true, true, true, true, true, true, true, true, true, true, true, true, true, true] 0 (by kernel_rfl) (by kernel_rfl) (fun _ _ _ _ h => h) (by kernel_rfl) hHeld ?_
      simp only [runOps_true, runOps_false, runOps_nil]
      repeat (first | go_big_quiet_skip | (go_big_quiet_want; go_big_quiet_op; go_big_quiet_on))
      refine wpQuiet_nil ?_
      refine wpAnyH_done (by kernel_rfl) ?_ _
      refine NoPanic.normal ?_
      clear hfar1 hfar2 hHeld hd1 hd2
      go_wp2
      go_ret
      exact ⟨rfl, HF11.out⟩
end Go.Proofs.Ytbmnebpjjghkpaa

