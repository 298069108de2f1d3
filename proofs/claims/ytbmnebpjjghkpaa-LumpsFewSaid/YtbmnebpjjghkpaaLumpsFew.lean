/- The walk of the statement LumpsFew. -/
import Derived.Test.YtbmnebpjjghkpaaProg
import Derived.Test.YtbmnebpjjghkpaaOpen
import Derived.Test.YtbmnebpjjghkpaaTold22
import Derived.Test.YtbmnebpjjghkpaaHeld
import Derived.Test.YtbmnebpjjghkpaaFar
namespace Go.Proofs.Ytbmnebpjjghkpaa
open Go.RowKit

theorem two_pair {B : Nat} {w w2 w3 : World} {S T So To : List Nat} {X Y X' Y' X2 : Prop} (h : Two B w w2 S T X Y) (k : Two w2.heap.size w2 w3 So To X' Y') (hX : X → X2) : Two B w w3 S So X2 X' :=
  ⟨hX h.x, k.x, h.ws.mono k.size, fun j hj => ⟨Nat.le_trans h.size (k.ws j hj).1, (k.ws j hj).2⟩, fun j hj hn => by have := (h.ws j hj).2; have := (k.ws j hn).1; omega, h.below.trans (k.below.mono h.size), Nat.le_trans h.size k.size⟩

set_option maxRecDepth 100000 in
set_option maxHeartbeats 4000000 in
theorem lumpsFew_walk (w : World) (most : Int) (bdmost : -9223372036854775808 ≤ most ∧ most ≤ 9223372036854775807) (Aa : Option Addr) (ca : Nat) (a : List (Int × Int)) (ra : Rd w Aa (a.flatMap fun x => [.int .i64 x.1, .int .u64 x.2])) (bda : ∀ x ∈ a, (-9223372036854775808 ≤ x.1 ∧ x.1 ≤ 9223372036854775807) ∧ (0 ≤ x.2 ∧ x.2 < 18446744073709551616)) (la : a.length ≤ 9223372036854775807) (Ab : Option Addr) (cb : Nat) (b : List (Int × Int)) (rb : Rd w Ab (b.flatMap fun x => [.int .i64 x.1, .int .u64 x.2])) (bdb : ∀ x ∈ b, (-9223372036854775808 ≤ x.1 ∧ x.1 ≤ 9223372036854775807) ∧ (0 ≤ x.2 ∧ x.2 < 18446744073709551616)) (lb : b.length ≤ 9223372036854775807) :
    Calls Try.prog 4 #[.int .i64 most, .slice Aa a.length ca, .slice Ab b.length cb] w fun e w' => e = .returned (.bool true) ∧ Below w.heap.size w w' := by
  have HR : Hid (RdP w Aa a) := ra
  have HO : Hid (okP a) := bda
  have HRB : Hid (RdP w Ab b) := rb
  have HOB : Hid (okP b) := bdb
  clear ra bda rb bdb bdmost
  obtain ⟨la', hla⟩ : ∃ len, a.length = len := ⟨_, rfl⟩
  have HLA := Lib.hid hla
  rw [hla] at la ⊢
  obtain ⟨lb', hlb⟩ : ∃ len, b.length = len := ⟨_, rfl⟩
  have HLB := Lib.hid hlb
  rw [hlb] at lb ⊢
  clear hla hlb
  go_enter Try.func4, Try.ntmps4
  go_wp2_with fail
  refine (alive_any _).mono ?_
  rintro e w1 ⟨rfl, hb1⟩
  go_wp2_with fail
  refine (build_any none 0 0 [] most w1 rfl (by omega) (RdP.nil _ _) (fun x hx => by simp at hx)).mono ?_
  rintro e w2 (⟨hn, rfl, hb⟩ | ⟨hP, s, m, S, T, rfl, hB⟩)
  · have hb2 := keep1 hb1 hb
    clear hn hb
    go_wp2_with fail
    refine (build_any Ab lb' cb b most w2 HLB.out lb (HRB.out.below hb2) HOB.out).mono ?_
    rintro e w3 (⟨hn, rfl, hb⟩ | ⟨hP, s, m, S, T, rfl, hB⟩)
    · have HB3 := Lib.hid (keep1 hb2 hb)
      clear hb2 hn hb hb1
      go_wp2
      go_ret
      exact ⟨rfl, HB3.out⟩
    · have HB3 := Lib.hid (keep1 hb2 (Two.below hB))
      clear hb2 hP hB hb1
      go_wp2
      go_ret
      exact ⟨rfl, HB3.out⟩
  · have HP := Lib.hid hP
    have HB1 := Lib.hid hb1
    have H2 := Lib.hid hB
    have hb2 := keep1 hb1 (Two.below hB)
    clear hP hb1 hB
    go_wp2_with fail
    refine (build_any Ab lb' cb b most w2 HLB.out lb (HRB.out.below hb2) HOB.out).mono ?_
    rintro e w3 (⟨hn, rfl, hb⟩ | ⟨hP, o, u, So, To, rfl, hB⟩)
    · have HB3 := Lib.hid (keep1 hb2 hb)
      clear hb2 hn hb H2
      go_wp2
      go_ret
      exact ⟨rfl, HB3.out⟩
    · have HPB := Lib.hid hP
      have HB3 := Lib.hid (keep1 hb2 (Two.below hB))
      by_cases hla60 : (60 : Int) < la'
      · have hd : decide ((60 : Int) < la') = true := decide_eq_true hla60
        clear hb2 hP hB H2
        go_wp2
        go_ret
        exact ⟨rfl, HB3.out⟩
      · have hd : decide ((60 : Int) < la') = false := decide_eq_false hla60
        have hd' : decide (60 < la') = false := decide_eq_false (by omega)
        have HM := Lib.hid HP.out.m
        have H3 : Hid (Two w1.heap.size w1 w3 S So (Sk w3 s S most []) (Sk w3 o So most (playL most b))) := two_pair H2.out hB (fun k => k.below (Two.below hB))
        have hPL := HPB.out.pl
        have HOS := Lib.hid (And.intro HPB.out.len (And.intro (hPL.sm) (And.intro HPB.out.sum hPL.ln)))
        obtain ⟨os, hos⟩ : ∃ L, playL most b = L := ⟨_, rfl⟩
        rw [hos] at H3 HOS
        have la60 : la' ≤ 60 := by omega
        have HRW := Lib.hid (fun W (hb : Below w1.heap.size w1 W) => (HR.out.below HB1.out).below hb)
        obtain ⟨B1, hB1⟩ : ∃ B, w1.heap.size = B := ⟨_, rfl⟩
        have HBE := Lib.hid hB1
        rw [hB1] at H3 HRW
        clear hb2 hP hB H2 hPL hos hla60 hB1 HB3
        go_wp2
        clear hd hd'
        go_loopw [13, 14] (fun n i wr => ∃ k : Nat, ∃ t : Int, ∃ S1 ls, k ≤ la' + 1 ∧ i = .int .i64 k ∧ n = .int .u64 t ∧ Hid (Two B1 w1 wr S1 So (Sk wr s S1 most ls) (Sk wr o So most os)) ∧ Hid (t = sumN ls ∧ (ls.length : Int) ≤ most ∧ (k ≤ la' → sumN ls ≤ k * 1125899906842624))) (fun _ i _ => la' + 1 - (intOf i).toNat)
        case atStart => exact ⟨0, 0, S, [], by omega, rfl, rfl, H3, ⟨rfl, by have := HM.out; show (0 : Int) ≤ most; omega, fun _ => by rw [sumN_nil]; omega⟩⟩
        case round =>
          obtain ⟨k, t, S1, ls, hk, rfl, rfl, H, HF⟩ := hrel
          clear H3
          by_cases hke : k = la' + 1
          · subst hke
            have hd : decide (((la' + 1 : Nat) : Int) ≤ la') = false := decide_eq_false (by omega)
            have HFB := Lib.hid (Two.below H.out)
            go_wp2_with fail
            refine (kmost_any s S1 most _ ls wr H.out.x.r).mono ?_
            rintro e w5 ⟨rfl, rfl⟩
            clear H hd
            go_wp2
            go_ret
            exact ⟨rfl, keep1 HB1.out (show Below w1.heap.size w1 wr by rw [HBE.out]; exact HFB.out)⟩
          · have hkl : k ≤ la' := by omega
            have hd : decide ((k : Int) ≤ la') = true := decide_eq_true (by omega)
            have HS0 := Lib.hid (And.intro H.out.x.sum0 H.out.y.sum0)
            by_cases hkla : k = la'
            · subst hkla
              go_wp2_with fail
              refine (ktotal_any o So most _ os wr H.out.y.r).mono ?_
              rintro e w5 ⟨rfl, rfl⟩
              have hsn : sumN os = sumP b := HOS.out.2.1
              have hw : IntKind.u64.wrap (t + sumN os) = t + sumN os := by have := HF.out; have := HOS.out; have := HS0.out; simp only [IntKind.wrap_u64]; omega
              clear hsn
              go_wp2_with fail
              refine (kjoin_any s o S1 So most ls os wr H.out.x H.out.y HM.out.1 (by have := HF.out; have := HM.out; omega) (by have := HOS.out; omega) (by have := HF.out; have := HOS.out; omega)).mono ?_
              rintro e w6 ⟨rfl, S2, hg, hS, hFr⟩
              have hok := laidAll_ok H.out.x.gd H.out.y.gd H.out.x.ok.rng H.out.y.ok.rng
              have hpk := press_ok (most := most) (by have := HM.out; omega) hok.1
              have H6 := Lib.hid (Two.stepX H.out hg hS hS.lt hFr (H.out.y.frame hFr H.out.ap.symm))
              have HE6 : Hid (t + sumN os = sumN (press most (laidAll ls os)) ∧ ((press most (laidAll ls os)).length : Int) ≤ most ∧ (k + 1 ≤ k → sumN (press most (laidAll ls os)) ≤ ((k + 1 : Nat) : Int) * 1125899906842624)) := ⟨by rw [hpk.2.1, hok.2.2.1, HF.out.1], hpk.2.2, fun h => by omega⟩
              obtain ⟨ks, hks⟩ : ∃ L, press most (laidAll ls os) = L := ⟨_, rfl⟩
              rw [hks] at H6 HE6
              obtain ⟨t2, ht2⟩ : ∃ t2, t + sumN os = t2 := ⟨_, rfl⟩
              rw [ht2] at HE6
              simp only [ht2]
              clear hg hS hFr hok hpk hks ht2 hw hd
              have HKL : Hid ((ks.length : Int) ≤ 64) := by have := HE6.out; have := HM.out; show _ ≤ _; omega
              go_wp2_with fail
              refine (klumps_any s S2 most _ ks w6 H6.out.x.r (by have := HKL.out; omega)).mono ?_
              rintro e wa ⟨A9, c9, rfl, ho, hb⟩
              have H7 := Lib.hid (Two.belowW H6.out hb (fun k => k.below hb) (fun k => k.below hb))
              have HR9 := Lib.hid ho.rd
              obtain ⟨nn, hnn⟩ : ∃ n, ks.length = n := ⟨_, rfl⟩
              have HNN := Lib.hid hnn
              rw [hnn]
              clear hb ho H6 hnn
              go_wp2_with fail
              refine (plain_any A9 nn c9 ks wa HNN.out (by have := HKL.out; have := HNN.out; omega) HR9.out).mono ?_
              rintro e wb ⟨A10, c10, rfl, ho, hb⟩
              have H8 := Lib.hid (Two.belowW H7.out hb (fun k => k.below hb) (fun k => k.below hb))
              have HR10 := Lib.hid ho.rd
              rw [HNN.out]
              clear hb ho H7 HR9
              go_wp2_with fail
              refine (kgood_any A10 nn c10 ks most wb HNN.out (by have := HKL.out; have := HNN.out; omega) HR10.out H8.out.x.ok).mono ?_
              rintro e wc ⟨⟨bv, rfl, hbv⟩, hb⟩
              obtain rfl : bv = true := hbv.2 ⟨H8.out.x.gd, H8.out.x.sm, HE6.out.2.1⟩
              have H9 := Lib.hid (Two.belowW H8.out hb (fun k => k.below hb) (fun k => k.below hb))
              clear hbv hb H8 HR10
              go_wp2_with fail
              refine (ktotal_any s S2 most _ ks wc H9.out.x.r).mono ?_
              rintro e wd ⟨rfl, rfl⟩
              rw [← HE6.out.1]
              go_wp2
              go_roundw
              case rel => exact ⟨k + 1, t2, S2, ks, by omega, by simp, rfl, H9, HE6⟩
              case measure => simp [intOf] <;> omega
            · have hlt : k < la' := by omega
              have hkd : ((k : Int) == la') = false := beq_eq_false_iff_ne.2 (by omega)
              have hkd' : (k == la') = false := beq_eq_false_iff_ne.2 hkla
              obtain ⟨g, oo, rfl, hg, c1, c2⟩ := (HRW.out wr (Two.below H.out)).at k (by have := HLA.out; omega)
              have HOX := Lib.hid (HO.out.at k (by have := HLA.out; omega))
              obtain ⟨⟨x, y⟩, hx⟩ : ∃ x, a[k]'(by have := HLA.out; omega) = x := ⟨_, rfl⟩
              rw [hx] at c1 c2 HOX
              dsimp only at c1 c2 HOX
              have k1 : (k : Int) < la' := by omega
              have HLEN : Hid ((ls.length : Int) ≤ 64) := by have := HF.out; have := HM.out; show _ ≤ _; omega
              by_cases hy : 0 < y ∧ y ≤ 1125899906842624
              · have hd0 : decide (0 < y) = true := decide_eq_true hy.1
                have hd1 : decide (y ≤ 1125899906842624) = true := decide_eq_true hy.2
                have HY := Lib.hid hy
                have hw : IntKind.u64.wrap (t + y) = t + y := by have h1 := HF.out.1; have h2 := HF.out.2.2 (by omega); have := HS0.out; simp only [IntKind.wrap_u64]; omega
                have HSUM : Hid (sumN ls + y ≤ 9223372036854775807) := by have h2 := HF.out.2.2 (by omega); show _ ≤ _; omega
                have HCL := Lib.hid fun W (hb : Below B1 w1 W) => show W.cell? ⟨g, oo + k * 2, none⟩ = some (.int .i64 x) ∧ W.cell? ⟨g, oo + k * 2 + 1, none⟩ = some (.int .u64 y) by
                  obtain ⟨g', o', e, _, d1, d2⟩ := (HRW.out W hb).at k (by have := HLA.out; omega)
                  cases e
                  rw [hx] at d1 d2
                  exact ⟨d1, d2⟩
                clear hy hke hkla hx
                go_wp2
                have H4 := Lib.hid (Two.belowW H.out (Below.refl _ _).drew (fun k => k.below (Below.refl _ _).drew) (fun k => k.below (Below.refl _ _).drew))
                have hc4 := HCL.out _ (Two.below H4.out)
                obtain ⟨W4, hW4⟩ : ∃ W, wr.drew = W := ⟨_, rfl⟩
                rw [hW4] at H4 hc4
                haveI : Nonempty (Held fun W => W.cell? ⟨g, oo + k * 2, none⟩ = some (.int .i64 x) ∧ W.cell? ⟨g, oo + k * 2 + 1, none⟩ = some (.int .u64 y)) := ⟨⟨W4, hc4⟩⟩
                have hfar := fun z : Held fun W => W.cell? ⟨g, oo + k * 2, none⟩ = some (.int .i64 x) ∧ W.cell? ⟨g, oo + k * 2 + 1, none⟩ = some (.int .u64 y) => z.held
                refine wp_region_noPanic ?_
                refine wp_region_held_drew (S := HeldS fun W => W.cell? ⟨g, oo + k * 2, none⟩ = some (.int .i64 x) ∧ W.cell? ⟨g, oo + k * 2 + 1, none⟩ = some (.int .u64 y)) (by kernel_rfl) (HeldS.mk' (hW4 ▸ hc4)) (fun hHeld => ?_)
                rw [hW4] at hHeld ⊢
                clear hW4 H
                refine wpAnyH_run0 [true, true, true, true, true, true, true, true, true, true, true] 1 (by kernel_rfl) (by kernel_rfl) (fun _ _ _ _ h => h) (by kernel_rfl) hHeld ?_
                simp only [runOps_true, runOps_false, runOps_nil]
                repeat (first | go_big_quiet_skip | (go_big_quiet_want; go_big_quiet_op; go_big_quiet_on))
                refine wpQuiet_nil ?_
                refine wpAnyH_ready (rs := [11]) (by kernel_rfl) (by simp) ?_
                refine AllReadyH.cons rfl (fun K hK => ?_) AllReadyH.nil
                go_simp
                go_wp2_with (go_at_call 15; refine (kput_any s S1 most ls x y W4 H4.out.x HM.out.1 (by have := HLEN.out; omega) HY.out.1 HSUM.out HOX.out.1).mono ?_; rintro e w6 ⟨rfl, S2, hg, hS, hFr⟩; have H6 := Lib.hid (Two.stepX H4.out hg hS hS.lt hFr (H4.out.y.frame hFr H4.out.ap.symm)))
                refine hK.out _ _ ?_ (fun hHeld => ?_)
                clear hK K
                · exact HeldS.mk' (HCL.out _ (Two.below H6.out))
                clear hfar hc4
                refine wpAnyH_done (by kernel_rfl) ?_ _
                refine NoPanic.normal ?_
                have hgl := laid_gd (l := (y, x, x)) H4.out.x.gd HY.out.1 (Int.le_refl _)
                have hpk := press_ok (most := most) (by have := HM.out; omega) hgl
                have HE6 : Hid (t + y = sumN (press most (laid ls (y, x, x))) ∧ ((press most (laid ls (y, x, x))).length : Int) ≤ most ∧ (k + 1 ≤ la' → sumN (press most (laid ls (y, x, x))) ≤ ((k + 1 : Nat) : Int) * 1125899906842624)) := ⟨by rw [hpk.2.1, sumN_laid, HF.out.1], hpk.2.2, fun h => by rw [hpk.2.1, sumN_laid]; have h1 := HF.out.2.2 (by omega); have := HY.out; dsimp only; omega⟩
                obtain ⟨ks, hks⟩ : ∃ L, press most (laid ls (y, x, x)) = L := ⟨_, rfl⟩
                rw [hks] at H6 HE6
                obtain ⟨t2, ht2⟩ : ∃ t2, t + y = t2 := ⟨_, rfl⟩
                rw [ht2] at HE6
                simp only [ht2]
                clear hg hS hFr hpk hgl hks ht2 hw hd hHeld hd0 hd1 k1 H4
                have HKL : Hid ((ks.length : Int) ≤ 64) := by have := HE6.out; have := HM.out; show _ ≤ _; omega
                go_wp2_with fail
                refine (klumps_any s S2 most _ ks w6 H6.out.x.r (by have := HKL.out; omega)).mono ?_
                rintro e wa ⟨A9, c9, rfl, ho, hb⟩
                have H7 := Lib.hid (Two.belowW H6.out hb (fun k => k.below hb) (fun k => k.below hb))
                have HR9 := Lib.hid ho.rd
                obtain ⟨nn, hnn⟩ : ∃ n, ks.length = n := ⟨_, rfl⟩
                have HNN := Lib.hid hnn
                rw [hnn]
                clear hb ho H6 hnn
                go_wp2_with fail
                refine (plain_any A9 nn c9 ks wa HNN.out (by have := HKL.out; have := HNN.out; omega) HR9.out).mono ?_
                rintro e wb ⟨A10, c10, rfl, ho, hb⟩
                have H8 := Lib.hid (Two.belowW H7.out hb (fun k => k.below hb) (fun k => k.below hb))
                have HR10 := Lib.hid ho.rd
                rw [HNN.out]
                clear hb ho H7 HR9
                go_wp2_with fail
                refine (kgood_any A10 nn c10 ks most wb HNN.out (by have := HKL.out; have := HNN.out; omega) HR10.out H8.out.x.ok).mono ?_
                rintro e wc ⟨⟨bv, rfl, hbv⟩, hb⟩
                obtain rfl : bv = true := hbv.2 ⟨H8.out.x.gd, H8.out.x.sm, HE6.out.2.1⟩
                have H9 := Lib.hid (Two.belowW H8.out hb (fun k => k.below hb) (fun k => k.below hb))
                clear hbv hb H8 HR10
                go_wp2_with fail
                refine (ktotal_any s S2 most _ ks wc H9.out.x.r).mono ?_
                rintro e wd ⟨rfl, rfl⟩
                rw [← HE6.out.1]
                go_wp2
                go_roundw
                case rel => exact ⟨k + 1, t2, S2, ks, by omega, by simp, rfl, H9, HE6⟩
                case measure => simp [intOf] <;> omega
              · have HE6 : Hid (t = sumN ls ∧ (ls.length : Int) ≤ most ∧ (k + 1 ≤ la' → sumN ls ≤ ((k + 1 : Nat) : Int) * 1125899906842624)) := ⟨HF.out.1, HF.out.2.1, fun h => by have h1 := HF.out.2.2 (by omega); omega⟩
                clear hke hkla
                by_cases h0 : 0 < y
                · have hd0 : decide (0 < y) = true := decide_eq_true h0
                  have hd1 : decide (y ≤ 1125899906842624) = false := decide_eq_false (by omega)
                  clear h0 hy
                  have H6 := H
                  clear H
                  have HKL : Hid ((ls.length : Int) ≤ 64) := by have := HE6.out; have := HM.out; show _ ≤ _; omega
                  go_wp2_with fail
                  refine (klumps_any s S1 most _ ls wr H6.out.x.r (by have := HKL.out; omega)).mono ?_
                  rintro e wa ⟨A9, c9, rfl, ho, hb⟩
                  have H7 := Lib.hid (Two.belowW H6.out hb (fun k => k.below hb) (fun k => k.below hb))
                  have HR9 := Lib.hid ho.rd
                  obtain ⟨nn, hnn⟩ : ∃ n, ls.length = n := ⟨_, rfl⟩
                  have HNN := Lib.hid hnn
                  rw [hnn]
                  clear hb ho H6 hnn
                  go_wp2_with fail
                  refine (plain_any A9 nn c9 ls wa HNN.out (by have := HKL.out; have := HNN.out; omega) HR9.out).mono ?_
                  rintro e wb ⟨A10, c10, rfl, ho, hb⟩
                  have H8 := Lib.hid (Two.belowW H7.out hb (fun k => k.below hb) (fun k => k.below hb))
                  have HR10 := Lib.hid ho.rd
                  rw [HNN.out]
                  clear hb ho H7 HR9
                  go_wp2_with fail
                  refine (kgood_any A10 nn c10 ls most wb HNN.out (by have := HKL.out; have := HNN.out; omega) HR10.out H8.out.x.ok).mono ?_
                  rintro e wc ⟨⟨bv, rfl, hbv⟩, hb⟩
                  obtain rfl : bv = true := hbv.2 ⟨H8.out.x.gd, H8.out.x.sm, HE6.out.2.1⟩
                  have H9 := Lib.hid (Two.belowW H8.out hb (fun k => k.below hb) (fun k => k.below hb))
                  clear hbv hb H8 HR10
                  go_wp2_with fail
                  refine (ktotal_any s S1 most _ ls wc H9.out.x.r).mono ?_
                  rintro e wd ⟨rfl, rfl⟩
                  rw [← HE6.out.1]
                  go_wp2
                  go_roundw
                  case rel => exact ⟨k + 1, t, S1, ls, by omega, by simp, rfl, H9, HE6⟩
                  case measure => simp [intOf] <;> omega
                · have hd0 : decide (0 < y) = false := decide_eq_false h0
                  clear h0 hy
                  have H6 := H
                  clear H
                  have HKL : Hid ((ls.length : Int) ≤ 64) := by have := HE6.out; have := HM.out; show _ ≤ _; omega
                  go_wp2_with fail
                  refine (klumps_any s S1 most _ ls wr H6.out.x.r (by have := HKL.out; omega)).mono ?_
                  rintro e wa ⟨A9, c9, rfl, ho, hb⟩
                  have H7 := Lib.hid (Two.belowW H6.out hb (fun k => k.below hb) (fun k => k.below hb))
                  have HR9 := Lib.hid ho.rd
                  obtain ⟨nn, hnn⟩ : ∃ n, ls.length = n := ⟨_, rfl⟩
                  have HNN := Lib.hid hnn
                  rw [hnn]
                  clear hb ho H6 hnn
                  go_wp2_with fail
                  refine (plain_any A9 nn c9 ls wa HNN.out (by have := HKL.out; have := HNN.out; omega) HR9.out).mono ?_
                  rintro e wb ⟨A10, c10, rfl, ho, hb⟩
                  have H8 := Lib.hid (Two.belowW H7.out hb (fun k => k.below hb) (fun k => k.below hb))
                  have HR10 := Lib.hid ho.rd
                  rw [HNN.out]
                  clear hb ho H7 HR9
                  go_wp2_with fail
                  refine (kgood_any A10 nn c10 ls most wb HNN.out (by have := HKL.out; have := HNN.out; omega) HR10.out H8.out.x.ok).mono ?_
                  rintro e wc ⟨⟨bv, rfl, hbv⟩, hb⟩
                  obtain rfl : bv = true := hbv.2 ⟨H8.out.x.gd, H8.out.x.sm, HE6.out.2.1⟩
                  have H9 := Lib.hid (Two.belowW H8.out hb (fun k => k.below hb) (fun k => k.below hb))
                  clear hbv hb H8 HR10
                  go_wp2_with fail
                  refine (ktotal_any s S1 most _ ls wc H9.out.x.r).mono ?_
                  rintro e wd ⟨rfl, rfl⟩
                  rw [← HE6.out.1]
                  go_wp2
                  go_roundw
                  case rel => exact ⟨k + 1, t, S1, ls, by omega, by simp, rfl, H9, HE6⟩
                  case measure => simp [intOf] <;> omega
end Go.Proofs.Ytbmnebpjjghkpaa

