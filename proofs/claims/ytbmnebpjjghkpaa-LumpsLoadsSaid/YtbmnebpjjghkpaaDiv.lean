/- math/bits.Div64: every number divided. -/
import Derived.Test.YtbmnebpjjghkpaaProg
import Derived.Test.YtbmnebpjjghkpaaShelf
import Derived.Test.YtbmnebpjjghkpaaBase
import Derived.Test.YtbmnebpjjghkpaaDivM
import Derived.Deep.DeepCutAuto
namespace Go.Proofs.Ytbmnebpjjghkpaa
open Go.RowKit

theorem div64_zero (lo y : Int) (w : World) (h1 : 0 ≤ lo) (h2 : lo < 18446744073709551616) (h3 : 0 < y) (h4 : y < 18446744073709551616) :
    Calls Try.prog 67 #[.int .u64 0, .int .u64 lo, .int .u64 y] w fun e w' => e = .returned (.tuple #[.int .u64 (lo / y), .int .u64 (lo % y)]) ∧ Below w.heap.size w w' := by
  have hq : 0 ≤ lo / y := Int.ediv_nonneg h1 (by omega)
  have hq2 : lo / y < 18446744073709551616 := by
    have := Int.ediv_le_self y h1
    omega
  have hr : 0 ≤ lo % y := Int.emod_nonneg _ (by omega)
  have hr2 : lo % y < 18446744073709551616 := by
    have := Int.emod_lt_of_pos lo h3
    omega
  go_enter Try.func67, Try.ntmps67
  go_wp2
  go_quiet (fail)
  go_wp2
  go_ret2
  exact ⟨rfl, (Below.refl _ _).drewN _⟩

theorem lz64_any (x : Int) (w : World) (h0 : 0 ≤ x) (h1 : x < 18446744073709551616) :
    Calls Try.prog 69 #[.int .u64 x] w fun e w' => e = .returned (.int .i64 (64 - (Lib.bitLen x.toNat : Int))) ∧ w = w' :=
  (Try.bits_LeadingZeros64 x w h0 (by omega)).mono fun _ _ h => ⟨h.1, h.2.symm⟩

set_option maxHeartbeats 1000000 in
theorem div64_big (hi lo y : Int) (w : World) (h1 : 0 ≤ lo) (h2 : lo < 18446744073709551616) (h3 : 0 < hi) (h5 : hi < y) (h4 : y < 18446744073709551616) :
    Calls Try.prog 67 #[.int .u64 hi, .int .u64 lo, .int .u64 y] w fun e w' => e = .returned (.tuple #[.int .u64 ((hi * 18446744073709551616 + lo) / y), .int .u64 ((hi * 18446744073709551616 + lo) % y)]) ∧ Below w.heap.size w w' := by
  obtain ⟨s, v, u, z, P, hs0, hs1, hs, hv, hv1, hv2, hu, hu1, hu2, hz, hz1, hz2, hUV, hvP, hP0, hP⟩ := DivM.norm hi lo y h1 h2 h3 h5 h4
  obtain ⟨y1, hy1, hy11, hy12⟩ : ∃ y1 : Int, v / 4294967296 = y1 ∧ 2147483648 ≤ y1 ∧ y1 < 4294967296 := ⟨_, rfl, by omega, by omega⟩
  obtain ⟨y0, hy0, hy01, hy02, HVY⟩ : ∃ y0 : Int, bits .and .u64 v 4294967295 = y0 ∧ 0 ≤ y0 ∧ y0 < 4294967296 ∧ Hid (v = y1 * 4294967296 + y0) := ⟨v % 4294967296, DivM.mask v (by omega) hv2, by omega, by omega, by show _ = _; omega⟩
  obtain ⟨d1, hd1, hd11, hd12⟩ : ∃ d1 : Int, z / 4294967296 = d1 ∧ 0 ≤ d1 ∧ d1 < 4294967296 := ⟨_, rfl, by omega, by omega⟩
  obtain ⟨d0, hd0, hd01, hd02, HZD⟩ : ∃ d0 : Int, bits .and .u64 z 4294967295 = d0 ∧ 0 ≤ d0 ∧ d0 < 4294967296 ∧ Hid (z = d1 * 4294967296 + d0) := ⟨z % 4294967296, DivM.mask z (by omega) hz2, by omega, by omega, by show _ = _; omega⟩
  obtain ⟨T, hT⟩ : ∃ T : Int, (u * 4294967296 + d1) / v = T := ⟨_, rfl⟩
  have HT := Lib.hid hT
  have HS := Lib.hid hs
  have HUV := Lib.hid hUV
  have HVP := Lib.hid hvP
  have HP := Lib.hid hP
  clear hs hUV hvP hP hT
  go_enter Try.func67, Try.ntmps67
  go_upto_block 0 with (go_at_call 69; refine (lz64_any _ _ (by omega) (by omega)).mono ?_; rintro e w' ⟨rfl, rfl⟩; rw [← HS.out])
  go_cut [15, 16] (fun a b wc => a = .int .u64 T ∧ w = wc)
  case first =>
    have hTv : T * v ≤ u * 4294967296 + d1 := by rw [← HT.out]; exact Int.ediv_mul_le _ (by omega)
    have g1 := DivM.start_ge y1 y0 u d1 v T HVY.out hy11 hy01 hd12 hu1 hTv
    have g2 := DivM.start_le y1 y0 u v HVY.out hy11 hy02 hu1 hu2
    have g3 := DivM.start_r y1 u (by omega)
    have g4 : 0 ≤ T := by rw [← HT.out]; exact Int.ediv_nonneg (by omega) (by omega)
    clear hTv
    obtain ⟨q, hq⟩ : ∃ q : Int, u / y1 = q := ⟨_, rfl⟩
    rw [hq] at g1 g2 g3
    obtain ⟨r, hr⟩ : ∃ r : Int, u - q * y1 = r := ⟨_, rfl⟩
    have b1 : 0 ≤ q * y1 := Int.mul_nonneg (by omega) (by omega)
    have b2 : q * y1 < 18446744073709551616 := by omega
    rw [hr] at g3
    have HR : Hid (u = q * y1 + r) := by show u = _; omega
    go_wp2
    go_loop [15, 16] (fun a b => ∃ q r : Int, a = .int .u64 q ∧ b = .int .u64 r ∧ T ≤ q ∧ q ≤ 4294967297 ∧ 0 ≤ r ∧ r < 4294967296 ∧ Hid (u = q * y1 + r)) (fun a _ => (intOf a).toNat)
    case atStart =>
      refine ⟨q, r, by rw [hq], ?_, by omega, by omega, by omega, by omega, HR⟩
      rw [hq, DivM.wrap_u64_of b1 b2, DivM.wrap_u64_of (by omega) (by omega), hr]
    case round =>
      clear hq hr b1 b2 g1 g2 g3 HR
      obtain ⟨q', r', rfl, rfl, g1, g2, g3, g3', HR⟩ := hrel
      have ht := DivM.test_iff q' r' y1 y0 u d1 HR.out
      rw [← HVY.out] at ht
      have HG : Hid (u * 4294967296 + d1 < q' * v → T ≤ q' - 1) := fun h => by rw [← HT.out]; exact DivM.ge_of_lt _ _ _ (by omega) h
      have HL : Hid (q' * v ≤ u * 4294967296 + d1 → q' = T) := fun h => by rw [← HT.out]; exact DivM.digit_eq _ _ _ (by omega) (by rw [HT.out]; exact g1) h
      have HSt : ∀ k : Int, k = r' + y1 → Hid (u = (q' - 1) * y1 + k) := fun k hk => by show u = _; have := HR.out; rw [Int.sub_mul]; omega
      have HB : Hid (T ≤ 4294967295) := DivM.true_lt y1 y0 u d1 v T HVY.out hu2 hd12 (by omega) HT.out
      have b1 : 0 ≤ q' * y0 := Int.mul_nonneg (by omega) (by omega)
      have BQ : Hid (q' ≤ 4294967296 → q' * y0 ≤ 4294967296 * 4294967295) := fun h => by
        have := DivM.mul_le q' 4294967296 y0 h hy01
        show _ ≤ _; omega
      have HK : Hid (q' ≤ 4294967297 → T ≤ q' - 1 → 4294967296 ≤ r' + y1 → q' - 1 = T) := fun k1 k2 k3 =>
        DivM.brk _ _ y1 y0 u d1 v T HVY.out hy11 hy01 hy02 hd11 (HSt _ rfl).out k3 k2 (by omega) HT.out
      by_cases hbig : 4294967296 ≤ q'
      · have hk : T ≤ q' - 1 := by have := HB.out; omega
        by_cases hrr : 4294967296 ≤ r' + y1
        · go_wp2
          go_meet
          exact ⟨by rw [HK.out g2 hk hrr], rfl⟩
        · go_wp2
          go_round
          case rel => exact ⟨q' - 1, r' + y1, rfl, rfl, hk, by omega, by omega, by omega, HSt _ rfl⟩
          case measure => simp [intOf]; omega
      · have b2 : q' * y0 < 18446744073709551616 := by have := BQ.out (by omega); omega
        by_cases hgo : r' * 4294967296 + d1 < q' * y0
        · have hk := HG.out (ht.1 hgo)
          have hg2 : 4294967296 * r' + d1 < q' * y0 := by omega
          by_cases hrr : 4294967296 ≤ r' + y1
          · go_wp2
            go_meet
            exact ⟨by rw [HK.out g2 hk hrr], rfl⟩
          · go_wp2
            go_round
            case rel => exact ⟨q' - 1, r' + y1, rfl, rfl, hk, by omega, by omega, by omega, HSt _ rfl⟩
            case measure => simp [intOf]; omega
        · have hk := HL.out (by have := fun h => hgo (ht.2 h); omega)
          have HK2 := Lib.hid hk
          clear hk
          have hg2 : ¬ 4294967296 * r' + d1 < q' * y0 := by omega
          go_wp2
          go_meet
          exact ⟨by rw [HK2.out], rfl⟩
  case rest =>
    obtain ⟨rfl, rfl⟩ := hcut
    have g4 : 0 ≤ T := by rw [← HT.out]; exact Int.ediv_nonneg (by omega) (by omega)
    have g5 : T ≤ 4294967295 := DivM.true_lt y1 y0 u d1 v T HVY.out hu2 hd12 (by omega) HT.out
    obtain ⟨X, hX, HXT, hX0, hX1⟩ : ∃ X : Int, u * 4294967296 + d1 - T * v = X ∧ Hid (u * 4294967296 + d1 = T * v + X) ∧ 0 ≤ X ∧ X < v := by
      have k1 : T * v ≤ u * 4294967296 + d1 := by rw [← HT.out]; exact Int.ediv_mul_le _ (by omega)
      have k2 : u * 4294967296 + d1 < (T + 1) * v := by rw [← HT.out]; exact Int.lt_ediv_add_one_mul_self _ (by omega)
      rw [Int.add_mul] at k2
      exact ⟨_, rfl, by show _ = _; omega, by omega, by omega⟩
    obtain ⟨A1, hA1, a11, a12⟩ : ∃ A1 : Int, IntKind.u64.wrap (u * 4294967296) = A1 ∧ 0 ≤ A1 ∧ A1 < 18446744073709551616 := ⟨_, rfl, by rw [IntKind.wrap_u64]; omega, by rw [IntKind.wrap_u64]; omega⟩
    obtain ⟨A2, hA2, a21, a22⟩ : ∃ A2 : Int, IntKind.u64.wrap (A1 + d1) = A2 ∧ 0 ≤ A2 ∧ A2 < 18446744073709551616 := ⟨_, rfl, by rw [IntKind.wrap_u64]; omega, by rw [IntKind.wrap_u64]; omega⟩
    obtain ⟨A3, hA3, a31, a32⟩ : ∃ A3 : Int, IntKind.u64.wrap (T * v) = A3 ∧ 0 ≤ A3 ∧ A3 < 18446744073709551616 := ⟨_, rfl, by rw [IntKind.wrap_u64]; omega, by rw [IntKind.wrap_u64]; omega⟩
    have hA4 : IntKind.u64.wrap (A2 - A3) = X := by
      have := HXT.out
      rw [IntKind.wrap_u64] at *
      omega
    clear hX
    go_upto_block 2 with fail
    obtain ⟨S0, hS0⟩ : ∃ S0 : Int, (X * 4294967296 + d0) / v = S0 := ⟨_, rfl⟩
    have HS0 := Lib.hid hS0
    clear hS0
    go_cut [16, 18] (fun b a wc => a = .int .u64 S0 ∧ w = wc)
    case first =>
      have hTv : S0 * v ≤ X * 4294967296 + d0 := by rw [← HS0.out]; exact Int.ediv_mul_le _ (by omega)
      have g1 := DivM.start_ge y1 y0 X d0 v S0 HVY.out hy11 hy01 hd02 hX0 hTv
      have g2 := DivM.start_le y1 y0 X v HVY.out hy11 hy02 hX0 hX1
      have g3 := DivM.start_r y1 X (by omega)
      have g4 : 0 ≤ S0 := by rw [← HS0.out]; exact Int.ediv_nonneg (by omega) (by omega)
      clear hTv
      obtain ⟨q, hq⟩ : ∃ q : Int, X / y1 = q := ⟨_, rfl⟩
      rw [hq] at g1 g2 g3
      obtain ⟨r, hr⟩ : ∃ r : Int, X - q * y1 = r := ⟨_, rfl⟩
      have b1 : 0 ≤ q * y1 := Int.mul_nonneg (by omega) (by omega)
      have b2 : q * y1 < 18446744073709551616 := by omega
      rw [hr] at g3
      have HR : Hid (X = q * y1 + r) := by show X = _; omega
      go_wp2
      go_loop [16, 18] (fun b a => ∃ q r : Int, a = .int .u64 q ∧ b = .int .u64 r ∧ S0 ≤ q ∧ q ≤ 4294967297 ∧ 0 ≤ r ∧ r < 4294967296 ∧ Hid (X = q * y1 + r)) (fun _ a => (intOf a).toNat)
      case atStart =>
        refine ⟨q, r, by rw [hq], ?_, by omega, by omega, by omega, by omega, HR⟩
        rw [hq, DivM.wrap_u64_of b1 b2, DivM.wrap_u64_of (by omega) (by omega), hr]
      case round =>
        clear hq hr b1 b2 g1 g2 g3 HR
        obtain ⟨q', r', rfl, rfl, g1, g2, g3, g3', HR⟩ := hrel
        have ht := DivM.test_iff q' r' y1 y0 X d0 HR.out
        rw [← HVY.out] at ht
        have HG : Hid (X * 4294967296 + d0 < q' * v → S0 ≤ q' - 1) := fun h => by rw [← HS0.out]; exact DivM.ge_of_lt _ _ _ (by omega) h
        have HL : Hid (q' * v ≤ X * 4294967296 + d0 → q' = S0) := fun h => by rw [← HS0.out]; exact DivM.digit_eq _ _ _ (by omega) (by rw [HS0.out]; exact g1) h
        have HSt : ∀ k : Int, k = r' + y1 → Hid (X = (q' - 1) * y1 + k) := fun k hk => by show X = _; have := HR.out; rw [Int.sub_mul]; omega
        have HB : Hid (S0 ≤ 4294967295) := DivM.true_lt y1 y0 X d0 v S0 HVY.out hX1 hd02 (by omega) HS0.out
        have b1 : 0 ≤ q' * y0 := Int.mul_nonneg (by omega) (by omega)
        have BQ : Hid (q' ≤ 4294967296 → q' * y0 ≤ 4294967296 * 4294967295) := fun h => by
          have := DivM.mul_le q' 4294967296 y0 h hy01
          show _ ≤ _; omega
        have HK : Hid (q' ≤ 4294967297 → S0 ≤ q' - 1 → 4294967296 ≤ r' + y1 → q' - 1 = S0) := fun k1 k2 k3 =>
          DivM.brk _ _ y1 y0 X d0 v S0 HVY.out hy11 hy01 hy02 hd01 (HSt _ rfl).out k3 k2 (by omega) HS0.out
        by_cases hbig : 4294967296 ≤ q'
        · have hk : S0 ≤ q' - 1 := by have := HB.out; omega
          by_cases hrr : 4294967296 ≤ r' + y1
          · go_wp2
            go_meet
            exact ⟨by rw [HK.out g2 hk hrr], rfl⟩
          · go_wp2
            go_round
            case rel => exact ⟨q' - 1, r' + y1, rfl, rfl, hk, by omega, by omega, by omega, HSt _ rfl⟩
            case measure => simp [intOf]; omega
        · have b2 : q' * y0 < 18446744073709551616 := by have := BQ.out (by omega); omega
          by_cases hgo : r' * 4294967296 + d0 < q' * y0
          · have hk := HG.out (ht.1 hgo)
            have hg2 : 4294967296 * r' + d0 < q' * y0 := by omega
            by_cases hrr : 4294967296 ≤ r' + y1
            · go_wp2
              go_meet
              exact ⟨by rw [HK.out g2 hk hrr], rfl⟩
            · go_wp2
              go_round
              case rel => exact ⟨q' - 1, r' + y1, rfl, rfl, hk, by omega, by omega, by omega, HSt _ rfl⟩
              case measure => simp [intOf]; omega
          · have hk := HL.out (by have := fun h => hgo (ht.2 h); omega)
            have HK2 := Lib.hid hk
            clear hk
            have hg2 : ¬ 4294967296 * r' + d0 < q' * y0 := by omega
            go_wp2
            go_meet
            exact ⟨by rw [HK2.out], rfl⟩
    case rest =>
      obtain ⟨rfl, rfl⟩ := hcut
      have g6 : 0 ≤ S0 := by rw [← HS0.out]; exact Int.ediv_nonneg (by omega) (by omega)
      have g7 : S0 ≤ 4294967295 := DivM.true_lt y1 y0 X d0 v S0 HVY.out hX1 hd02 (by omega) HS0.out
      obtain ⟨Y, hY, HYT, hY0, hY1⟩ : ∃ Y : Int, X * 4294967296 + d0 - S0 * v = Y ∧ Hid (X * 4294967296 + d0 = S0 * v + Y) ∧ 0 ≤ Y ∧ Y < v := by
        have k1 : S0 * v ≤ X * 4294967296 + d0 := by rw [← HS0.out]; exact Int.ediv_mul_le _ (by omega)
        have k2 : X * 4294967296 + d0 < (S0 + 1) * v := by rw [← HS0.out]; exact Int.lt_ediv_add_one_mul_self _ (by omega)
        rw [Int.add_mul] at k2
        exact ⟨_, rfl, by show _ = _; omega, by omega, by omega⟩
      clear hY
      obtain ⟨k1, k2⟩ := DivM.join u z d1 d0 v T X S0 Y HZD.out HXT.out HYT.out hY0 hY1
      have hfin := DivM.shift_back (hi * 18446744073709551616 + lo) y P v (u * 18446744073709551616 + z) _ Y HUV.out HVP.out HP.out k1 k2
      have HF := Lib.hid hfin
      clear k1 k2 hfin
      obtain ⟨C1, hC1, c11, c12⟩ : ∃ A1 : Int, IntKind.u64.wrap (X * 4294967296) = A1 ∧ 0 ≤ A1 ∧ A1 < 18446744073709551616 := ⟨_, rfl, by rw [IntKind.wrap_u64]; omega, by rw [IntKind.wrap_u64]; omega⟩
      obtain ⟨C2, hC2, c21, c22⟩ : ∃ A2 : Int, IntKind.u64.wrap (C1 + d0) = A2 ∧ 0 ≤ A2 ∧ A2 < 18446744073709551616 := ⟨_, rfl, by rw [IntKind.wrap_u64]; omega, by rw [IntKind.wrap_u64]; omega⟩
      obtain ⟨C3, hC3, c31, c32⟩ : ∃ A3 : Int, IntKind.u64.wrap (S0 * v) = A3 ∧ 0 ≤ A3 ∧ A3 < 18446744073709551616 := ⟨_, rfl, by rw [IntKind.wrap_u64]; omega, by rw [IntKind.wrap_u64]; omega⟩
      have hC4 : IntKind.u64.wrap (C2 - C3) = Y := by
        have := HYT.out
        rw [IntKind.wrap_u64] at *
        omega
      go_wp2
      go_ret2
      rw [HF.out.1, HF.out.2]
      exact ⟨rfl, Below.refl _ _⟩

theorem div64_any (hi lo y : Int) (w : World) (h0 : 0 ≤ hi) (h1 : 0 ≤ lo) (h2 : lo < 18446744073709551616) (h5 : hi < y) (h4 : y < 18446744073709551616) :
    Calls Try.prog 67 #[.int .u64 hi, .int .u64 lo, .int .u64 y] w fun e w' => e = .returned (.tuple #[.int .u64 ((hi * 18446744073709551616 + lo) / y), .int .u64 ((hi * 18446744073709551616 + lo) % y)]) ∧ Below w.heap.size w w' := by
  rcases Int.lt_or_le 0 hi with h | h
  · exact div64_big hi lo y w h1 h2 h h5 h4
  · obtain rfl : hi = 0 := by omega
    simpa using div64_zero lo y w h1 h2 (by omega) h4
#print axioms div64_any
end Go.Proofs.Ytbmnebpjjghkpaa

