/- Contracts of the document's spans: Half, Index, Range. -/
import Derived.Test.YtondkkhagbcadaaGreatProg
import Derived.Test.YtondkkhagbcadaaGreatSpanAll
namespace Go.Proofs.YtondkkhagbcadaaGreat
open Go.RowKit

theorem pow_lt_iff (g : Nat) (ten : Int) (ha : g = 0 ∨ (2 : Int) ^ (g - 1) < ten) (hb : ten ≤ (2 : Int) ^ g) (j : Nat) (hj : j ≤ g) : (((2 ^ j : Nat) : Int) < ten ↔ j < g) := by
  have e : ∀ n : Nat, ((2 ^ n : Nat) : Int) = (2 : Int) ^ n := fun n => by rw [Int.natCast_pow]; rfl
  rw [e]
  constructor
  · intro h
    rcases Nat.lt_or_ge j g with h2 | h2
    · exact h2
    · obtain rfl : j = g := by omega
      omega
  · intro h
    rcases ha with ha | ha
    · omega
    · have : (2 : Int) ^ j ≤ 2 ^ (g - 1) := by
        have a1 : 2 ^ j ≤ 2 ^ (g - 1) := Nat.pow_le_pow_right (by omega) (by omega)
        rw [← e, ← e]
        omega
      omega
theorem ten_facts {d : Int} (h1 : 1 ≤ d) (h4 : d ≤ 4) : (∀ i : Nat, i ≤ d.toNat → 10 ^ i ≤ 10000) ∧ (∀ j : Nat, j ≤ gOf d → (((2 ^ j : Nat) : Int) < ((10 ^ d.toNat : Nat) : Int) ↔ j < gOf d)) := by
  refine ⟨fun i hi => Nat.le_trans (Nat.pow_le_pow_right (by omega) (show i ≤ 4 by omega)) (by decide), ?_⟩
  rcases (by omega : d = 1 ∨ d = 2 ∨ d = 3 ∨ d = 4) with rfl | rfl | rfl | rfl
  · exact pow_lt_iff 4 10 (.inr (by decide)) (by decide)
  · exact pow_lt_iff 7 100 (.inr (by decide)) (by decide)
  · exact pow_lt_iff 10 1000 (.inr (by decide)) (by decide)
  · exact pow_lt_iff 14 10000 (.inr (by decide)) (by decide)
set_option maxHeartbeats 1000000 in
theorem rhalf_any (d : Int) (w : World) (h1 : 1 ≤ d) (h4 : d ≤ 4) :
    Calls Tryz.prog 58 #[.int .i64 d] w fun e w' => e = .returned (.int .u64 ((2 ^ gOf d : Nat) : Int)) ∧ Below w.heap.size w w' := by
  have HT := Lib.hid (ten_facts h1 h4)
  have hg := gOf_le d
  obtain ⟨dn, rfl⟩ : ∃ dn : Nat, d = dn := ⟨d.toNat, by omega⟩
  obtain ⟨g, hgg⟩ : ∃ g, gOf (dn : Int) = g := ⟨_, rfl⟩
  rw [hgg] at HT hg ⊢
  have dn4 : dn ≤ 4 := by omega
  clear h1 h4 hgg
  go_enter Tryz.func58, Tryz.ntmps58
  go_wp2
  go_loopw [3, 4] (fun t i wr => ∃ k z : Nat, k ≤ dn ∧ i = .int .i64 k ∧ t = .int .u64 z ∧ Hid (z = 10 ^ k) ∧ Below w.heap.size w wr) (fun _ i _ => dn - (intOf i).toNat)
  case atStart => exact ⟨0, 1, by omega, rfl, rfl, rfl, Below.refl _ _⟩
  case round =>
    obtain ⟨k, z, hk, rfl, rfl, HZ, hB⟩ := hrel
    by_cases hlt : k < dn
    · have hz : z ≤ 10000 := by rw [HZ.out]; exact HT.out.1 k (by omega)
      have v1 : IntKind.u64.wrap ((z : Int) * 10) = ((z * 10 : Nat) : Int) := by simp only [IntKind.wrap_u64]; omega
      have HN : Hid (z * 10 = 10 ^ (k + 1)) := by show _ = _; rw [Nat.pow_succ, HZ.out]
      go_wp2
      go_roundw
      case rel => exact ⟨k + 1, z * 10, by omega, by simp, by first | rfl | simp, HN, hB⟩
      case measure => simp [intOf]; omega
    · obtain rfl : k = dn := by omega
      have hz : z ≤ 10000 := by rw [HZ.out]; exact HT.out.1 k (by omega)
      have HG : Hid (∀ j : Nat, j ≤ g → (((2 ^ j : Nat) : Int) < (z : Int) ↔ j < g)) := fun j hj => by
        have := HT.out.2 j hj
        rw [show ((k : Int)).toNat = k by omega, ← HZ.out] at this
        exact this
      clear HT HZ hlt
      go_wp2
      go_loopw [5] (fun h wi => ∃ j y : Nat, j ≤ g ∧ h = .int .u64 y ∧ Hid (y = 2 ^ j) ∧ Below w.heap.size w wi) (fun h _ => 16384 - (intOf h).toNat)
      case atStart => exact ⟨0, 1, by omega, rfl, rfl, hB⟩
      case round =>
        obtain ⟨j, y, hj, rfl, HY, hB2⟩ := hrel
        have hy : y ≤ 16384 := by rw [HY.out]; exact pow14 (by omega)
        have hy0 : 0 < y := by rw [HY.out]; exact Nat.pow_pos (by omega)
        by_cases hlt2 : j < g
        · have hd : decide ((y : Int) < z) = true := decide_eq_true (by rw [HY.out]; exact (HG.out j hj).2 hlt2)
          have hd' : decide (y < z) = true := decide_eq_true (by have := of_decide_eq_true hd; omega)
          have v1 : IntKind.u64.wrap (2 * (y : Int)) = ((2 * y : Nat) : Int) := by simp only [IntKind.wrap_u64]; omega
          have HN : Hid (2 * y = 2 ^ (j + 1)) := by show _ = _; rw [two_pow_succ, HY.out]
          have hle : 2 * y ≤ 16384 := by rw [HN.out]; exact pow14 (by omega)
          go_wp2
          go_roundw
          case rel => exact ⟨j + 1, 2 * y, by omega, by first | rfl | simp, HN, hB2⟩
          case measure => simp [intOf]; omega
        · obtain rfl : j = g := by omega
          have hd : decide ((y : Int) < z) = false := decide_eq_false (by rw [HY.out]; exact fun h => hlt2 ((HG.out j hj).1 h))
          have hd' : decide (y < z) = false := decide_eq_false (by have := of_decide_eq_false hd; omega)
          go_wp2
          go_ret
          exact ⟨by rw [← HY.out]; rfl, hB2⟩
theorem geq_iff {g m j : Nat} (hm : 0 < m) : 2 * 2 ^ g ≤ m / 2 ^ j ↔ j < kN g m := by
  rw [← two_pow_succ, Nat.le_div_iff_mul_le (hpos j), ← Nat.pow_add, ← Nat.le_log2 (by omega)]
  unfold kN
  omega
set_option maxHeartbeats 1000000 in
theorem rindex_any (d : Int) (m : Nat) (w : World) (h1 : 1 ≤ d) (h4 : d ≤ 4) (hm : 0 < m) (hm' : m ≤ 9223372036854775808) :
    Calls Tryz.prog 42 #[.int .i64 d, .int .u64 m] w fun e w' => e = .returned (.int .i64 (idxN (gOf d) m : Nat)) ∧ Below w.heap.size w w' := by
  have HH := Lib.hid (rhalf_any d w h1 h4)
  have hg := gOf_le d
  have hk59 : kN (gOf d) m ≤ 59 := by have := log2_le63 hm hm'; have := gOf_ge d; unfold kN; omega
  have HQ := Lib.hid (fun j => geq_iff (g := gOf d) (j := j) hm)
  have HI : Hid (idxN (gOf d) m = kN (gOf d) m * 2 ^ gOf d + m / 2 ^ kN (gOf d) m) := rfl
  have HQL := Lib.hid (qN_lt (g := gOf d) hm)
  obtain ⟨g, hgg⟩ : ∃ g, gOf d = g := ⟨_, rfl⟩
  rw [hgg] at HH HQ HI HQL hg hk59 ⊢
  obtain ⟨H, hHH⟩ : ∃ H, 2 ^ g = H := ⟨_, rfl⟩
  have hH : H ≤ 16384 := by rw [← hHH]; exact pow14 hg
  have hH0 : 0 < H := by rw [← hHH]; exact hpos g
  rw [two_pow_succ] at HQL
  rw [hHH] at HH HI HQL
  simp only [hHH] at HQ
  obtain ⟨kk, hkk⟩ : ∃ k, kN g m = k := ⟨_, rfl⟩
  have HKK := Lib.hid hkk
  rw [hkk] at HI hk59
  simp only [hkk] at HQ
  have HQ2 : Hid (m / 2 ^ kk < 2 * H) := by have := HQL.out; unfold qN at this; rw [hkk] at this; exact this
  rw [HI.out]
  have HM := Lib.hid hm'
  clear hgg hHH hkk h1 h4 HQL HI hm hm'
  go_enter Tryz.func42, Tryz.ntmps42
  go_wp2_with fail
  refine HH.out.mono ?_
  rintro e w1 ⟨rfl, hb1⟩
  clear HH
  go_wp2
  go_loopw [1, 6] (fun mv kv wr => ∃ j z : Nat, j ≤ kk ∧ mv = .int .u64 z ∧ kv = .int .u64 j ∧ Hid (z = m / 2 ^ j) ∧ Below w.heap.size w wr) (fun _ kv _ => kk - (intOf kv).toNat)
  case atStart => exact ⟨0, m, by omega, rfl, rfl, by show m = m / 2 ^ 0; simp, hb1⟩
  case round =>
    obtain ⟨j, z, hj, rfl, rfl, HZ, hB⟩ := hrel
    have hz : z ≤ 9223372036854775808 := by rw [HZ.out]; exact Nat.le_trans (Nat.div_le_self _ _) HM.out
    have hv : IntKind.u64.wrap (2 * (H : Int)) = ((2 * H : Nat) : Int) := by simp only [IntKind.wrap_u64]; omega
    by_cases hlt : j < kk
    · have hge : 2 * H ≤ z := by rw [HZ.out]; exact (HQ.out j).2 hlt
      have hd : decide (((2 * H : Nat) : Int) ≤ z) = true := decide_eq_true (by omega)
      have hd' : decide (2 * H ≤ z) = true := decide_eq_true hge
      have hd'' : decide (2 * (H : Int) ≤ z) = true := decide_eq_true (by omega)
      have v1 : IntKind.u64.wrap ((z : Int).tdiv 2) = ((z / 2 : Nat) : Int) := by rw [Int.tdiv_eq_ediv_of_nonneg (by omega)]; simp only [IntKind.wrap_u64]; omega
      have v2 : IntKind.u64.wrap ((j : Int) + 1) = ((j + 1 : Nat) : Int) := by simp only [IntKind.wrap_u64]; omega
      have HN : Hid (z / 2 = m / 2 ^ (j + 1)) := by show _ = _; rw [HZ.out, Nat.div_div_eq_div_mul, Nat.pow_succ]
      clear HZ HQ hge
      go_wp2
      go_roundw
      case rel => exact ⟨j + 1, z / 2, by omega, by first | rfl | simp, by first | rfl | simp, HN, hB⟩
      case measure => simp [intOf]; omega
    · obtain rfl : j = kk := by omega
      have hge : ¬ 2 * H ≤ z := by have := HQ2.out; rw [HZ.out]; omega
      have hd : decide (((2 * H : Nat) : Int) ≤ z) = false := decide_eq_false (by omega)
      have hd' : decide (2 * H ≤ z) = false := decide_eq_false hge
      have hd'' : decide (2 * (H : Int) ≤ z) = false := decide_eq_false (by omega)
      have hjH : j * H ≤ 59 * 16384 := Nat.mul_le_mul hk59 hH
      have v1 : IntKind.u64.wrap ((j : Int) * H) = ((j * H : Nat) : Int) := by
        have e : (j : Int) * H = ((j * H : Nat) : Int) := by rw [Int.natCast_mul]
        rw [e]; simp only [IntKind.wrap_u64]; omega
      obtain ⟨jH, hjHe⟩ : ∃ y, j * H = y := ⟨_, rfl⟩
      have HJ := Lib.hid hjHe
      rw [hjHe] at v1 hjH
      have v2 : IntKind.u64.wrap ((jH : Int) + z) = ((jH + z : Nat) : Int) := by simp only [IntKind.wrap_u64]; omega
      have v3 : IntKind.i64.wrap ((jH + z : Nat) : Int) = ((jH + z : Nat) : Int) := by simp only [IntKind.wrap_i64]; omega
      have HS3 : Hid (wrap64 ((jH : Int) + z) = (jH : Int) + z) := by show _ = _; unfold wrap64; omega
      clear HQ HQ2 hge hjHe
      go_wp2
      go_ret
      exact ⟨by rw [← HZ.out, HJ.out]; first | rfl | (simp; exact HS3.out), hB⟩
theorem dhi (g m : Nat) (hg : g ≤ 63) (hm : 0 < m) (hm' : m ≤ 9223372036854775808) (hg14 : g ≤ 14) : hiN g m = if loN g m = 9223372036854775808 then 9223372036854775808 else loN g m + 2 ^ kN g m - 1 := by
  have hp := hpos (kN g m)
  rcases Nat.lt_or_ge m 9223372036854775808 with h | h
  · have := cell_top (g := g) hm h
    have h2 := lo_le g m
    rw [if_neg (by omega), hi_below hm h]
    omega
  · obtain rfl : m = 9223372036854775808 := by omega
    rw [lo_top hg, hi_top hg, if_pos rfl]
set_option maxHeartbeats 1000000 in
theorem rrange_any (d : Int) (m : Nat) (w : World) (h1 : 1 ≤ d) (h4 : d ≤ 4) (hm : 0 < m) (hm' : m ≤ 9223372036854775808) :
    Calls Tryz.prog 80 #[.int .i64 d, .int .u64 m] w fun e w' => e = .returned (.tuple #[.int .u64 (loN (gOf d) m : Nat), .int .u64 (hiN (gOf d) m : Nat)]) ∧ Below w.heap.size w w' := by
  have HH := Lib.hid (rhalf_any d w h1 h4)
  have hg := gOf_le d
  have hk59 : kN (gOf d) m ≤ 59 := by have := log2_le63 hm hm'; have := gOf_ge d; unfold kN; omega
  have HQ := Lib.hid (fun j => geq_iff (g := gOf d) (j := j) hm)
  have HLO : Hid (loN (gOf d) m = m / 2 ^ kN (gOf d) m * 2 ^ kN (gOf d) m) := rfl
  have HHI := Lib.hid (dhi (gOf d) m (by omega) hm hm' hg)
  have hle := lo_le (gOf d) m
  obtain ⟨g, hgg⟩ : ∃ g, gOf d = g := ⟨_, rfl⟩
  rw [hgg] at HH HQ HLO HHI hg hk59 hle ⊢
  obtain ⟨H, hHH⟩ : ∃ H, 2 ^ g = H := ⟨_, rfl⟩
  have hH : H ≤ 16384 := by rw [← hHH]; exact pow14 hg
  rw [hHH] at HH
  simp only [hHH] at HQ
  obtain ⟨kk, hkk⟩ : ∃ k, kN g m = k := ⟨_, rfl⟩
  rw [hkk] at HLO HHI hk59
  simp only [hkk] at HQ
  obtain ⟨lo, hlo⟩ : ∃ l, loN g m = l := ⟨_, rfl⟩
  obtain ⟨hi, hhi⟩ : ∃ l, hiN g m = l := ⟨_, rfl⟩
  rw [hlo] at HLO HHI hle ⊢
  rw [hhi] at HHI ⊢
  have HM := Lib.hid hm'
  clear hgg hHH hkk h1 h4 hlo hhi hm
  go_enter Tryz.func80, Tryz.ntmps80
  go_wp2_with fail
  refine HH.out.mono ?_
  rintro e w1 ⟨rfl, hb1⟩
  clear HH
  go_wp2
  go_loopw [7] (fun sv wr => ∃ j s : Nat, j ≤ kk ∧ sv = .int .u64 s ∧ Hid (s = 2 ^ j) ∧ Below w.heap.size w wr) (fun sv _ => 2 ^ 62 - (intOf sv).toNat)
  case atStart => exact ⟨0, 1, by omega, rfl, rfl, hb1⟩
  case round =>
    obtain ⟨j, s, hj, rfl, HS, hB⟩ := hrel
    have hs : s ≤ 2 ^ 59 := by rw [HS.out]; exact Nat.pow_le_pow_right (by omega) (by omega)
    have hs0 : 0 < s := by rw [HS.out]; exact hpos j
    have hne : ((s : Int) == 0) = false := beq_eq_false_iff_ne.2 (by omega)
    have hv : IntKind.u64.wrap (2 * (H : Int)) = ((2 * H : Nat) : Int) := by simp only [IntKind.wrap_u64]; omega
    have hqz : m / s ≤ 9223372036854775808 := Nat.le_trans (Nat.div_le_self _ _) HM.out
    have hq : IntKind.u64.wrap ((m : Int) / s) = ((m / s : Nat) : Int) := by
      rw [← Int.natCast_ediv]; exact wrap_low _ hqz
    by_cases hlt : j < kk
    · have hge : 2 * H ≤ m / s := by rw [HS.out]; exact (HQ.out j).2 hlt
      obtain ⟨z, hz⟩ : ∃ z, m / s = z := ⟨_, rfl⟩
      rw [hz] at hge hq hqz
      have hd : decide (((2 * H : Nat) : Int) ≤ z) = true := decide_eq_true (by omega)
      have hd' : decide (2 * H ≤ z) = true := decide_eq_true hge
      have hd'' : decide (2 * (H : Int) ≤ z) = true := decide_eq_true (by omega)
      have v1 : IntKind.u64.wrap (2 * (s : Int)) = ((2 * s : Nat) : Int) := by simp only [IntKind.wrap_u64]; omega
      have HN : Hid (2 * s = 2 ^ (j + 1)) := by show _ = _; rw [two_pow_succ, HS.out]
      have hs2 : 2 * s ≤ 2 ^ 59 := by rw [HN.out]; exact Nat.pow_le_pow_right (by omega) (by omega)
      clear HQ hge hz hqz
      go_wp2
      go_roundw
      case rel => exact ⟨j + 1, 2 * s, by omega, by first | rfl | simp, HN, hB⟩
      case measure => simp [intOf]; omega
    · obtain rfl : j = kk := by omega
      have hge : ¬ 2 * H ≤ m / s := by rw [HS.out]; exact fun h => hlt ((HQ.out j).1 h)
      have hlos : m / s * s = lo := by rw [HLO.out, HS.out]
      obtain ⟨z, hz⟩ : ∃ z, m / s = z := ⟨_, rfl⟩
      rw [hz] at hge hq hqz hlos
      have hd : decide (((2 * H : Nat) : Int) ≤ z) = false := decide_eq_false (by omega)
      have hd' : decide (2 * H ≤ z) = false := decide_eq_false hge
      have hd'' : decide (2 * (H : Int) ≤ z) = false := decide_eq_false (by omega)
      have hlo9 : lo ≤ 9223372036854775808 := Nat.le_trans hle HM.out
      have v1 : IntKind.u64.wrap ((z : Int) * s) = (lo : Int) := by
        have e : (z : Int) * s = ((z * s : Nat) : Int) := by rw [Int.natCast_mul]
        rw [e, hlos]; simp only [IntKind.wrap_u64]; omega
      rw [← HS.out] at HHI
      clear HQ hge hz hlos HLO HM hle
      by_cases ht : lo = 9223372036854775808
      · have HV : Hid (hi = 9223372036854775808) := by show _ = _; rw [HHI.out, if_pos ht]
        have ht' : ((lo : Int) == 9223372036854775808) = true := by rw [ht]; rfl
        subst ht
        clear HHI
        go_wp2
        go_ret2
        exact ⟨by rw [HV.out]; rfl, hB⟩
      · have HV : Hid (hi = lo + s - 1) := by show _ = _; rw [HHI.out, if_neg ht]
        have ht' : ((lo : Int) == 9223372036854775808) = false := beq_eq_false_iff_ne.2 (by omega)
        have v2 : IntKind.u64.wrap ((lo : Int) + s) = ((lo + s : Nat) : Int) := by simp only [IntKind.wrap_u64]; omega
        have v3 : IntKind.u64.wrap (((lo + s : Nat) : Int) - 1) = ((lo + s - 1 : Nat) : Int) := by simp only [IntKind.wrap_u64]; omega
        clear HHI ht
        go_wp2
        go_ret2
        exact ⟨by rw [HV.out]; first | rfl | (simp; omega), hB⟩
end Go.Proofs.YtondkkhagbcadaaGreat
