/- Long division by digits of 32 bits: one digit's step, in plain numbers. No program in sight. -/
import Derived.WalkKit
import Derived.Lib.BitFns
import Derived.Lib.ItoaNum
namespace Go.Proofs.Ytbmnebpjjghkpaa
namespace DivM

/-- q is at least the true digit; the test of the loop says just that it is greater. -/
theorem test_iff (q r y1 y0 u d : Int) (hu : u = q * y1 + r) :
    (r * 4294967296 + d < q * y0) ↔ (u * 4294967296 + d < q * (y1 * 4294967296 + y0)) := by
  have e : q * (y1 * 4294967296 + y0) = (q * y1) * 4294967296 + q * y0 := by rw [Int.mul_add, Int.mul_assoc]
  rw [e]; omega

theorem mul_lt (a b c : Int) (h : a < b) (hc : 0 < c) : a * c < b * c := Int.mul_lt_mul_of_pos_right h hc
theorem mul_le (a b c : Int) (h : a ≤ b) (hc : 0 ≤ c) : a * c ≤ b * c := Int.mul_le_mul_of_nonneg_right h hc

/-- the first guess isn't too small. -/
theorem start_ge (y1 y0 u d v t : Int) (hv : v = y1 * 4294967296 + y0) (hy1 : 2147483648 ≤ y1) (hy0 : 0 ≤ y0) (hd : d < 4294967296) (hu : 0 ≤ u) (ht : t * v ≤ u * 4294967296 + d) : t ≤ u / y1 := by
  have h1 : u < (u / y1 + 1) * y1 := by
    have := Int.lt_ediv_add_one_mul_self u (show 0 < y1 by omega); exact this
  rcases Int.lt_or_le (u / y1) t with h | h
  · exfalso
    have h2 : (u / y1 + 1) * y1 ≤ t * y1 := mul_le _ _ _ (by omega) (by omega)
    have h3 : t * v = (t * y1) * 4294967296 + t * y0 := by rw [hv, Int.mul_add, Int.mul_assoc]
    have h4 : 0 ≤ u / y1 := Int.ediv_nonneg hu (by omega)
    have h5 : 0 ≤ t * y0 := Int.mul_nonneg (by omega) hy0
    omega
  · exact h

theorem start_le (y1 y0 u v : Int) (hv : v = y1 * 4294967296 + y0) (hy1 : 2147483648 ≤ y1) (hy0 : y0 < 4294967296) (hu0 : 0 ≤ u) (hu : u < v) : u / y1 ≤ 4294967297 := by
  have h1 : u / y1 * y1 ≤ u := Int.ediv_mul_le u (by omega)
  rcases Int.lt_or_le 4294967297 (u / y1) with h | h
  · exfalso
    have h2 : 4294967298 * y1 ≤ u / y1 * y1 := mul_le _ _ _ (by omega) (by omega)
    omega
  · exact h

theorem start_r (y1 u : Int) (hy1 : 0 < y1) : 0 ≤ u - u / y1 * y1 ∧ u - u / y1 * y1 < y1 := by
  have h1 : u / y1 * y1 ≤ u := Int.ediv_mul_le u (by omega)
  have h2 := Int.lt_ediv_add_one_mul_self u hy1
  rw [Int.add_mul] at h2
  omega

/-- q is the true digit, if it isn't less, and isn't greater. -/
theorem digit_eq (q v T : Int) (hv : 0 < v) (h1 : T / v ≤ q) (h2 : q * v ≤ T) : q = T / v := by
  have : q ≤ T / v := Int.le_ediv_of_mul_le hv h2
  omega

theorem true_lt (y1 y0 u d v t : Int) (hv : v = y1 * 4294967296 + y0) (hu : u < v) (hd : d < 4294967296) (hv0 : 0 < v) (ht : (u * 4294967296 + d) / v = t) : t ≤ 4294967295 := by
  have : (u * 4294967296 + d) / v < 4294967296 := Int.ediv_lt_of_lt_mul hv0 (by omega)
  omega

theorem ge_of_lt (q v T : Int) (hv : 0 < v) (h : T < q * v) : T / v ≤ q - 1 := by
  have := Int.ediv_lt_of_lt_mul hv h
  omega


theorem uniq (a b q r : Int) (h : a = q * b + r) (h0 : 0 ≤ r) (h1 : r < b) : a / b = q ∧ a % b = r := by
  have hb : 0 < b := by omega
  have := (Int.ediv_emod_unique (a := a) (r := r) (q := q) hb).2 ⟨by rw [h, Int.mul_comm b q]; omega, h0, h1⟩
  exact this

theorem join (u z d1 d0 v q1 u21 q0 r : Int) (hz : z = d1 * 4294967296 + d0) (h1 : u * 4294967296 + d1 = q1 * v + u21) (h2 : u21 * 4294967296 + d0 = q0 * v + r) (hr0 : 0 ≤ r) (hr1 : r < v) :
    (u * 18446744073709551616 + z) / v = q1 * 4294967296 + q0 ∧ (u * 18446744073709551616 + z) % v = r := by
  refine uniq _ _ _ _ ?_ hr0 hr1
  rw [Int.add_mul, show q1 * 4294967296 * v = (q1 * v) * 4294967296 by rw [Int.mul_assoc, Int.mul_comm 4294967296 v, ← Int.mul_assoc]]
  omega

theorem mask (x : Int) (h0 : 0 ≤ x) (h1 : x < 18446744073709551616) : bits .and .u64 x 4294967295 = x % 4294967296 := by
  obtain ⟨n, rfl⟩ := Int.eq_ofNat_of_zero_le h0
  have := bits_and_u64_nat n 4294967295 (by omega) (by omega)
  rw [show ((4294967295 : Nat) : Int) = 4294967295 from rfl] at this
  rw [this, show n &&& 4294967295 = n % 4294967296 from Nat.and_two_pow_sub_one_eq_mod n 32]
  simp

/-- where the rest has become great the digit is found. -/
theorem brk (q r y1 y0 u d v t : Int) (hv : v = y1 * 4294967296 + y0) (hy1 : 2147483648 ≤ y1) (hy0 : 0 ≤ y0) (hy02 : y0 < 4294967296) (hd : 0 ≤ d) (hu : u = q * y1 + r) (hr : 4294967296 ≤ r) (h1 : t ≤ q) (h2 : q ≤ 4294967296)
    (ht : (u * 4294967296 + d) / v = t) : q = t := by
  have h3 := test_iff q r y1 y0 u d hu
  rw [← hv] at h3
  have h4 := mul_le q 4294967296 y0 h2 hy0
  rw [← ht] at h1
  have h5 := digit_eq q v _ (by omega) h1 (by
    rcases Int.lt_or_le (u * 4294967296 + d) (q * v) with h | h
    · have := h3.2 h; omega
    · exact h)
  rw [h5, ht]

/-- what the shifts make. -/
theorem norm_nat (hi lo y s : Nat) (hs : s ≤ 63) (hlo : lo < 18446744073709551616) (hy : hi < y) (hv : y * 2 ^ s < 18446744073709551616) :
    hi * 2 ^ s < 18446744073709551616 ∧
    ((hi * 2 ^ s) ||| (lo / 2 ^ (64 - s))) * 18446744073709551616 + (lo * 2 ^ s) % 18446744073709551616 = (hi * 18446744073709551616 + lo) * 2 ^ s ∧
    ((hi * 2 ^ s) ||| (lo / 2 ^ (64 - s))) < y * 2 ^ s ∧ lo / 2 ^ (64 - s) < 18446744073709551616 := by
  have hP : 0 < 2 ^ s := Nat.two_pow_pos s
  have hR : 0 < 2 ^ (64 - s) := Nat.two_pow_pos _
  have hPR : 2 ^ s * 2 ^ (64 - s) = 18446744073709551616 := by rw [← Nat.pow_add, show s + (64 - s) = 64 by omega]
  have hq : lo / 2 ^ (64 - s) < 2 ^ s := by rw [Nat.div_lt_iff_lt_mul hR, hPR]; exact hlo
  have hor : (hi * 2 ^ s) ||| (lo / 2 ^ (64 - s)) = hi * 2 ^ s + lo / 2 ^ (64 - s) := by
    rw [Nat.mul_comm]
    exact (Nat.two_pow_add_eq_or_of_lt hq hi).symm
  have hdiv : lo * 2 ^ s / 18446744073709551616 = lo / 2 ^ (64 - s) := by
    rw [← hPR, Nat.mul_comm lo, Nat.mul_div_mul_left _ _ hP]
  have hmod := Nat.div_add_mod (lo * 2 ^ s) 18446744073709551616
  rw [hdiv] at hmod
  have hle : (hi + 1) * 2 ^ s ≤ y * 2 ^ s := Nat.mul_le_mul_right _ hy
  rw [Nat.add_mul, Nat.one_mul] at hle
  have hd2 : lo / 2 ^ (64 - s) ≤ lo := Nat.div_le_self _ _
  have e : (hi * 18446744073709551616 + lo) * 2 ^ s = (hi * 2 ^ s) * 18446744073709551616 + lo * 2 ^ s := by rw [Nat.add_mul, Nat.mul_right_comm]
  rw [hor, e]
  generalize hi * 2 ^ s = A at *
  refine ⟨by omega, by omega, by omega, by omega⟩

theorem shift_back (N y P v U Q Y : Int) (hU : U = N * P) (hv : v = y * P) {s : Int} (hP : P = 2 ^ s.toNat) (hq : U / v = Q) (hr : U % v = Y) : N / y = Q ∧ N % y = Y / 2 ^ s.toNat := by
  have hP0 : 0 < P := by rw [hP]; exact Int.pow_pos (by omega)
  subst hU hv
  rw [Int.mul_ediv_mul_of_pos_left _ _ hP0] at hq
  rw [Int.mul_comm N P, Int.mul_comm y P, Int.mul_emod_mul_of_pos _ _ hP0] at hr
  refine ⟨hq, ?_⟩
  rw [← hr, ← hP, Int.mul_ediv_cancel_left _ (by omega)]

theorem wrap_u64_of {x : Int} (h0 : 0 ≤ x) (h1 : x < 18446744073709551616) : IntKind.u64.wrap x = x := by
  rw [IntKind.wrap_u64]; omega

theorem norm (hi lo y : Int) (h1 : 0 ≤ lo) (h2 : lo < 18446744073709551616) (h3 : 0 < hi) (h5 : hi < y) (h4 : y < 18446744073709551616) :
    ∃ s v u z P : Int, 0 ≤ s ∧ s ≤ 63 ∧ s = 64 - (Lib.bitLen y.toNat : Int) ∧ IntKind.u64.wrap (y * 2 ^ s.toNat) = v ∧ 9223372036854775808 ≤ v ∧ v < 18446744073709551616 ∧
      bits .or .u64 (IntKind.u64.wrap (hi * 2 ^ s.toNat)) (lo / 2 ^ (64 - s).toNat) = u ∧ 0 ≤ u ∧ u < v ∧ IntKind.u64.wrap (lo * 2 ^ s.toNat) = z ∧ 0 ≤ z ∧ z < 18446744073709551616 ∧
      u * 18446744073709551616 + z = (hi * 18446744073709551616 + lo) * P ∧ v = y * P ∧ 0 < P ∧ P = 2 ^ s.toNat := by
  obtain ⟨hi, rfl⟩ := Int.eq_ofNat_of_zero_le (show 0 ≤ hi by omega)
  obtain ⟨lo, rfl⟩ := Int.eq_ofNat_of_zero_le h1
  obtain ⟨y, rfl⟩ := Int.eq_ofNat_of_zero_le (show 0 ≤ y by omega)
  have hb := Lib.bitLenAux_bounds 64 y (by simpa using (show y < 18446744073709551616 by omega)) (by omega)
  have hl : Lib.bitLen y ≤ 64 := Lib.bitLen_le y 64 (by omega) (by simpa using (show y < 18446744073709551616 by omega))
  change 1 ≤ Lib.bitLen y ∧ 2 ^ (Lib.bitLen y - 1) ≤ y ∧ y < 2 ^ Lib.bitLen y at hb
  obtain ⟨hb1, hb2, hb3⟩ := hb
  obtain ⟨s, hs⟩ : ∃ s : Nat, s = 64 - Lib.bitLen y := ⟨_, rfl⟩
  have hvlo : 9223372036854775808 ≤ y * 2 ^ s := by
    have : 2 ^ (Lib.bitLen y - 1) * 2 ^ s ≤ y * 2 ^ s := Nat.mul_le_mul_right _ hb2
    rw [← Nat.pow_add, show Lib.bitLen y - 1 + s = 63 by omega] at this
    exact this
  have hvhi : y * 2 ^ s < 18446744073709551616 := by
    have : y * 2 ^ s < 2 ^ Lib.bitLen y * 2 ^ s := Nat.mul_lt_mul_of_pos_right hb3 (Nat.two_pow_pos _)
    rw [← Nat.pow_add, show Lib.bitLen y + s = 64 by omega] at this
    exact this
  obtain ⟨n1, n2, n3, n4⟩ := norm_nat hi lo y s (by omega) (by omega) (by omega) hvhi
  have ec : ((2 ^ s : Nat) : Int) = 2 ^ s := by simp
  have e1 : (y : Int) * 2 ^ ((s : Int)).toNat = ((y * 2 ^ s : Nat) : Int) := by simp
  have e2 : (hi : Int) * 2 ^ ((s : Int)).toNat = ((hi * 2 ^ s : Nat) : Int) := by simp
  have e3 : (lo : Int) * 2 ^ ((s : Int)).toNat = ((lo * 2 ^ s : Nat) : Int) := by simp
  have e4 : (lo : Int) / 2 ^ (64 - (s : Int)).toNat = ((lo / 2 ^ (64 - s) : Nat) : Int) := by
    rw [show (64 - (s : Int)).toNat = 64 - s by omega]; simp
  refine ⟨s, ((y * 2 ^ s : Nat) : Int), (((hi * 2 ^ s) ||| (lo / 2 ^ (64 - s)) : Nat) : Int), ((lo * 2 ^ s % 18446744073709551616 : Nat) : Int), ((2 ^ s : Nat) : Int), by omega, by omega, by simp; omega, ?_, by omega, by omega, ?_, by omega, by omega, ?_, by omega, by omega, ?_, by simp, by have := Nat.two_pow_pos s; omega, by simp⟩
  · rw [e1]; exact wrap_u64_of (by omega) (by omega)
  · rw [e2, e4, wrap_u64_of (by omega) (by omega), bits_or_u64_nat _ _ n1 n4]
  · rw [e3, IntKind.wrap_u64]; simp
  · have := congrArg (fun n : Nat => (n : Int)) n2
    simpa using this

end DivM
end Go.Proofs.Ytbmnebpjjghkpaa

