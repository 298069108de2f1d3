/- Contracts of package wide's Over, Floor, Ceil. -/
import Derived.Test.YtbmnebpjjghkpaaProg
import Derived.Test.YtbmnebpjjghkpaaBase
import Derived.Test.YtbmnebpjjghkpaaTimes
import Derived.Test.YtbmnebpjjghkpaaDiv
import Derived.Test.YtbmnebpjjghkpaaShelf
namespace Go.Proofs.Ytbmnebpjjghkpaa
open Go.RowKit

/-- What Over answers of the number X by a divisor. -/
def overQ (X y : Int) : Int := if X < y * 18446744073709551616 then X / y else 0
def overR (X y : Int) : Int := if X < y * 18446744073709551616 then X % y else 0
def overOk (X y : Int) : Bool := decide (X < y * 18446744073709551616)

theorem overQ_bd (X y : Int) (h0 : 0 ≤ X) (hy : 0 ≤ y) : 0 ≤ overQ X y ∧ overQ X y < 18446744073709551616 := by
  unfold overQ; split
  · rename_i h
    have : 0 < y := by omega
    exact ⟨Int.ediv_nonneg h0 hy, Int.ediv_lt_of_lt_mul this (by rw [Int.mul_comm]; exact h)⟩
  · omega
theorem overR_bd (X y : Int) (h0 : 0 ≤ X) (hy : 0 ≤ y) (hy2 : y < 18446744073709551616) : 0 ≤ overR X y ∧ overR X y < 18446744073709551616 := by
  unfold overR; split
  · rename_i h
    have : 0 < y := by omega
    have h1 := Int.emod_nonneg X (show y ≠ 0 by omega)
    have h2 := Int.emod_lt_of_pos X this
    omega
  · omega

theorem over_yes (X y : Int) (h : X < y * 18446744073709551616) : overQ X y = X / y ∧ overR X y = X % y ∧ overOk X y = true := ⟨if_pos h, if_pos h, decide_eq_true h⟩
theorem over_no (X y : Int) (h : ¬ X < y * 18446744073709551616) : overQ X y = 0 ∧ overR X y = 0 ∧ overOk X y = false := ⟨if_neg h, if_neg h, decide_eq_false h⟩

theorem over_any (hi lo y : Int) (w : World) (h0 : 0 ≤ hi) (h0' : hi < 18446744073709551616) (h1 : 0 ≤ lo) (h2 : lo < 18446744073709551616) (h3 : 0 ≤ y) (h4 : y < 18446744073709551616) :
    Calls Try.prog 59 #[.agg #[.int .u64 hi, .int .u64 lo], .int .u64 y] w fun e w' =>
      e = .returned (.tuple #[.int .u64 (overQ (hi * 18446744073709551616 + lo) y), .int .u64 (overR (hi * 18446744073709551616 + lo) y), .bool (overOk (hi * 18446744073709551616 + lo) y)]) ∧ Below w.heap.size w w' := by
  unfold overQ overR overOk
  by_cases h : y ≤ hi
  · have hn : ¬ hi * 18446744073709551616 + lo < y * 18446744073709551616 := by omega
    rw [if_neg hn, if_neg hn, decide_eq_false hn]
    clear hn
    go_enter Try.func59, Try.ntmps59
    go_wp2
    go_ret3
    exact ⟨rfl, (Below.refl _ _).alloc (Nat.le_refl _) _⟩
  · have hn : hi * 18446744073709551616 + lo < y * 18446744073709551616 := by omega
    rw [if_pos hn, if_pos hn, decide_eq_true hn]
    clear hn
    go_enter Try.func59, Try.ntmps59
    go_wp2_with fail
    refine (div64_any _ _ _ _ h0 h1 h2 (by omega) h4).mono ?_
    rintro e w1 ⟨rfl, hb⟩
    go_wp2
    go_ret3
    exact ⟨rfl, ((Below.refl _ _).alloc (Nat.le_refl _) _).trans (hb.mono (by simp))⟩


/-- What Ceil answers of the number X by a divisor. -/
def ceilQ (X y : Int) : Int := if X ≤ y * 18446744073709551615 ∧ 0 < y then (X + y - 1) / y else 0
def ceilOk (X y : Int) : Bool := decide (X ≤ y * 18446744073709551615 ∧ 0 < y)

theorem ceil_no (X y : Int) (h3 : 0 ≤ y) (h0 : 0 ≤ X) (h : ¬ X < y * 18446744073709551616) : ceilQ X y = 0 ∧ ceilOk X y = false := by
  have : ¬ (X ≤ y * 18446744073709551615 ∧ 0 < y) := by omega
  unfold ceilQ ceilOk
  exact ⟨if_neg this, decide_eq_false this⟩
theorem ceil_even (X y : Int) (h3 : 0 ≤ y) (h0 : 0 ≤ X) (h : X < y * 18446744073709551616) (hr : X % y = 0) : ceilQ X y = X / y ∧ ceilOk X y = true := by
  have hy : 0 < y := by omega
  have hq : X / y < 18446744073709551616 := Int.ediv_lt_of_lt_mul hy (by rw [Int.mul_comm]; exact h)
  have he := Int.ediv_mul_add_emod X y
  have hm : (X / y) * y ≤ 18446744073709551615 * y := Int.mul_le_mul_of_nonneg_right (by omega) h3
  have hc : X ≤ y * 18446744073709551615 ∧ 0 < y := by omega
  unfold ceilQ ceilOk
  refine ⟨?_, decide_eq_true hc⟩
  rw [if_pos hc]
  have hu : (X + y - 1) / y = X / y ∧ (X + y - 1) % y = y - 1 := by
    refine (Int.ediv_emod_unique hy).2 ⟨?_, by omega, by omega⟩
    rw [Int.mul_comm]; omega
  exact hu.1
theorem ceil_odd (X y : Int) (h3 : 0 ≤ y) (h0 : 0 ≤ X) (h : X < y * 18446744073709551616) (hr : ¬ X % y = 0) :
    (X / y < 18446744073709551615 → ceilQ X y = X / y + 1 ∧ ceilOk X y = true) ∧ (¬ X / y < 18446744073709551615 → ceilQ X y = 0 ∧ ceilOk X y = false) := by
  have hy : 0 < y := by omega
  have hq : X / y < 18446744073709551616 := Int.ediv_lt_of_lt_mul hy (by rw [Int.mul_comm]; exact h)
  have he := Int.ediv_mul_add_emod X y
  have hr1 := Int.emod_nonneg X (show y ≠ 0 by omega)
  have hr2 := Int.emod_lt_of_pos X hy
  refine ⟨fun hl => ?_, fun hl => ?_⟩
  · have hm : (X / y + 1) * y ≤ 18446744073709551615 * y := Int.mul_le_mul_of_nonneg_right (by omega) h3
    rw [Int.add_mul] at hm
    have hc : X ≤ y * 18446744073709551615 ∧ 0 < y := by omega
    unfold ceilQ ceilOk
    refine ⟨?_, decide_eq_true hc⟩
    rw [if_pos hc]
    have hu : (X + y - 1) / y = X / y + 1 ∧ (X + y - 1) % y = X % y - 1 := by
      refine (Int.ediv_emod_unique hy).2 ⟨?_, by omega, by omega⟩
      rw [Int.mul_comm, Int.add_mul]; omega
    exact hu.1
  · have e : X / y = 18446744073709551615 := by omega
    rw [e] at he
    have hc : ¬ (X ≤ y * 18446744073709551615 ∧ 0 < y) := by omega
    unfold ceilQ ceilOk
    exact ⟨if_neg hc, decide_eq_false hc⟩
theorem ceilQ_bd (X y : Int) (h0 : 0 ≤ X) (hy : 0 ≤ y) : 0 ≤ ceilQ X y ∧ ceilQ X y < 18446744073709551616 := by
  unfold ceilQ; split
  · rename_i h
    refine ⟨Int.ediv_nonneg (by omega) hy, ?_⟩
    refine Int.ediv_lt_of_lt_mul h.2 ?_
    omega
  · omega

theorem ceil_any (a b y : Int) (w : World) (ha : 0 ≤ a) (ha' : a < 18446744073709551616) (hb : 0 ≤ b) (hb' : b < 18446744073709551616) (h3 : 0 ≤ y) (h4 : y < 18446744073709551616) :
    Calls Try.prog 51 #[.int .u64 a, .int .u64 b, .int .u64 y] w fun e w' =>
      e = .returned (.tuple #[.int .u64 (ceilQ (a * b) y), .bool (ceilOk (a * b) y)]) ∧ Below w.heap.size w w' := by
  obtain ⟨X, hab⟩ : ∃ X : Int, a * b = X := ⟨_, rfl⟩
  have hX0 : 0 ≤ X := by rw [← hab]; exact Int.mul_nonneg ha hb
  have HAB := Lib.hid hab
  rw [hab]
  clear hab
  have c1 := Lib.hid (ceil_no X y h3 hX0)
  have c2 := Lib.hid (ceil_even X y h3 hX0)
  have c3 := Lib.hid (ceil_odd X y h3 hX0)
  go_enter Try.func51, Try.ntmps51
  go_wp2_with fail
  refine (times_any _ _ _ ha ha' hb hb').mono ?_
  rintro e w1 ⟨hi, lo, k1, k2, k3, k4, hX, rfl, hb1⟩
  have HX := Lib.hid hX
  clear hX
  go_wp2_with fail
  refine (over_any _ _ _ _ k1 k2 k3 k4 h3 h4).mono ?_
  rintro e w2 ⟨rfl, hb2⟩
  rw [HX.out, HAB.out]
  have HB := hb1.trans (hb2.mono hb1.size)
  clear HX hb1 hb2 k1 k2 k3 k4
  by_cases h : X < y * 18446744073709551616
  · obtain ⟨e1, e2, e3⟩ := over_yes X y h
    rw [e1, e2, e3]
    clear e1 e2 e3
    have hy : 0 < y := by omega
    have q0 : 0 ≤ X / y := Int.ediv_nonneg hX0 h3
    have q1 : X / y < 18446744073709551616 := Int.ediv_lt_of_lt_mul hy (by rw [Int.mul_comm]; exact h)
    have r0 := Int.emod_nonneg X (show y ≠ 0 by omega)
    by_cases hr : X % y = 0
    · have HE := Lib.hid (c2.out h hr)
      clear h c1 c2 c3
      rw [hr]
      generalize X / y = q at *
      clear hr
      go_wp2
      go_ret2
      rw [HE.out.1, HE.out.2]
      exact ⟨rfl, HB⟩
    · have HE := Lib.hid (c3.out h hr)
      have hadd := Try.add64_int (X / y) 1 0 q0 (by omega) (by omega) (by omega)
      clear h c1 c2 c3
      generalize X / y = q at *
      generalize X % y = r at *
      by_cases hl : q < 18446744073709551615
      · rw [show (q + 1 + 0) % 18446744073709551616 = q + 1 by omega, show (q + 1 + 0) / 18446744073709551616 = 0 by omega] at hadd
        go_wp2
        go_ret2
        rw [(HE.out.1 hl).1, (HE.out.1 hl).2]
        exact ⟨rfl, HB⟩
      · rw [show (q + 1 + 0) % 18446744073709551616 = 0 by omega, show (q + 1 + 0) / 18446744073709551616 = 1 by omega] at hadd
        go_wp2
        go_ret2
        rw [(HE.out.2 hl).1, (HE.out.2 hl).2]
        exact ⟨rfl, HB⟩
  · obtain ⟨e1, e2, e3⟩ := over_no X y h
    rw [e1, e2, e3]
    have HE := Lib.hid (ceil_no X y h3 hX0 (by omega))
    clear e1 e2 e3 c1 c2 c3 h
    go_wp2
    go_ret2
    rw [HE.out.1, HE.out.2]
    exact ⟨rfl, HB⟩
end Go.Proofs.Ytbmnebpjjghkpaa

