/- The walk of the statement WideQuotients. -/
import Derived.Test.YthbkgahflmgmnaaProg
import Derived.Test.YthbkgahflmgmnaaOpen
import Derived.Test.YthbkgahflmgmnaaOver
import Derived.Test.YthbkgahflmgmnaaRef1d
import Derived.Test.YthbkgahflmgmnaaAlive01
namespace Go.Proofs.Ythbkgahflmgmnaa
open Go.RowKit

set_option maxHeartbeats 2000000 in
theorem wideQuotients_walk (w : World) (a0 a1 : Int) (bda0 : 0 ≤ a0 ∧ a0 < 18446744073709551616) (bda1 : 0 ≤ a1 ∧ a1 < 18446744073709551616) (y : Int) (bdy : 0 ≤ y ∧ y < 18446744073709551616) :
    Calls Try.prog 3 #[.agg #[.int .u64 a0, .int .u64 a1], .int .u64 y] w fun e w' => e = .returned (.bool true) ∧ Below w.heap.size w w' := by
  obtain ⟨h1, h2⟩ := bda0
  obtain ⟨h3, h4⟩ := bda1
  obtain ⟨h5, h6⟩ := bdy
  go_enter Try.func3, Try.ntmps3
  go_wp2_with fail
  refine (alive_any _).mono ?_
  rintro e w1 ⟨rfl, hb⟩
  have b1 : At w1 w.heap.size #[.int .u64 a0, .int .u64 a1] 24 := At.below (by repeat (first | with_reducible assumption | with_reducible (refine At.new' _ _ _ ?_; first | rfl | (simp; done)) | with_reducible apply At.set2 | with_reducible refine At.alloc ?_ _ | with_reducible refine At.drew ?_ | with_reducible refine At.set_other ?_ (by first | (simp; done) | (simp; omega)) _)) hb
  have hB1 : Below w.heap.size w w1 := Below.trans (by repeat (first | with_reducible assumption | with_reducible exact Below.refl _ _ | with_reducible refine Below.drew ?_ | with_reducible refine Below.setCell ?_ (by first | omega | (simp; done) | (simp; omega)) _ | with_reducible refine Below.alloc ?_ (by first | omega | (simp; done) | (simp; omega) | (simp [World.setCell]; omega)) _)) (hb.mono (by first | omega | (simp; done) | (simp; omega) | (simp [World.setCell]; omega)))
  have z1 := hB1.size
  have f1 := b1.two
  clear hb
  go_wp2_with fail
  refine (over_any _ _ _ _ h1 h2 h3 h4 h5 h6).mono ?_
  rintro e w2 ⟨rfl, hb⟩
  have b2 : At w2 w.heap.size #[.int .u64 a0, .int .u64 a1] 24 := At.below (by repeat (first | with_reducible assumption | with_reducible (refine At.new' _ _ _ ?_; first | rfl | (simp; done)) | with_reducible apply At.set2 | with_reducible refine At.alloc ?_ _ | with_reducible refine At.drew ?_ | with_reducible refine At.set_other ?_ (by first | (simp; done) | (simp; omega)) _)) hb
  have hB2 : Below w.heap.size w w2 := Below.trans (by repeat (first | with_reducible assumption | with_reducible exact Below.refl _ _ | with_reducible refine Below.drew ?_ | with_reducible refine Below.setCell ?_ (by first | omega | (simp; done) | (simp; omega)) _ | with_reducible refine Below.alloc ?_ (by first | omega | (simp; done) | (simp; omega) | (simp [World.setCell]; omega)) _)) (hb.mono (by first | omega | (simp; done) | (simp; omega) | (simp [World.setCell]; omega)))
  have z2 := hB2.size
  clear hb f1 b1
  have f1 := b2.two
  go_wp2_with fail
  refine (rover_any _ _ _ _ h1 h2 h3 h4 h5 h6).mono ?_
  rintro e w3 ⟨rfl, hb⟩
  have b3 : At w3 w.heap.size #[.int .u64 a0, .int .u64 a1] 24 := At.below (by repeat (first | with_reducible assumption | with_reducible (refine At.new' _ _ _ ?_; first | rfl | (simp; done)) | with_reducible apply At.set2 | with_reducible refine At.alloc ?_ _ | with_reducible refine At.drew ?_ | with_reducible refine At.set_other ?_ (by first | (simp; done) | (simp; omega)) _)) hb
  have hB3 : Below w.heap.size w w3 := Below.trans (by repeat (first | with_reducible assumption | with_reducible exact Below.refl _ _ | with_reducible refine Below.drew ?_ | with_reducible refine Below.setCell ?_ (by first | omega | (simp; done) | (simp; omega)) _ | with_reducible refine Below.alloc ?_ (by first | omega | (simp; done) | (simp; omega) | (simp [World.setCell]; omega)) _)) (hb.mono (by first | omega | (simp; done) | (simp; omega) | (simp [World.setCell]; omega)))
  have z3 := hB3.size
  clear hb f1 b2
  have f1 := b3.two
  obtain ⟨X, HX⟩ : ∃ X, Hid (a0 * 18446744073709551616 + a1 = X) := ⟨_, rfl⟩
  rw [HX.out]
  have hX0 : 0 ≤ X := by have := HX.out; omega
  by_cases h : X < y * 18446744073709551616
  · obtain ⟨e1, e2, e3⟩ := over_yes X y h
    rw [e1, e2, e3]
    clear e1 e2 e3
    have hy : 0 < y := by omega
    have q0 : 0 ≤ X / y := Int.ediv_nonneg hX0 h5
    have q1 : X / y < 18446744073709551616 := Int.ediv_lt_of_lt_mul hy (by rw [Int.mul_comm]; exact h)
    have r0 := Int.emod_nonneg X (show y ≠ 0 by omega)
    have r1 := Int.emod_lt_of_pos X hy
    have HE := Lib.hid (Int.ediv_mul_add_emod X y)
    generalize X / y = q at *
    generalize X % y = r at *
    go_wp2_with fail
    refine (rtimes_any _ _ _ q0 q1 h5 h6).mono ?_
    rintro e w4 ⟨hi, lo, k1, k2, k3, k4, hM, rfl, hb⟩
    have HM := Lib.hid hM
    have b4 : At w4 w.heap.size #[.int .u64 a0, .int .u64 a1] 24 := At.below (by repeat (first | with_reducible assumption | with_reducible (refine At.new' _ _ _ ?_; first | rfl | (simp; done)) | with_reducible apply At.set2 | with_reducible refine At.alloc ?_ _ | with_reducible refine At.drew ?_ | with_reducible refine At.set_other ?_ (by first | (simp; done) | (simp; omega)) _)) hb
    have hB4 : Below w.heap.size w w4 := Below.trans (by repeat (first | with_reducible assumption | with_reducible exact Below.refl _ _ | with_reducible refine Below.drew ?_ | with_reducible refine Below.setCell ?_ (by first | omega | (simp; done) | (simp; omega)) _ | with_reducible refine Below.alloc ?_ (by first | omega | (simp; done) | (simp; omega) | (simp [World.setCell]; omega)) _)) (hb.mono (by first | omega | (simp; done) | (simp; omega) | (simp [World.setCell]; omega)))
    have z4 := hB4.size
    clear hb f1 b3 hM
    have f1 := b4.two
    go_wp2_with fail
    refine (radd_any _ _ _ _ _ k1 k2 k3 k4 (by omega) (by omega) r0 (by omega)).mono ?_
    rintro e w5 ⟨sh, sl, l1, l2, l3, l4, hM, rfl, hb⟩
    have HS : Hid (sh = a0 ∧ sl = a1 ∧ addO (hi * 18446744073709551616 + lo + (0 * 18446744073709551616 + r)) = false) := by
      have := HM.out
      have := HE.out
      have := HX.out
      unfold addQ at hM
      unfold addO
      refine ⟨by omega, by omega, decide_eq_false (by omega)⟩
    obtain rfl := HS.out.1
    obtain rfl := HS.out.2.1
    rw [HS.out.2.2]
    have b5 : At w5 w.heap.size #[.int .u64 sh, .int .u64 sl] 24 := At.below (by repeat (first | with_reducible assumption | with_reducible (refine At.new' _ _ _ ?_; first | rfl | (simp; done)) | with_reducible apply At.set2 | with_reducible refine At.alloc ?_ _ | with_reducible refine At.drew ?_ | with_reducible refine At.set_other ?_ (by first | (simp; done) | (simp; omega)) _)) hb
    have hB5 : Below w.heap.size w w5 := Below.trans (by repeat (first | with_reducible assumption | with_reducible exact Below.refl _ _ | with_reducible refine Below.drew ?_ | with_reducible refine Below.setCell ?_ (by first | omega | (simp; done) | (simp; omega)) _ | with_reducible refine Below.alloc ?_ (by first | omega | (simp; done) | (simp; omega) | (simp [World.setCell]; omega)) _)) (hb.mono (by first | omega | (simp; done) | (simp; omega) | (simp [World.setCell]; omega)))
    have z5 := hB5.size
    clear hb f1 b4 hM
    have f1 := b5.two
    have s5 := b5.lt
    go_wp2
    go_ret
    exact ⟨by simp, (by repeat (first | with_reducible assumption | with_reducible exact Below.refl _ _ | with_reducible refine Below.drew ?_ | with_reducible refine Below.setCell ?_ (by first | omega | (simp; done) | (simp; omega)) _ | with_reducible refine Below.alloc ?_ (by first | omega | (simp; done) | (simp; omega) | (simp [World.setCell]; omega)) _))⟩
  · obtain ⟨e1, e2, e3⟩ := over_no X y h
    rw [e1, e2, e3]
    go_wp2
    go_ret
    exact ⟨rfl, hB3⟩
end Go.Proofs.Ythbkgahflmgmnaa

