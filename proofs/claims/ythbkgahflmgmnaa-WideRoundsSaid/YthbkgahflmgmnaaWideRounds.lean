/- The walk of the statement WideRounds. -/
import Derived.Test.YthbkgahflmgmnaaProg
import Derived.Test.YthbkgahflmgmnaaOpen
import Derived.Test.YthbkgahflmgmnaaOver
import Derived.Test.YthbkgahflmgmnaaRef1d
import Derived.Test.YthbkgahflmgmnaaAlive01
namespace Go.Proofs.Ythbkgahflmgmnaa
open Go.RowKit

set_option maxHeartbeats 2000000 in
theorem wideRounds_walk (w : World) (a : Int) (bda : 0 ≤ a ∧ a < 18446744073709551616) (b : Int) (bdb : 0 ≤ b ∧ b < 18446744073709551616) (y : Int) (bdy : 0 ≤ y ∧ y < 18446744073709551616) :
    Calls Try.prog 4 #[.int .u64 a, .int .u64 b, .int .u64 y] w fun e w' => e = .returned (.bool true) ∧ Below w.heap.size w w' := by
  obtain ⟨h1, h2⟩ := bda
  obtain ⟨h3, h4⟩ := bdb
  obtain ⟨h5, h6⟩ := bdy
  go_enter Try.func4, Try.ntmps4
  go_wp2_with fail
  refine (alive_any _).mono ?_
  rintro e w1 ⟨rfl, hb⟩
  have hB1 : Below w.heap.size w w1 := Below.trans (by repeat (first | with_reducible assumption | with_reducible exact Below.refl _ _ | with_reducible refine Below.drew ?_ | with_reducible refine Below.setCell ?_ (by first | omega | (simp; done) | (simp; omega)) _ | with_reducible refine Below.alloc ?_ (by first | omega | (simp; done) | (simp; omega) | (simp [World.setCell]; omega)) _)) (hb.mono (by first | omega | (simp; done) | (simp; omega) | (simp [World.setCell]; omega)))
  have z1 := hB1.size
  clear hb
  go_wp2_with fail
  refine (floor_any _ _ _ _ h1 h2 h3 h4 h5 h6).mono ?_
  rintro e w2 ⟨rfl, hb⟩
  have hB2 : Below w.heap.size w w2 := Below.trans (by repeat (first | with_reducible assumption | with_reducible exact Below.refl _ _ | with_reducible refine Below.drew ?_ | with_reducible refine Below.setCell ?_ (by first | omega | (simp; done) | (simp; omega)) _ | with_reducible refine Below.alloc ?_ (by first | omega | (simp; done) | (simp; omega) | (simp [World.setCell]; omega)) _)) (hb.mono (by first | omega | (simp; done) | (simp; omega) | (simp [World.setCell]; omega)))
  have z2 := hB2.size
  clear hb
  go_wp2_with fail
  refine (ceil_any _ _ _ _ h1 h2 h3 h4 h5 h6).mono ?_
  rintro e w3 ⟨rfl, hb⟩
  have hB3 : Below w.heap.size w w3 := Below.trans (by repeat (first | with_reducible assumption | with_reducible exact Below.refl _ _ | with_reducible refine Below.drew ?_ | with_reducible refine Below.setCell ?_ (by first | omega | (simp; done) | (simp; omega)) _ | with_reducible refine Below.alloc ?_ (by first | omega | (simp; done) | (simp; omega) | (simp [World.setCell]; omega)) _)) (hb.mono (by first | omega | (simp; done) | (simp; omega) | (simp [World.setCell]; omega)))
  have z3 := hB3.size
  clear hb
  go_wp2_with fail
  refine (rtimes_any _ _ _ h1 h2 h3 h4).mono ?_
  rintro e w4 ⟨hi, lo, k1, k2, k3, k4, hM, rfl, hb⟩
  have HM := Lib.hid hM
  have hB4 : Below w.heap.size w w4 := Below.trans (by repeat (first | with_reducible assumption | with_reducible exact Below.refl _ _ | with_reducible refine Below.drew ?_ | with_reducible refine Below.setCell ?_ (by first | omega | (simp; done) | (simp; omega)) _ | with_reducible refine Below.alloc ?_ (by first | omega | (simp; done) | (simp; omega) | (simp [World.setCell]; omega)) _)) (hb.mono (by first | omega | (simp; done) | (simp; omega) | (simp [World.setCell]; omega)))
  have z4 := hB4.size
  clear hb hM
  go_wp2_with fail
  refine (rover_any _ _ _ _ k1 k2 k3 k4 h5 h6).mono ?_
  rintro e w5 ⟨rfl, hb⟩
  rw [HM.out]
  have hB5 : Below w.heap.size w w5 := Below.trans (by repeat (first | with_reducible assumption | with_reducible exact Below.refl _ _ | with_reducible refine Below.drew ?_ | with_reducible refine Below.setCell ?_ (by first | omega | (simp; done) | (simp; omega)) _ | with_reducible refine Below.alloc ?_ (by first | omega | (simp; done) | (simp; omega) | (simp [World.setCell]; omega)) _)) (hb.mono (by first | omega | (simp; done) | (simp; omega) | (simp [World.setCell]; omega)))
  have z5 := hB5.size
  clear hb
  go_wp2_with fail
  refine (rceil_any _ _ _ _ h1 h2 h3 h4 h5 h6).mono ?_
  rintro e w6 ⟨rfl, hb⟩
  have hB6 : Below w.heap.size w w6 := Below.trans (by repeat (first | with_reducible assumption | with_reducible exact Below.refl _ _ | with_reducible refine Below.drew ?_ | with_reducible refine Below.setCell ?_ (by first | omega | (simp; done) | (simp; omega)) _ | with_reducible refine Below.alloc ?_ (by first | omega | (simp; done) | (simp; omega) | (simp [World.setCell]; omega)) _)) (hb.mono (by first | omega | (simp; done) | (simp; omega) | (simp [World.setCell]; omega)))
  have z6 := hB6.size
  clear hb
  have hX0 : 0 ≤ a * b := Int.mul_nonneg h1 h3
  obtain ⟨X, HX⟩ : ∃ X, Hid (a * b = X) := ⟨_, rfl⟩
  rw [HX.out] at hX0 ⊢
  by_cases h : X < y * 18446744073709551616
  · obtain ⟨e1, e2, e3⟩ := over_yes X y h
    have hy : 0 < y := by omega
    have q0 : 0 ≤ X / y := Int.ediv_nonneg hX0 h5
    have q1 : X / y < 18446744073709551616 := Int.ediv_lt_of_lt_mul hy (by rw [Int.mul_comm]; exact h)
    have r0 := Int.emod_nonneg X (show y ≠ 0 by omega)
    by_cases hr : X % y = 0
    · obtain ⟨g1, g2⟩ := ceil_even X y h5 hX0 h hr
      rw [e1, e2, e3, g1, g2, hr]
      clear e1 e2 e3 g1 g2 hr h
      generalize X / y = q at *
      go_wp2
      go_ret
      exact ⟨by simp, hB6⟩
    · have hr' : 0 < X % y := by omega
      by_cases hl : X / y < 18446744073709551615
      · obtain ⟨g1, g2⟩ := (ceil_odd X y h5 hX0 h hr).1 hl
        rw [e1, e2, e3, g1, g2]
        clear e1 e2 e3 g1 g2 hr h
        generalize X / y = q at *
        generalize X % y = r at *
        have hq : (q + 1 == q) = false := beq_eq_false_iff_ne.2 (by omega)
        go_wp2
        go_ret
        exact ⟨by simp, hB6⟩
      · obtain ⟨g1, g2⟩ := (ceil_odd X y h5 hX0 h hr).2 hl
        rw [e1, e2, e3, g1, g2]
        clear e1 e2 e3 g1 g2 hr h
        generalize X / y = q at *
        generalize X % y = r at *
        go_wp2
        go_ret
        exact ⟨by simp, hB6⟩
  · obtain ⟨e1, e2, e3⟩ := over_no X y h
    obtain ⟨g1, g2⟩ := ceil_no X y h5 hX0 h
    rw [e1, e2, e3, g1, g2]
    go_wp2
    go_ret
    exact ⟨rfl, hB6⟩
end Go.Proofs.Ythbkgahflmgmnaa

