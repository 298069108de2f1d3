/- The walk of the statement WideSums. -/
import Derived.Test.YthbkgahflmgmnaaProg
import Derived.Test.YthbkgahflmgmnaaOpen
import Derived.Test.YthbkgahflmgmnaaOver
import Derived.Test.YthbkgahflmgmnaaRef1d
import Derived.Test.YthbkgahflmgmnaaCompare
import Derived.Test.YthbkgahflmgmnaaWAdd
import Derived.Test.YthbkgahflmgmnaaFar
import Derived.Test.YthbkgahflmgmnaaAlive01
namespace Go.Proofs.Ythbkgahflmgmnaa
open Go.RowKit Go.BigFrame

theorem times_div (a b : Int) (w : World) (ha : 0 ≤ a) (ha' : a < 18446744073709551616) (hb : 0 ≤ b) (hb' : b < 18446744073709551616) :
    Calls Try.prog 25 #[.int .u64 a, .int .u64 b] w fun e w' => e = .returned (.agg #[.int .u64 (a * b / 18446744073709551616), .int .u64 (a * b % 18446744073709551616)]) ∧ Below w.heap.size w w' :=
  (times_any a b w ha ha' hb hb').mono fun e w' ⟨hi, lo, k1, k2, k3, k4, hX, he, hB⟩ => by
    rw [← hX, show (hi * 18446744073709551616 + lo) / 18446744073709551616 = hi by omega, show (hi * 18446744073709551616 + lo) % 18446744073709551616 = lo by omega]
    exact ⟨he, hB⟩
theorem rtimes_div (a b : Int) (w : World) (ha : 0 ≤ a) (ha' : a < 18446744073709551616) (hb : 0 ≤ b) (hb' : b < 18446744073709551616) :
    Calls Try.prog 12 #[.int .u64 a, .int .u64 b] w fun e w' => e = .returned (.agg #[.int .u64 (a * b / 18446744073709551616), .int .u64 (a * b % 18446744073709551616)]) ∧ Below w.heap.size w w' :=
  (rtimes_any a b w ha ha' hb hb').mono fun e w' ⟨hi, lo, k1, k2, k3, k4, hX, he, hB⟩ => by
    rw [← hX, show (hi * 18446744073709551616 + lo) / 18446744073709551616 = hi by omega, show (hi * 18446744073709551616 + lo) % 18446744073709551616 = lo by omega]
    exact ⟨he, hB⟩

theorem addQ_self {X : Int} (h0 : 0 ≤ X) (h1 : X < 340282366920938463463374607431768211456) : addQ (0 + X) = X ∧ addO (0 + X) = false := by
  unfold addQ addO
  refine ⟨by omega, decide_eq_false (by omega)⟩
theorem sumF_two (a b : Int × Int) (h1 : 0 ≤ a.1) (h2 : a.1 < 18446744073709551616) (h3 : 0 ≤ a.2) (h4 : a.2 < 18446744073709551616) :
    sumF 0 false [a, b] = (addQ (a.1 * 18446744073709551616 + a.2 + (b.1 * 18446744073709551616 + b.2)), addO (a.1 * 18446744073709551616 + a.2 + (b.1 * 18446744073709551616 + b.2))) := by
  obtain ⟨e1, e2⟩ := addQ_self (X := a.1 * 18446744073709551616 + a.2) (by omega) (by omega)
  simp only [sumF, e1, e2, Bool.or_false, Bool.false_or]
theorem sumF_three (a b c : Int × Int) (h1 : 0 ≤ a.1) (h2 : a.1 < 18446744073709551616) (h3 : 0 ≤ a.2) (h4 : a.2 < 18446744073709551616) :
    sumF 0 false [a, b, c] = (addQ (addQ (a.1 * 18446744073709551616 + a.2 + (b.1 * 18446744073709551616 + b.2)) + (c.1 * 18446744073709551616 + c.2)), addO (a.1 * 18446744073709551616 + a.2 + (b.1 * 18446744073709551616 + b.2)) || addO (addQ (a.1 * 18446744073709551616 + a.2 + (b.1 * 18446744073709551616 + b.2)) + (c.1 * 18446744073709551616 + c.2))) := by
  obtain ⟨e1, e2⟩ := addQ_self (X := a.1 * 18446744073709551616 + a.2) (by omega) (by omega)
  simp only [sumF, e1, e2, Bool.or_false, Bool.false_or]
theorem pair_eq {a b c d : Int} (h1 : 0 ≤ b) (h2 : b < 18446744073709551616) (h3 : 0 ≤ d) (h4 : d < 18446744073709551616) (h : a * 18446744073709551616 + b = c * 18446744073709551616 + d) : a = c ∧ b = d := by omega

theorem sums_signs {A B n m : Int} {L : Bool} (hn : cmpI A B = n) (hm : cmpI B A = m) (hL : decide (A < B) = L) :
    decide (n < 0) = L ∧ IntKind.i64.wrap (-m) = n ∧ (n = 0 ↔ A = B) := by
  subst hL
  rcases Int.lt_trichotomy A B with h | h | h
  · rw [cmpI_lt h] at hn; rw [cmpI_gt h] at hm; subst hn; subst hm
    refine ⟨by simp [h], by decide, by omega⟩
  · subst h
    rw [cmpI_eq rfl] at hn; rw [cmpI_eq rfl] at hm; subst hn; subst hm
    refine ⟨by simp, by decide, by omega⟩
  · rw [cmpI_gt h] at hn; rw [cmpI_lt h] at hm; subst hn; subst hm
    refine ⟨by simp; omega, by decide, by omega⟩

set_option maxHeartbeats 8000000 in
theorem wideSums_walk (w : World) (a0 a1 : Int) (bda0 : 0 ≤ a0 ∧ a0 < 18446744073709551616) (bda1 : 0 ≤ a1 ∧ a1 < 18446744073709551616) (b0 b1 : Int) (bdb0 : 0 ≤ b0 ∧ b0 < 18446744073709551616) (bdb1 : 0 ≤ b1 ∧ b1 < 18446744073709551616) (c0 c1 : Int) (bdc0 : 0 ≤ c0 ∧ c0 < 18446744073709551616) (bdc1 : 0 ≤ c1 ∧ c1 < 18446744073709551616) :
    Calls Try.prog 7 #[.agg #[.int .u64 a0, .int .u64 a1], .agg #[.int .u64 b0, .int .u64 b1], .agg #[.int .u64 c0, .int .u64 c1]] w fun e w' => e = .returned (.bool true) ∧ Below w.heap.size w w' := by
  obtain ⟨p1, p2⟩ := bda0
  obtain ⟨p3, p4⟩ := bda1
  obtain ⟨q1, q2⟩ := bdb0
  obtain ⟨q3, q4⟩ := bdb1
  obtain ⟨r1, r2⟩ := bdc0
  obtain ⟨r3, r4⟩ := bdc1
  go_enter Try.func7, Try.ntmps7
  go_wp2_with fail
  refine (alive_any _).mono ?_
  rintro e w1 ⟨rfl, hb⟩
  replace s1 : At w1 (w.heap.size) _ _ := At.below (by repeat (first | with_reducible assumption | (with_reducible apply At.new'; (first | with_reducible rfl | (simp; done))) | with_reducible apply At.set2 | with_reducible apply At.alloc | with_reducible apply At.drew | (with_reducible apply At.set_other; (case hne => first | (simp; done) | (simp; omega))))) hb
  replace s2 : At w1 (w.heap.size + 1) _ _ := At.below (by repeat (first | with_reducible assumption | (with_reducible apply At.new'; (first | with_reducible rfl | (simp; done))) | with_reducible apply At.set2 | with_reducible apply At.alloc | with_reducible apply At.drew | (with_reducible apply At.set_other; (case hne => first | (simp; done) | (simp; omega))))) hb
  replace s3 : At w1 (w.heap.size + 1 + 1) _ _ := At.below (by repeat (first | with_reducible assumption | (with_reducible apply At.new'; (first | with_reducible rfl | (simp; done))) | with_reducible apply At.set2 | with_reducible apply At.alloc | with_reducible apply At.drew | (with_reducible apply At.set_other; (case hne => first | (simp; done) | (simp; omega))))) hb
  replace hB : Below w.heap.size w w1 := Below.trans (by repeat (first | with_reducible assumption | with_reducible exact Below.refl _ _ | with_reducible refine Below.drew ?_ | with_reducible refine Below.setCell ?_ (by first | omega | (simp; done) | (simp; omega)) _ | with_reducible refine Below.alloc ?_ (by first | omega | (simp; done) | (simp; omega) | (simp [World.setCell]; omega)) _)) (hb.mono (by first | omega | (simp; done) | (simp; omega) | (simp [World.setCell]; omega)))
  replace f1 := s1.two
  replace l1 := s1.lt
  replace f2 := s2.two
  replace l2 := s2.lt
  replace f3 := s3.two
  replace l3 := s3.lt
  replace zhB := hB.size
  clear hb
  go_wp2_with fail
  refine (wadd_any _ 2 [(a0, a1), (b0, b1)] _ (by simp) (by simp) (by simp; omega) (by intro j hj; simp at hj; rcases (show j = 0 ∨ j = 1 by omega) with rfl | rfl <;> simp)).mono ?_
  rintro e w2 ⟨sh, sl, t1, t2, t3, t4, hS, rfl, hb⟩
  rw [sumF_two _ _ p1 p2 p3 p4] at hS
  rw [sumF_two _ _ p1 p2 p3 p4]
  have HS := Lib.hid hS
  clear hS
  dsimp only at HS ⊢
  replace s1 : At w2 (w.heap.size) _ _ := At.below (by repeat (first | with_reducible assumption | (with_reducible apply At.new'; (first | with_reducible rfl | (simp; done))) | with_reducible apply At.set2 | with_reducible apply At.alloc | with_reducible apply At.drew | (with_reducible apply At.set_other; (case hne => first | (simp; done) | (simp; omega))))) hb
  replace s2 : At w2 (w.heap.size + 1) _ _ := At.below (by repeat (first | with_reducible assumption | (with_reducible apply At.new'; (first | with_reducible rfl | (simp; done))) | with_reducible apply At.set2 | with_reducible apply At.alloc | with_reducible apply At.drew | (with_reducible apply At.set_other; (case hne => first | (simp; done) | (simp; omega))))) hb
  replace s3 : At w2 (w.heap.size + 1 + 1) _ _ := At.below (by repeat (first | with_reducible assumption | (with_reducible apply At.new'; (first | with_reducible rfl | (simp; done))) | with_reducible apply At.set2 | with_reducible apply At.alloc | with_reducible apply At.drew | (with_reducible apply At.set_other; (case hne => first | (simp; done) | (simp; omega))))) hb
  replace hB : Below w.heap.size w w2 := Below.trans (by repeat (first | with_reducible assumption | with_reducible exact Below.refl _ _ | with_reducible refine Below.drew ?_ | with_reducible refine Below.setCell ?_ (by first | omega | (simp; done) | (simp; omega)) _ | with_reducible refine Below.alloc ?_ (by first | omega | (simp; done) | (simp; omega) | (simp [World.setCell]; omega)) _)) (hb.mono (by first | omega | (simp; done) | (simp; omega) | (simp [World.setCell]; omega)))
  replace f1 := s1.two
  replace l1 := s1.lt
  replace f2 := s2.two
  replace l2 := s2.lt
  replace f3 := s3.two
  replace l3 := s3.lt
  replace zhB := hB.size
  clear hb
  go_wp2_with fail
  refine (radd_any _ _ _ _ _ p1 p2 p3 p4 q1 q2 q3 q4).mono ?_
  rintro e w3 ⟨th, tl, u1, u2, u3, u4, hS, rfl, hb⟩
  have HT := Lib.hid (hS.trans HS.out.symm)
  clear hS
  obtain rfl : th = sh := (pair_eq u3 u4 t3 t4 HT.out).1
  obtain rfl : tl = sl := (pair_eq u3 u4 t3 t4 HT.out).2
  clear HT
  replace s1 : At w3 (w.heap.size) _ _ := At.below (by repeat (first | with_reducible assumption | (with_reducible apply At.new'; (first | with_reducible rfl | (simp; done))) | with_reducible apply At.set2 | with_reducible apply At.alloc | with_reducible apply At.drew | (with_reducible apply At.set_other; (case hne => first | (simp; done) | (simp; omega))))) hb
  replace s2 : At w3 (w.heap.size + 1) _ _ := At.below (by repeat (first | with_reducible assumption | (with_reducible apply At.new'; (first | with_reducible rfl | (simp; done))) | with_reducible apply At.set2 | with_reducible apply At.alloc | with_reducible apply At.drew | (with_reducible apply At.set_other; (case hne => first | (simp; done) | (simp; omega))))) hb
  replace s3 : At w3 (w.heap.size + 1 + 1) _ _ := At.below (by repeat (first | with_reducible assumption | (with_reducible apply At.new'; (first | with_reducible rfl | (simp; done))) | with_reducible apply At.set2 | with_reducible apply At.alloc | with_reducible apply At.drew | (with_reducible apply At.set_other; (case hne => first | (simp; done) | (simp; omega))))) hb
  replace s4 : At w3 (w2.heap.size) _ _ := At.below (by repeat (first | with_reducible assumption | (with_reducible apply At.new'; (first | with_reducible rfl | (simp; done))) | with_reducible apply At.set2 | with_reducible apply At.alloc | with_reducible apply At.drew | (with_reducible apply At.set_other; (case hne => first | (simp; done) | (simp; omega))))) hb
  replace hB : Below w.heap.size w w3 := Below.trans (by repeat (first | with_reducible assumption | with_reducible exact Below.refl _ _ | with_reducible refine Below.drew ?_ | with_reducible refine Below.setCell ?_ (by first | omega | (simp; done) | (simp; omega)) _ | with_reducible refine Below.alloc ?_ (by first | omega | (simp; done) | (simp; omega) | (simp [World.setCell]; omega)) _)) (hb.mono (by first | omega | (simp; done) | (simp; omega) | (simp [World.setCell]; omega)))
  replace f1 := s1.two
  replace l1 := s1.lt
  replace f2 := s2.two
  replace l2 := s2.lt
  replace f3 := s3.two
  replace l3 := s3.lt
  replace f4 := s4.two
  replace l4 := s4.lt
  replace zhB := hB.size
  clear hb
  go_wp2_with fail
  refine (wadd_any _ 3 [(a0, a1), (b0, b1), (c0, c1)] _ (by simp) (by simp) (by simp; omega) (by intro j hj; simp at hj; rcases (show j = 0 ∨ j = 1 ∨ j = 2 by omega) with rfl | rfl | rfl <;> simp)).mono ?_
  rintro e w4 ⟨xh, xl, v1, v2, v3, v4, hS, rfl, hb⟩
  rw [sumF_three _ _ _ p1 p2 p3 p4] at hS
  rw [sumF_three _ _ _ p1 p2 p3 p4]
  have HX := Lib.hid hS
  clear hS
  dsimp only at HX ⊢
  replace s1 : At w4 (w.heap.size) _ _ := At.below (by repeat (first | with_reducible assumption | (with_reducible apply At.new'; (first | with_reducible rfl | (simp; done))) | with_reducible apply At.set2 | with_reducible apply At.alloc | with_reducible apply At.drew | (with_reducible apply At.set_other; (case hne => first | (simp; done) | (simp; omega))))) hb
  replace s2 : At w4 (w.heap.size + 1) _ _ := At.below (by repeat (first | with_reducible assumption | (with_reducible apply At.new'; (first | with_reducible rfl | (simp; done))) | with_reducible apply At.set2 | with_reducible apply At.alloc | with_reducible apply At.drew | (with_reducible apply At.set_other; (case hne => first | (simp; done) | (simp; omega))))) hb
  replace s3 : At w4 (w.heap.size + 1 + 1) _ _ := At.below (by repeat (first | with_reducible assumption | (with_reducible apply At.new'; (first | with_reducible rfl | (simp; done))) | with_reducible apply At.set2 | with_reducible apply At.alloc | with_reducible apply At.drew | (with_reducible apply At.set_other; (case hne => first | (simp; done) | (simp; omega))))) hb
  replace s4 : At w4 (w2.heap.size) _ _ := At.below (by repeat (first | with_reducible assumption | (with_reducible apply At.new'; (first | with_reducible rfl | (simp; done))) | with_reducible apply At.set2 | with_reducible apply At.alloc | with_reducible apply At.drew | (with_reducible apply At.set_other; (case hne => first | (simp; done) | (simp; omega))))) hb
  replace s5 : At w4 (w3.heap.size) _ _ := At.below (by repeat (first | with_reducible assumption | (with_reducible apply At.new'; (first | with_reducible rfl | (simp; done))) | with_reducible apply At.set2 | with_reducible apply At.alloc | with_reducible apply At.drew | (with_reducible apply At.set_other; (case hne => first | (simp; done) | (simp; omega))))) hb
  replace hB : Below w.heap.size w w4 := Below.trans (by repeat (first | with_reducible assumption | with_reducible exact Below.refl _ _ | with_reducible refine Below.drew ?_ | with_reducible refine Below.setCell ?_ (by first | omega | (simp; done) | (simp; omega)) _ | with_reducible refine Below.alloc ?_ (by first | omega | (simp; done) | (simp; omega) | (simp [World.setCell]; omega)) _)) (hb.mono (by first | omega | (simp; done) | (simp; omega) | (simp [World.setCell]; omega)))
  replace f1 := s1.two
  replace l1 := s1.lt
  replace f2 := s2.two
  replace l2 := s2.lt
  replace f3 := s3.two
  replace l3 := s3.lt
  replace f4 := s4.two
  replace l4 := s4.lt
  replace f5 := s5.two
  replace l5 := s5.lt
  replace zhB := hB.size
  clear hb
  go_wp2_with fail
  refine (radd_any _ _ _ _ _ t1 t2 t3 t4 r1 r2 r3 r4).mono ?_
  rintro e w5 ⟨yh, yl, k1, k2, k3, k4, hS, rfl, hb⟩
  have HT : Hid (yh * 18446744073709551616 + yl = xh * 18446744073709551616 + xl) := by
    show _ = _
    rw [HX.out, ← HS.out]
    exact hS
  clear hS
  obtain rfl : yh = xh := (pair_eq k3 k4 v3 v4 HT.out).1
  obtain rfl : yl = xl := (pair_eq k3 k4 v3 v4 HT.out).2
  clear HT
  replace s1 : At w5 (w.heap.size) _ _ := At.below (by repeat (first | with_reducible assumption | (with_reducible apply At.new'; (first | with_reducible rfl | (simp; done))) | with_reducible apply At.set2 | with_reducible apply At.alloc | with_reducible apply At.drew | (with_reducible apply At.set_other; (case hne => first | (simp; done) | (simp; omega))))) hb
  replace s2 : At w5 (w.heap.size + 1) _ _ := At.below (by repeat (first | with_reducible assumption | (with_reducible apply At.new'; (first | with_reducible rfl | (simp; done))) | with_reducible apply At.set2 | with_reducible apply At.alloc | with_reducible apply At.drew | (with_reducible apply At.set_other; (case hne => first | (simp; done) | (simp; omega))))) hb
  replace s3 : At w5 (w.heap.size + 1 + 1) _ _ := At.below (by repeat (first | with_reducible assumption | (with_reducible apply At.new'; (first | with_reducible rfl | (simp; done))) | with_reducible apply At.set2 | with_reducible apply At.alloc | with_reducible apply At.drew | (with_reducible apply At.set_other; (case hne => first | (simp; done) | (simp; omega))))) hb
  replace s4 : At w5 (w2.heap.size) _ _ := At.below (by repeat (first | with_reducible assumption | (with_reducible apply At.new'; (first | with_reducible rfl | (simp; done))) | with_reducible apply At.set2 | with_reducible apply At.alloc | with_reducible apply At.drew | (with_reducible apply At.set_other; (case hne => first | (simp; done) | (simp; omega))))) hb
  replace s5 : At w5 (w3.heap.size) _ _ := At.below (by repeat (first | with_reducible assumption | (with_reducible apply At.new'; (first | with_reducible rfl | (simp; done))) | with_reducible apply At.set2 | with_reducible apply At.alloc | with_reducible apply At.drew | (with_reducible apply At.set_other; (case hne => first | (simp; done) | (simp; omega))))) hb
  replace s6 : At w5 (w4.heap.size) _ _ := At.below (by repeat (first | with_reducible assumption | (with_reducible apply At.new'; (first | with_reducible rfl | (simp; done))) | with_reducible apply At.set2 | with_reducible apply At.alloc | with_reducible apply At.drew | (with_reducible apply At.set_other; (case hne => first | (simp; done) | (simp; omega))))) hb
  replace hB : Below w.heap.size w w5 := Below.trans (by repeat (first | with_reducible assumption | with_reducible exact Below.refl _ _ | with_reducible refine Below.drew ?_ | with_reducible refine Below.setCell ?_ (by first | omega | (simp; done) | (simp; omega)) _ | with_reducible refine Below.alloc ?_ (by first | omega | (simp; done) | (simp; omega) | (simp [World.setCell]; omega)) _)) (hb.mono (by first | omega | (simp; done) | (simp; omega) | (simp [World.setCell]; omega)))
  replace f1 := s1.two
  replace l1 := s1.lt
  replace f2 := s2.two
  replace l2 := s2.lt
  replace f3 := s3.two
  replace l3 := s3.lt
  replace f4 := s4.two
  replace l4 := s4.lt
  replace f5 := s5.two
  replace l5 := s5.lt
  replace f6 := s6.two
  replace l6 := s6.lt
  replace zhB := hB.size
  clear hb
  go_wp2_with fail
  refine (wsub_any _ _ _ _ _ p1 p2 p3 p4 q1 q2 q3 q4).mono ?_
  rintro e w6 ⟨dh, dl, m1, m2, m3, m4, hS, rfl, hb⟩
  have HD := Lib.hid hS
  clear hS
  replace s1 : At w6 (w.heap.size) _ _ := At.below (by repeat (first | with_reducible assumption | (with_reducible apply At.new'; (first | with_reducible rfl | (simp; done))) | with_reducible apply At.set2 | with_reducible apply At.alloc | with_reducible apply At.drew | (with_reducible apply At.set_other; (case hne => first | (simp; done) | (simp; omega))))) hb
  replace s2 : At w6 (w.heap.size + 1) _ _ := At.below (by repeat (first | with_reducible assumption | (with_reducible apply At.new'; (first | with_reducible rfl | (simp; done))) | with_reducible apply At.set2 | with_reducible apply At.alloc | with_reducible apply At.drew | (with_reducible apply At.set_other; (case hne => first | (simp; done) | (simp; omega))))) hb
  replace s3 : At w6 (w.heap.size + 1 + 1) _ _ := At.below (by repeat (first | with_reducible assumption | (with_reducible apply At.new'; (first | with_reducible rfl | (simp; done))) | with_reducible apply At.set2 | with_reducible apply At.alloc | with_reducible apply At.drew | (with_reducible apply At.set_other; (case hne => first | (simp; done) | (simp; omega))))) hb
  replace s4 : At w6 (w2.heap.size) _ _ := At.below (by repeat (first | with_reducible assumption | (with_reducible apply At.new'; (first | with_reducible rfl | (simp; done))) | with_reducible apply At.set2 | with_reducible apply At.alloc | with_reducible apply At.drew | (with_reducible apply At.set_other; (case hne => first | (simp; done) | (simp; omega))))) hb
  replace s5 : At w6 (w3.heap.size) _ _ := At.below (by repeat (first | with_reducible assumption | (with_reducible apply At.new'; (first | with_reducible rfl | (simp; done))) | with_reducible apply At.set2 | with_reducible apply At.alloc | with_reducible apply At.drew | (with_reducible apply At.set_other; (case hne => first | (simp; done) | (simp; omega))))) hb
  replace s6 : At w6 (w4.heap.size) _ _ := At.below (by repeat (first | with_reducible assumption | (with_reducible apply At.new'; (first | with_reducible rfl | (simp; done))) | with_reducible apply At.set2 | with_reducible apply At.alloc | with_reducible apply At.drew | (with_reducible apply At.set_other; (case hne => first | (simp; done) | (simp; omega))))) hb
  replace s7 : At w6 (w5.heap.size) _ _ := At.below (by repeat (first | with_reducible assumption | (with_reducible apply At.new'; (first | with_reducible rfl | (simp; done))) | with_reducible apply At.set2 | with_reducible apply At.alloc | with_reducible apply At.drew | (with_reducible apply At.set_other; (case hne => first | (simp; done) | (simp; omega))))) hb
  replace hB : Below w.heap.size w w6 := Below.trans (by repeat (first | with_reducible assumption | with_reducible exact Below.refl _ _ | with_reducible refine Below.drew ?_ | with_reducible refine Below.setCell ?_ (by first | omega | (simp; done) | (simp; omega)) _ | with_reducible refine Below.alloc ?_ (by first | omega | (simp; done) | (simp; omega) | (simp [World.setCell]; omega)) _)) (hb.mono (by first | omega | (simp; done) | (simp; omega) | (simp [World.setCell]; omega)))
  replace f1 := s1.two
  replace l1 := s1.lt
  replace f2 := s2.two
  replace l2 := s2.lt
  replace f3 := s3.two
  replace l3 := s3.lt
  replace f4 := s4.two
  replace l4 := s4.lt
  replace f5 := s5.two
  replace l5 := s5.lt
  replace f6 := s6.two
  replace l6 := s6.lt
  replace f7 := s7.two
  replace l7 := s7.lt
  replace zhB := hB.size
  clear hb
  go_wp2_with fail
  refine (rsub_any _ _ _ _ _ p1 p2 p3 p4 q1 q2 q3 q4).mono ?_
  rintro e w7 ⟨eh, el, n1, n2, n3, n4, hS, rfl, hb⟩
  have HT := Lib.hid (hS.trans HD.out.symm)
  clear hS
  obtain rfl : eh = dh := (pair_eq n3 n4 m3 m4 HT.out).1
  obtain rfl : el = dl := (pair_eq n3 n4 m3 m4 HT.out).2
  clear HT
  replace s1 : At w7 (w.heap.size) _ _ := At.below (by repeat (first | with_reducible assumption | (with_reducible apply At.new'; (first | with_reducible rfl | (simp; done))) | with_reducible apply At.set2 | with_reducible apply At.alloc | with_reducible apply At.drew | (with_reducible apply At.set_other; (case hne => first | (simp; done) | (simp; omega))))) hb
  replace s2 : At w7 (w.heap.size + 1) _ _ := At.below (by repeat (first | with_reducible assumption | (with_reducible apply At.new'; (first | with_reducible rfl | (simp; done))) | with_reducible apply At.set2 | with_reducible apply At.alloc | with_reducible apply At.drew | (with_reducible apply At.set_other; (case hne => first | (simp; done) | (simp; omega))))) hb
  replace s3 : At w7 (w.heap.size + 1 + 1) _ _ := At.below (by repeat (first | with_reducible assumption | (with_reducible apply At.new'; (first | with_reducible rfl | (simp; done))) | with_reducible apply At.set2 | with_reducible apply At.alloc | with_reducible apply At.drew | (with_reducible apply At.set_other; (case hne => first | (simp; done) | (simp; omega))))) hb
  replace s4 : At w7 (w2.heap.size) _ _ := At.below (by repeat (first | with_reducible assumption | (with_reducible apply At.new'; (first | with_reducible rfl | (simp; done))) | with_reducible apply At.set2 | with_reducible apply At.alloc | with_reducible apply At.drew | (with_reducible apply At.set_other; (case hne => first | (simp; done) | (simp; omega))))) hb
  replace s5 : At w7 (w3.heap.size) _ _ := At.below (by repeat (first | with_reducible assumption | (with_reducible apply At.new'; (first | with_reducible rfl | (simp; done))) | with_reducible apply At.set2 | with_reducible apply At.alloc | with_reducible apply At.drew | (with_reducible apply At.set_other; (case hne => first | (simp; done) | (simp; omega))))) hb
  replace s6 : At w7 (w4.heap.size) _ _ := At.below (by repeat (first | with_reducible assumption | (with_reducible apply At.new'; (first | with_reducible rfl | (simp; done))) | with_reducible apply At.set2 | with_reducible apply At.alloc | with_reducible apply At.drew | (with_reducible apply At.set_other; (case hne => first | (simp; done) | (simp; omega))))) hb
  replace s7 : At w7 (w5.heap.size) _ _ := At.below (by repeat (first | with_reducible assumption | (with_reducible apply At.new'; (first | with_reducible rfl | (simp; done))) | with_reducible apply At.set2 | with_reducible apply At.alloc | with_reducible apply At.drew | (with_reducible apply At.set_other; (case hne => first | (simp; done) | (simp; omega))))) hb
  replace s8 : At w7 (w6.heap.size) _ _ := At.below (by repeat (first | with_reducible assumption | (with_reducible apply At.new'; (first | with_reducible rfl | (simp; done))) | with_reducible apply At.set2 | with_reducible apply At.alloc | with_reducible apply At.drew | (with_reducible apply At.set_other; (case hne => first | (simp; done) | (simp; omega))))) hb
  replace hB : Below w.heap.size w w7 := Below.trans (by repeat (first | with_reducible assumption | with_reducible exact Below.refl _ _ | with_reducible refine Below.drew ?_ | with_reducible refine Below.setCell ?_ (by first | omega | (simp; done) | (simp; omega)) _ | with_reducible refine Below.alloc ?_ (by first | omega | (simp; done) | (simp; omega) | (simp [World.setCell]; omega)) _)) (hb.mono (by first | omega | (simp; done) | (simp; omega) | (simp [World.setCell]; omega)))
  replace f1 := s1.two
  replace l1 := s1.lt
  replace f2 := s2.two
  replace l2 := s2.lt
  replace f3 := s3.two
  replace l3 := s3.lt
  replace f4 := s4.two
  replace l4 := s4.lt
  replace f5 := s5.two
  replace l5 := s5.lt
  replace f6 := s6.two
  replace l6 := s6.lt
  replace f7 := s7.two
  replace l7 := s7.lt
  replace f8 := s8.two
  replace l8 := s8.lt
  replace zhB := hB.size
  clear hb
  go_wp2_with fail
  refine (compare_any _ _ _ _ _ p1 p2 p3 p4 q1 q2 q3 q4).mono ?_
  rintro e w8 ⟨rfl, hb⟩
  replace s1 : At w8 (w.heap.size) _ _ := At.below (by repeat (first | with_reducible assumption | (with_reducible apply At.new'; (first | with_reducible rfl | (simp; done))) | with_reducible apply At.set2 | with_reducible apply At.alloc | with_reducible apply At.drew | (with_reducible apply At.set_other; (case hne => first | (simp; done) | (simp; omega))))) hb
  replace s2 : At w8 (w.heap.size + 1) _ _ := At.below (by repeat (first | with_reducible assumption | (with_reducible apply At.new'; (first | with_reducible rfl | (simp; done))) | with_reducible apply At.set2 | with_reducible apply At.alloc | with_reducible apply At.drew | (with_reducible apply At.set_other; (case hne => first | (simp; done) | (simp; omega))))) hb
  replace s3 : At w8 (w.heap.size + 1 + 1) _ _ := At.below (by repeat (first | with_reducible assumption | (with_reducible apply At.new'; (first | with_reducible rfl | (simp; done))) | with_reducible apply At.set2 | with_reducible apply At.alloc | with_reducible apply At.drew | (with_reducible apply At.set_other; (case hne => first | (simp; done) | (simp; omega))))) hb
  replace s4 : At w8 (w2.heap.size) _ _ := At.below (by repeat (first | with_reducible assumption | (with_reducible apply At.new'; (first | with_reducible rfl | (simp; done))) | with_reducible apply At.set2 | with_reducible apply At.alloc | with_reducible apply At.drew | (with_reducible apply At.set_other; (case hne => first | (simp; done) | (simp; omega))))) hb
  replace s5 : At w8 (w3.heap.size) _ _ := At.below (by repeat (first | with_reducible assumption | (with_reducible apply At.new'; (first | with_reducible rfl | (simp; done))) | with_reducible apply At.set2 | with_reducible apply At.alloc | with_reducible apply At.drew | (with_reducible apply At.set_other; (case hne => first | (simp; done) | (simp; omega))))) hb
  replace s6 : At w8 (w4.heap.size) _ _ := At.below (by repeat (first | with_reducible assumption | (with_reducible apply At.new'; (first | with_reducible rfl | (simp; done))) | with_reducible apply At.set2 | with_reducible apply At.alloc | with_reducible apply At.drew | (with_reducible apply At.set_other; (case hne => first | (simp; done) | (simp; omega))))) hb
  replace s7 : At w8 (w5.heap.size) _ _ := At.below (by repeat (first | with_reducible assumption | (with_reducible apply At.new'; (first | with_reducible rfl | (simp; done))) | with_reducible apply At.set2 | with_reducible apply At.alloc | with_reducible apply At.drew | (with_reducible apply At.set_other; (case hne => first | (simp; done) | (simp; omega))))) hb
  replace s8 : At w8 (w6.heap.size) _ _ := At.below (by repeat (first | with_reducible assumption | (with_reducible apply At.new'; (first | with_reducible rfl | (simp; done))) | with_reducible apply At.set2 | with_reducible apply At.alloc | with_reducible apply At.drew | (with_reducible apply At.set_other; (case hne => first | (simp; done) | (simp; omega))))) hb
  replace s9 : At w8 (w7.heap.size) _ _ := At.below (by repeat (first | with_reducible assumption | (with_reducible apply At.new'; (first | with_reducible rfl | (simp; done))) | with_reducible apply At.set2 | with_reducible apply At.alloc | with_reducible apply At.drew | (with_reducible apply At.set_other; (case hne => first | (simp; done) | (simp; omega))))) hb
  replace hB : Below w.heap.size w w8 := Below.trans (by repeat (first | with_reducible assumption | with_reducible exact Below.refl _ _ | with_reducible refine Below.drew ?_ | with_reducible refine Below.setCell ?_ (by first | omega | (simp; done) | (simp; omega)) _ | with_reducible refine Below.alloc ?_ (by first | omega | (simp; done) | (simp; omega) | (simp [World.setCell]; omega)) _)) (hb.mono (by first | omega | (simp; done) | (simp; omega) | (simp [World.setCell]; omega)))
  replace f1 := s1.two
  replace l1 := s1.lt
  replace f2 := s2.two
  replace l2 := s2.lt
  replace f3 := s3.two
  replace l3 := s3.lt
  replace f4 := s4.two
  replace l4 := s4.lt
  replace f5 := s5.two
  replace l5 := s5.lt
  replace f6 := s6.two
  replace l6 := s6.lt
  replace f7 := s7.two
  replace l7 := s7.lt
  replace f8 := s8.two
  replace l8 := s8.lt
  replace f9 := s9.two
  replace l9 := s9.lt
  replace zhB := hB.size
  clear hb
  go_wp2
  rw [HS.out]
  generalize addO (a0 * 18446744073709551616 + a1 + (b0 * 18446744073709551616 + b1)) = o1
  generalize addO (addQ (a0 * 18446744073709551616 + a1 + (b0 * 18446744073709551616 + b1)) + (c0 * 18446744073709551616 + c1)) = o2
  clear HS HX HD f1 f2 f3 f4 f5 f6 f7 f8 f9 s3
  simp only [List.append_eq, List.cons_append, List.nil_append]
  obtain ⟨n, hn⟩ : ∃ n, cmpI (a0 * 18446744073709551616 + a1) (b0 * 18446744073709551616 + b1) = n := ⟨_, rfl⟩
  obtain ⟨m, hm⟩ : ∃ m, cmpI (b0 * 18446744073709551616 + b1) (a0 * 18446744073709551616 + a1) = m := ⟨_, rfl⟩
  obtain ⟨L, hL⟩ : ∃ L, decide (a0 * 18446744073709551616 + a1 < b0 * 18446744073709551616 + b1) = L := ⟨_, rfl⟩
  obtain ⟨g1, g2, g3⟩ := sums_signs hn hm hL
  rw [hn]
  have HM := Lib.hid hm
  have HL := Lib.hid hL
  clear hn hm hL
  have hcase : (a0 = b0 ∧ a1 = b1 ∧ (n == 0) = true) ∨ (a0 = b0 ∧ (a1 == b1) = false ∧ a1 ≠ b1 ∧ (n == 0) = false) ∨ ((a0 == b0) = false ∧ a0 ≠ b0 ∧ (n == 0) = false) := by
    rcases Int.lt_trichotomy n 0 with h | h | h <;> by_cases e0 : a0 = b0 <;> by_cases e1 : a1 = b1 <;> simp [e0, e1] <;> omega
  clear g3
  rcases hcase with ⟨rfl, rfl, z⟩ | ⟨rfl, x1, x2, z⟩ | ⟨x1, x2, z⟩ <;> cases o1
  all_goals simp only [Bool.false_or, Bool.true_or]
  all_goals
    have hfar1 := fun x : Far w8 => (x.at s1).two
    have hfar2 := fun x : Far w8 => (x.at s2).two
    have hfar3 := fun x : Far w8 => (x.at s4).two
    have hfar4 := fun x : Far w8 => (x.at s5).two
    have hfar5 := fun x : Far w8 => (x.at s6).two
    have hfar6 := fun x : Far w8 => (x.at s7).two
    have hfar7 := fun x : Far w8 => (x.at s8).two
    have hfar8 := fun x : Far w8 => (x.at s9).two
    refine wp_region_far (by kernel_rfl) (by kernel_rfl) ?_
    repeat (first | go_big_quiet_skip | (go_big_quiet_want; go_big_quiet_op; first | go_big_quiet_on | (apply Exists.intro; refine ⟨fun _ => ?_, ?_⟩; (focus (first | (go_at_call 24; refine far_of (v := .bool L) ?_; rw [← HL.out]; exact rless_any _ _ _ _ _ (by assumption) (by assumption) (by assumption) (by assumption) (by assumption) (by assumption) (by assumption) (by assumption)) | (go_at_call 23; refine far_of (v := .int .i64 m) ?_; rw [← HM.out]; exact compare_any _ _ _ _ _ (by assumption) (by assumption) (by assumption) (by assumption) (by assumption) (by assumption) (by assumption) (by assumption)) | (go_at_call 25; exact far_of (times_div _ _ _ (by assumption) (by assumption) (by assumption) (by assumption))) | (go_at_call 12; exact far_of (rtimes_div _ _ _ (by assumption) (by assumption) (by assumption) (by assumption))))); go_big_quiet_on)))
    refine wpQuiet_nil ?_
    rintro _ ⟨xq, rfl⟩
    clear hfar1 hfar2 hfar3 hfar4 hfar5 hfar6 hfar7 hfar8
    go_wp2
    go_ret
    exact ⟨by first | rfl | simp, keep1 hB xq.below⟩
end Go.Proofs.Ythbkgahflmgmnaa

