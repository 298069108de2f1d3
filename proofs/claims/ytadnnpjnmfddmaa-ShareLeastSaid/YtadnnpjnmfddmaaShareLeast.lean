/- The walk of the statement ShareLeast. -/
import Derived.Test.YtadnnpjnmfddmaaProg
import Derived.Test.YtadnnpjnmfddmaaOpen
import Derived.Test.YtadnnpjnmfddmaaAlive03
import Derived.Test.YtadnnpjnmfddmaaDivisor
namespace Go.Proofs.Ytadnnpjnmfddmaa
open Go.RowKit

set_option maxRecDepth 100000 in
set_option maxHeartbeats 2000000 in
theorem shareLeast_walk (w : World) (p0 p1 : Int) (bdp0 : 0 ≤ p0 ∧ p0 < 18446744073709551616) (bdp1 : 0 ≤ p1 ∧ p1 < 18446744073709551616) (k : Int) (bdk : 0 ≤ k ∧ k < 18446744073709551616) :
    Calls Try.prog 7 #[.agg #[.int .u64 p0, .int .u64 p1], .int .u64 k] w fun e w' => e = .returned (.bool true) ∧ Below w.heap.size w w' := by
  obtain ⟨h1, h2⟩ := bdp0
  obtain ⟨h3, h4⟩ := bdp1
  obtain ⟨h5, h6⟩ := bdk
  obtain ⟨a, rfl⟩ := Int.eq_ofNat_of_zero_le h1
  obtain ⟨b, rfl⟩ := Int.eq_ofNat_of_zero_le h3
  obtain ⟨c, rfl⟩ := Int.eq_ofNat_of_zero_le h5
  have ha : a < 18446744073709551616 := by omega
  have hb : b < 18446744073709551616 := by omega
  go_enter Try.func7, Try.ntmps7
  go_wp2_with fail
  refine (alive_any _).mono ?_
  rintro e w1 ⟨rfl, hb1⟩
  have s1 : At w1 w.heap.size #[.int .u64 a, .int .u64 b] 24 := At.below (At.new' _ _ _ rfl) hb1
  have hB : Below w.heap.size w w1 := Below.trans (by repeat (first | with_reducible assumption | with_reducible exact Below.refl _ _ | with_reducible refine Below.drew ?_ | with_reducible refine Below.drewN ?_ _ | with_reducible refine Below.setCell ?_ (by first | omega | (simp; done) | (simp; omega)) _ | with_reducible refine Below.alloc ?_ (by first | omega | (simp; done) | (simp; omega) | (simp [World.setCell]; omega)) _)) (hb1.mono (by first | omega | (simp; done) | (simp; omega) | (simp [World.setCell]; omega)))
  have f1 := s1.two
  have zhB := hB.size
  have l1 := s1.lt
  clear hb1
  go_wp2_with fail
  refine (divisor_any a b _ ha hb).mono ?_
  rintro e w2 ⟨rfl, hb'⟩
  replace s1 : At w2 (w.heap.size) _ _ := At.below (by repeat (first | with_reducible assumption | (with_reducible apply At.new'; (first | with_reducible rfl | (simp; done))) | with_reducible apply At.set2 | with_reducible apply At.alloc | with_reducible apply At.drew | with_reducible apply At.drewN | (with_reducible apply At.set_other; (case hne => first | (simp; done) | (simp; omega))))) hb'
  replace hB : Below w.heap.size w w2 := Below.trans (by repeat (first | with_reducible assumption | with_reducible exact Below.refl _ _ | with_reducible refine Below.drew ?_ | with_reducible refine Below.drewN ?_ _ | with_reducible refine Below.setCell ?_ (by first | omega | (simp; done) | (simp; omega)) _ | with_reducible refine Below.alloc ?_ (by first | omega | (simp; done) | (simp; omega) | (simp [World.setCell]; omega)) _)) (hb'.mono (by first | omega | (simp; done) | (simp; omega) | (simp [World.setCell]; omega)))
  replace f1 := s1.two
  replace l1 := s1.lt
  replace zhB := hB.size
  clear hb'
  go_wp2_with fail
  refine (least_any a b _ ha hb).mono ?_
  rintro e w3 ⟨rfl, hb'⟩
  replace s1 : At w3 (w.heap.size) _ _ := At.below (by repeat (first | with_reducible assumption | (with_reducible apply At.new'; (first | with_reducible rfl | (simp; done))) | with_reducible apply At.set2 | with_reducible apply At.alloc | with_reducible apply At.drew | with_reducible apply At.drewN | (with_reducible apply At.set_other; (case hne => first | (simp; done) | (simp; omega))))) hb'
  replace hB : Below w.heap.size w w3 := Below.trans (by repeat (first | with_reducible assumption | with_reducible exact Below.refl _ _ | with_reducible refine Below.drew ?_ | with_reducible refine Below.drewN ?_ _ | with_reducible refine Below.setCell ?_ (by first | omega | (simp; done) | (simp; omega)) _ | with_reducible refine Below.alloc ?_ (by first | omega | (simp; done) | (simp; omega) | (simp [World.setCell]; omega)) _)) (hb'.mono (by first | omega | (simp; done) | (simp; omega) | (simp [World.setCell]; omega)))
  replace f1 := s1.two
  replace l1 := s1.lt
  replace zhB := hB.size
  clear hb'
  obtain ⟨D, hD⟩ : ∃ D, Nat.gcd a b = D := ⟨_, rfl⟩
  have HL : Hid (leastF a b = if D = 0 then (a, b) else (a / D, b / D)) := by show _ = _; unfold leastF; rw [hD]
  rw [hD]
  by_cases h0 : D = 0
  · obtain ⟨rfl, rfl⟩ : a = 0 ∧ b = 0 := Nat.gcd_eq_zero_iff.1 (hD.trans h0)
    subst h0
    rw [HL.out, if_pos rfl]
    clear HL hD
    dsimp only
    go_wp2
    go_ret
    exact ⟨by first | rfl | simp, (by repeat (first | with_reducible assumption | with_reducible exact Below.refl _ _ | with_reducible refine Below.drew ?_ | with_reducible refine Below.drewN ?_ _ | with_reducible refine Below.setCell ?_ (by first | omega | (simp; done) | (simp; omega)) _ | with_reducible refine Below.alloc ?_ (by first | omega | (simp; done) | (simp; omega) | (simp [World.setCell]; omega)) _))⟩
  · have hDp : 0 < D := by omega
    have ea : D ∣ a := hD ▸ Nat.gcd_dvd_left a b
    have eb : D ∣ b := hD ▸ Nat.gcd_dvd_right a b
    obtain ⟨x, rfl⟩ := ea
    obtain ⟨y, rfl⟩ := eb
    rw [HL.out, if_neg h0, Nat.mul_div_cancel_left _ hDp, Nat.mul_div_cancel_left _ hDp]
    have hg1 : Nat.gcd x y = 1 := by
      rw [Nat.gcd_mul_left] at hD
      exact Nat.eq_of_mul_eq_mul_left hDp (by omega)
    have hdv : ∀ k : Nat, k ∣ D * x → k ∣ D * y → k ∣ D := fun k h h' => hD ▸ Nat.dvd_gcd h h'
    have hab : ¬ (D * x = 0 ∧ D * y = 0) := by
      rintro ⟨z1, z2⟩
      rcases Nat.mul_eq_zero.1 z1 with z | rfl
      · omega
      · rcases Nat.mul_eq_zero.1 z2 with z | rfl
        · omega
        · simp at hg1
    have hx : x ≤ D * x := Nat.le_mul_of_pos_left x hDp
    have hy : y ≤ D * y := Nat.le_mul_of_pos_left y hDp
    have hDm : D ≤ D * x ∨ D ≤ D * y := by
      rcases Nat.eq_zero_or_pos x with rfl | z
      · rcases Nat.eq_zero_or_pos y with rfl | z
        · simp at hg1
        · exact .inr (Nat.le_mul_of_pos_right D z)
      · exact .inl (Nat.le_mul_of_pos_right D z)
    have mx : (D * x) % D = 0 := Nat.mul_mod_right D x
    have my : (D * y) % D = 0 := Nat.mul_mod_right D y
    have ex : (x : Int) * D = (D * x : Nat) := by rw [Int.natCast_mul, Int.mul_comm]
    have ey : (y : Int) * D = (D * y : Nat) := by rw [Int.natCast_mul, Int.mul_comm]
    clear HL hD
    generalize D * x = a at *
    generalize D * y = b at *
    have v1 : IntKind.u64.wrap ((x : Int) * D) = a := by rw [ex]; simp only [IntKind.wrap_u64]; omega
    have v2 : IntKind.u64.wrap ((y : Int) * D) = b := by rw [ey]; simp only [IntKind.wrap_u64]; omega
    have m1 : (a : Int) % D = 0 := by omega
    have m2 : (b : Int) % D = 0 := by omega
    have d0 : ((D : Int) == 0) = false := beq_eq_false_iff_ne.2 (by omega)
    have d0' : ¬ ((D : Int) = 0) := by omega
    replace hg1 := Lib.hid hg1
    replace hdv := Lib.hid hdv
    have s2 := At.new w3 #[.int .u64 x, .int .u64 y] 24
    clear ex ey mx my
    by_cases a0 : a = 0
    · subst a0
      have b0 : ((b : Int) == 0) = false := beq_eq_false_iff_ne.2 (by omega)
      go_wp2_with fail
      refine (divisor_any x y _ (by omega) (by omega)).mono ?_
      rintro e w4 ⟨rfl, hb'⟩
      rw [hg1.out]
      replace s1 : At w4 (w.heap.size) _ _ := At.below (by repeat (first | with_reducible assumption | (with_reducible apply At.new'; (first | with_reducible rfl | (simp; done))) | with_reducible apply At.set2 | with_reducible apply At.alloc | with_reducible apply At.drew | with_reducible apply At.drewN | (with_reducible apply At.set_other; (case hne => first | (simp; done) | (simp; omega))))) hb'
      replace s2 : At w4 (w3.heap.size) _ _ := At.below (by repeat (first | with_reducible assumption | (with_reducible apply At.new'; (first | with_reducible rfl | (simp; done))) | with_reducible apply At.set2 | with_reducible apply At.alloc | with_reducible apply At.drew | with_reducible apply At.drewN | (with_reducible apply At.set_other; (case hne => first | (simp; done) | (simp; omega))))) hb'
      replace hB : Below w.heap.size w w4 := Below.trans (by repeat (first | with_reducible assumption | with_reducible exact Below.refl _ _ | with_reducible refine Below.drew ?_ | with_reducible refine Below.drewN ?_ _ | with_reducible refine Below.setCell ?_ (by first | omega | (simp; done) | (simp; omega)) _ | with_reducible refine Below.alloc ?_ (by first | omega | (simp; done) | (simp; omega) | (simp [World.setCell]; omega)) _)) (hb'.mono (by first | omega | (simp; done) | (simp; omega) | (simp [World.setCell]; omega)))
      replace f1 := s1.two
      replace l1 := s1.lt
      replace f2 := s2.two
      replace l2 := s2.lt
      replace zhB := hB.size
      clear hb'
      by_cases c0 : c = 0
      · subst c0
        go_wp2
        go_ret
        exact ⟨by first | rfl | simp, hB⟩
      have c0' : ((c : Int) == 0) = false := beq_eq_false_iff_ne.2 (by omega)
      have c0'' : ¬ ((c : Int) = 0) := by omega
      have c1' : (0 : Int) % c = 0 := Int.zero_emod _
      by_cases c2 : b % c = 0
      · have c2' : (b : Int) % c = 0 := by omega
        have c3' : (D : Int) % c = 0 := by
          have := Nat.mod_eq_zero_of_dvd (hdv.out c (Nat.dvd_zero _) (Nat.dvd_of_mod_eq_zero c2))
          omega
        go_wp2
        go_ret
        exact ⟨by first | rfl | simp, hB⟩
      · obtain ⟨r, hr⟩ : ∃ r : Int, (b : Int) % c = r := ⟨_, rfl⟩
        have r0 : ¬ (r = 0) := by omega
        clear c2
        go_wp2
        go_ret
        exact ⟨by first | rfl | simp, hB⟩
    · have a0' : ((a : Int) == 0) = false := beq_eq_false_iff_ne.2 (by omega)
      go_wp2_with fail
      refine (divisor_any x y _ (by omega) (by omega)).mono ?_
      rintro e w4 ⟨rfl, hb'⟩
      rw [hg1.out]
      replace s1 : At w4 (w.heap.size) _ _ := At.below (by repeat (first | with_reducible assumption | (with_reducible apply At.new'; (first | with_reducible rfl | (simp; done))) | with_reducible apply At.set2 | with_reducible apply At.alloc | with_reducible apply At.drew | with_reducible apply At.drewN | (with_reducible apply At.set_other; (case hne => first | (simp; done) | (simp; omega))))) hb'
      replace s2 : At w4 (w3.heap.size) _ _ := At.below (by repeat (first | with_reducible assumption | (with_reducible apply At.new'; (first | with_reducible rfl | (simp; done))) | with_reducible apply At.set2 | with_reducible apply At.alloc | with_reducible apply At.drew | with_reducible apply At.drewN | (with_reducible apply At.set_other; (case hne => first | (simp; done) | (simp; omega))))) hb'
      replace hB : Below w.heap.size w w4 := Below.trans (by repeat (first | with_reducible assumption | with_reducible exact Below.refl _ _ | with_reducible refine Below.drew ?_ | with_reducible refine Below.drewN ?_ _ | with_reducible refine Below.setCell ?_ (by first | omega | (simp; done) | (simp; omega)) _ | with_reducible refine Below.alloc ?_ (by first | omega | (simp; done) | (simp; omega) | (simp [World.setCell]; omega)) _)) (hb'.mono (by first | omega | (simp; done) | (simp; omega) | (simp [World.setCell]; omega)))
      replace f1 := s1.two
      replace l1 := s1.lt
      replace f2 := s2.two
      replace l2 := s2.lt
      replace zhB := hB.size
      clear hb'
      by_cases c0 : c = 0
      · subst c0
        go_wp2
        go_ret
        exact ⟨by first | rfl | simp, hB⟩
      have c0' : ((c : Int) == 0) = false := beq_eq_false_iff_ne.2 (by omega)
      have c0'' : ¬ ((c : Int) = 0) := by omega
      by_cases c1 : a % c = 0
      · have c1' : (a : Int) % c = 0 := by omega
        by_cases c2 : b % c = 0
        · have c2' : (b : Int) % c = 0 := by omega
          have c3' : (D : Int) % c = 0 := by
            have := Nat.mod_eq_zero_of_dvd (hdv.out c (Nat.dvd_of_mod_eq_zero c1) (Nat.dvd_of_mod_eq_zero c2))
            omega
          go_wp2
          go_ret
          exact ⟨by first | rfl | simp, hB⟩
        · obtain ⟨r, hr⟩ : ∃ r : Int, (b : Int) % c = r := ⟨_, rfl⟩
          have r0 : ¬ (r = 0) := by omega
          clear c2
          go_wp2
          go_ret
          exact ⟨by first | rfl | simp, hB⟩
      · obtain ⟨r, hr⟩ : ∃ r : Int, (a : Int) % c = r := ⟨_, rfl⟩
        have r0 : ¬ (r = 0) := by omega
        clear c1
        go_wp2
        go_ret
        exact ⟨by first | rfl | simp, hB⟩
end Go.Proofs.Ytadnnpjnmfddmaa

