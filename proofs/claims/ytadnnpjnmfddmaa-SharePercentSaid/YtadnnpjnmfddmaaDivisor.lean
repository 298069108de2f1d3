/- Contracts of package share: Divisor, Least. -/
import Derived.Test.YtadnnpjnmfddmaaProg
import Derived.Test.YtadnnpjnmfddmaaShare
namespace Go.Proofs.Ytadnnpjnmfddmaa
open Go.RowKit

theorem gcd_mod (a b : Nat) : Nat.gcd b (a % b) = Nat.gcd a b := by
  rw [Nat.gcd_comm b (a % b), ← Nat.gcd_rec, Nat.gcd_comm]

set_option maxRecDepth 100000 in
theorem divisor_any (a b : Nat) (w : World) (ha : a < 18446744073709551616) (hb : b < 18446744073709551616) :
    Calls Try.prog 18 #[.int .u64 a, .int .u64 b] w fun e w' => e = .returned (.int .u64 (Nat.gcd a b : Nat)) ∧ Below w.heap.size w w' := by
  go_enter Try.func18, Try.ntmps18
  go_wp2
  refine wp_scope_jumps 0 (fun a' w' => ∃ (x y : Nat) (u2 u3 u4 u5 u6 u7 u8 u9 u10 u11 : Value), a' = { tmps := #[.int .u64 x, .int .u64 y, u2, u3, u4, u5, u6, u7, u8, u9, u10, u11], defers := [] } ∧ x < 18446744073709551616 ∧ y < 18446744073709551616 ∧ Nat.gcd x y = Nat.gcd a b ∧ Below w.heap.size w w')
    (fun a' _ => (intOf (a'.tmps.getD 1 undef)).toNat) rfl ?_ ?_
  · by_cases h0 : b = 0
    · subst h0
      go_wp2
      go_step3
      go_wp2
      simp only [Exit.jump]
      go_ret
      exact ⟨by rw [Nat.gcd_zero_right]; rfl, Below.refl _ _⟩
    · have h0' : ((b : Int) == 0) = false := beq_eq_false_iff_ne.2 (by omega)
      have h0'' : ¬ ((b : Int) = 0) := by omega
      have hm : (a : Int).tmod b = (a % b : Nat) := by rw [Int.ofNat_tmod]
      have hl := Nat.mod_lt a (show 0 < b by omega)
      go_wp2
      go_step3
      go_wp2
      go_quiet (fail)
      go_wp2
      go_step3
      exact ⟨rfl, b, a % b, _, _, _, _, _, _, _, _, _, _, rfl, hb, by omega, gcd_mod a b, (Below.refl _ _).drewN _⟩
  · rintro a' w' ⟨x, y, u2, u3, u4, u5, u6, u7, u8, u9, u10, u11, rfl, hx, hy, hg, hB⟩
    by_cases h0 : y = 0
    · subst h0
      have hg' := Lib.hid hg
      go_wp2
      simp only [Exit.jump]
      go_ret
      exact ⟨by rw [← hg'.out, Nat.gcd_zero_right]; rfl, hB⟩
    · have h0' : ((y : Int) == 0) = false := beq_eq_false_iff_ne.2 (by omega)
      have h0'' : ¬ ((y : Int) = 0) := by omega
      have hm : (x : Int).tmod y = (x % y : Nat) := by rw [Int.ofNat_tmod]
      have hl := Nat.mod_lt x (show 0 < y by omega)
      go_wp2
      go_quiet (fail)
      go_wp2
      go_step3
      refine ⟨rfl, ⟨y, x % y, _, _, _, _, _, _, _, _, _, _, rfl, hy, by omega, (gcd_mod x y).trans hg, hB.drewN _⟩, ?_⟩
      show (intOf (.int .u64 ((x % y : Nat) : Int))).toNat < (intOf (.int .u64 (y : Int))).toNat
      simp only [intOf, Int.toNat_natCast]
      exact hl

/-- A fraction in its least numbers. -/
def leastF (a b : Nat) : Nat × Nat := if Nat.gcd a b = 0 then (a, b) else (a / Nat.gcd a b, b / Nat.gcd a b)

theorem least_any (a b : Nat) (w : World) (ha : a < 18446744073709551616) (hb : b < 18446744073709551616) :
    Calls Try.prog 19 #[.agg #[.int .u64 a, .int .u64 b]] w fun e w' => e = .returned (.agg #[.int .u64 ((leastF a b).1 : Nat), .int .u64 ((leastF a b).2 : Nat)]) ∧ Below w.heap.size w w' := by
  go_enter Try.func19, Try.ntmps19
  go_wp2_with fail
  refine (divisor_any a b _ ha hb).mono ?_
  rintro e w1 ⟨rfl, hb1⟩
  have s1 : At w1 w.heap.size #[.int .u64 a, .int .u64 b] 24 := At.below ((At.new' _ _ _ rfl).alloc _) hb1
  have s2 : At w1 (w.heap.size + 1) #[.int .u64 0, .int .u64 0] 24 := At.below (At.new' _ _ _ (by simp)) hb1
  have hB : Below w.heap.size w w1 := Below.trans (by repeat (first | with_reducible assumption | with_reducible exact Below.refl _ _ | with_reducible refine Below.drew ?_ | with_reducible refine Below.drewN ?_ _ | with_reducible refine Below.setCell ?_ (by first | omega | (simp; done) | (simp; omega)) _ | with_reducible refine Below.alloc ?_ (by first | omega | (simp; done) | (simp; omega) | (simp [World.setCell]; omega)) _)) (hb1.mono (by first | omega | (simp; done) | (simp; omega) | (simp [World.setCell]; omega)))
  have f1 := s1.two
  have f2 := s2.two
  have l2 := s2.lt
  obtain ⟨d, hd⟩ : ∃ d, Nat.gcd a b = d := ⟨_, rfl⟩
  rw [hd]
  have HL : Hid (leastF a b = if d = 0 then (a, b) else (a / d, b / d)) := by show _ = _; unfold leastF; rw [hd]
  clear hd hb1
  by_cases h0 : d = 0
  · subst h0
    go_wp2
    have d2 := (s2.set2 (.int .u64 a) (.int .u64 b)).two
    refine bodyPost_ret (v := .agg #[.int .u64 a, .int .u64 b]) (by simp [results, Try.f19, go_sem, d2]) rfl ⟨by rw [HL.out]; rfl, (by repeat (first | with_reducible assumption | with_reducible exact Below.refl _ _ | with_reducible refine Below.drew ?_ | with_reducible refine Below.drewN ?_ _ | with_reducible refine Below.setCell ?_ (by first | omega | (simp; done) | (simp; omega)) _ | with_reducible refine Below.alloc ?_ (by first | omega | (simp; done) | (simp; omega) | (simp [World.setCell]; omega)) _))⟩
  · have h0' : ((d : Int) == 0) = false := beq_eq_false_iff_ne.2 (by omega)
    have h0'' : ¬ ((d : Int) = 0) := by omega
    have t1 : (a : Int).tdiv d = (a / d : Nat) := by rw [Int.ofNat_tdiv]
    have t2 : (b : Int).tdiv d = (b / d : Nat) := by rw [Int.ofNat_tdiv]
    have hd0 : (0 : Int) < d := by omega
    have HL2 : Hid (leastF a b = (a / d, b / d)) := by show _ = _; rw [HL.out, if_neg h0]
    clear HL
    go_wp2
    go_region
    all_goals
      go_wp2
      have q1 := Nat.div_le_self a d
      have q2 := Nat.div_le_self b d
      obtain ⟨qa, hqa⟩ : ∃ q : Nat, a / d = q := ⟨_, rfl⟩
      obtain ⟨qb, hqb⟩ : ∃ q : Nat, b / d = q := ⟨_, rfl⟩
      have r1 : (a : Int) / d = (qa : Int) := by rw [← hqa]; rfl
      have r2 : (b : Int) / d = (qb : Int) := by rw [← hqb]; rfl
      rw [hqa, hqb] at HL2
      rw [hqa] at q1
      rw [hqb] at q2
      have e1 : IntKind.u64.wrap (qa : Int) = qa := by simp only [IntKind.wrap_u64]; omega
      have e2 : IntKind.u64.wrap (qb : Int) = qb := by simp only [IntKind.wrap_u64]; omega
      rw [r1, r2, e1, e2]
      have d2 := ((s2.set2 (.int .u64 qa) (.int .u64 qb)).drew).two
      refine bodyPost_ret (v := .agg #[.int .u64 qa, .int .u64 qb]) (by simp only [results, Try.f19]; simp [go_sem, d2]) rfl ⟨by rw [HL2.out], (by repeat (first | with_reducible assumption | with_reducible exact Below.refl _ _ | with_reducible refine Below.drew ?_ | with_reducible refine Below.drewN ?_ _ | with_reducible refine Below.setCell ?_ (by first | omega | (simp; done) | (simp; omega)) _ | with_reducible refine Below.alloc ?_ (by first | omega | (simp; done) | (simp; omega) | (simp [World.setCell]; omega)) _))⟩
end Go.Proofs.Ytadnnpjnmfddmaa

