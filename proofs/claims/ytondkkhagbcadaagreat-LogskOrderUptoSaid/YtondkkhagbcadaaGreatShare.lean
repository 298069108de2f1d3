/- Contracts of package share, and of the document's: Good, Place, Divisor, Least. -/
import Derived.Test.YtondkkhagbcadaaGreatProg
import Derived.Test.YtondkkhagbcadaaGreatBase
import Derived.Test.YtondkkhagbcadaaGreatWideAll
import Derived.Test.YtondkkhagbcadaaGreatRefOne
import Derived.ScopeJumps
namespace Go.Proofs.YtondkkhagbcadaaGreat
open Go.RowKit

/-- Can a part be? -/
def goodF (n d : Int) : Bool := decide (0 < d ∧ n ≤ d)

theorem sgood_any (n d : Int) (w : World) (h1 : 0 ≤ n) (h2 : n < 18446744073709551616) (h3 : 0 ≤ d) (h4 : d < 18446744073709551616) :
    Calls Tryz.prog 54 #[.agg #[.int .u64 n, .int .u64 d]] w fun e w' => e = .returned (.bool (goodF n d)) ∧ Below w.heap.size w w' := by
  have HG : Hid (goodF n d = decide (0 < d ∧ n ≤ d)) := rfl
  by_cases hd : 0 < d
  · go_enter Tryz.func54, Tryz.ntmps54
    go_wp2
    go_ret
    exact ⟨by rw [HG.out]; simp [hd], (by repeat (first | with_reducible assumption | with_reducible exact Below.refl _ _ | with_reducible refine Below.drew ?_ | with_reducible refine Below.drewN ?_ _ | with_reducible refine Below.setCell ?_ (by first | omega | (simp; done) | (simp; omega)) _ | with_reducible refine Below.alloc ?_ (by first | omega | (simp; done) | (simp; omega) | (simp [World.setCell]; omega)) _))⟩
  · go_enter Tryz.func54, Tryz.ntmps54
    go_wp2
    go_ret
    exact ⟨by rw [HG.out]; simp; omega, (by repeat (first | with_reducible assumption | with_reducible exact Below.refl _ _ | with_reducible refine Below.drew ?_ | with_reducible refine Below.drewN ?_ _ | with_reducible refine Below.setCell ?_ (by first | omega | (simp; done) | (simp; omega)) _ | with_reducible refine Below.alloc ?_ (by first | omega | (simp; done) | (simp; omega) | (simp [World.setCell]; omega)) _))⟩
theorem rgood_any (n d : Int) (w : World) (h1 : 0 ≤ n) (h2 : n < 18446744073709551616) (h3 : 0 ≤ d) (h4 : d < 18446744073709551616) :
    Calls Tryz.prog 12 #[.agg #[.int .u64 n, .int .u64 d]] w fun e w' => e = .returned (.bool (goodF n d)) ∧ Below w.heap.size w w' := by
  have HG : Hid (goodF n d = decide (0 < d ∧ n ≤ d)) := rfl
  by_cases hd : d = 0
  · subst hd
    go_enter Tryz.func12, Tryz.ntmps12
    go_wp2
    go_ret
    exact ⟨by rw [HG.out]; simp, (by repeat (first | with_reducible assumption | with_reducible exact Below.refl _ _ | with_reducible refine Below.drew ?_ | with_reducible refine Below.drewN ?_ _ | with_reducible refine Below.setCell ?_ (by first | omega | (simp; done) | (simp; omega)) _ | with_reducible refine Below.alloc ?_ (by first | omega | (simp; done) | (simp; omega) | (simp [World.setCell]; omega)) _))⟩
  · have hd' : (d == 0) = false := beq_eq_false_iff_ne.2 hd
    have hd2 := Lib.hid hd
    by_cases hn : d < n
    · go_enter Tryz.func12, Tryz.ntmps12
      go_wp2
      go_ret
      have hn' : d < n := by assumption
      exact ⟨by rw [HG.out]; simp; omega, (by repeat (first | with_reducible assumption | with_reducible exact Below.refl _ _ | with_reducible refine Below.drew ?_ | with_reducible refine Below.drewN ?_ _ | with_reducible refine Below.setCell ?_ (by first | omega | (simp; done) | (simp; omega)) _ | with_reducible refine Below.alloc ?_ (by first | omega | (simp; done) | (simp; omega) | (simp [World.setCell]; omega)) _))⟩
    · go_enter Tryz.func12, Tryz.ntmps12
      go_wp2
      go_ret
      have hn' : n ≤ d := by assumption
      exact ⟨by rw [HG.out, decide_eq_true (⟨by have := hd2.out; omega, hn'⟩ : 0 < d ∧ n ≤ d)]; first | rfl | (simp; omega), (by repeat (first | with_reducible assumption | with_reducible exact Below.refl _ _ | with_reducible refine Below.drew ?_ | with_reducible refine Below.drewN ?_ _ | with_reducible refine Below.setCell ?_ (by first | omega | (simp; done) | (simp; omega)) _ | with_reducible refine Below.alloc ?_ (by first | omega | (simp; done) | (simp; omega) | (simp [World.setCell]; omega)) _))⟩
/-- Which one is asked for; the error's number. -/
def placeT (a d n : Int) : Int := if goodF a d = true then (if n = 0 then 0 else max (ceilQ (a * n) d) 1) else 0
def placeE (a d n : Int) : Int := if goodF a d = true then (if n = 0 then 5 else 0) else 1
theorem placeT_bd (a d n : Int) (hd : 0 ≤ d) (hn : 0 ≤ n) (ha : 0 ≤ a) : 0 ≤ placeT a d n := by
  unfold placeT
  split
  · split
    · omega
    · omega
  · omega

theorem max_if (x : Int) : (if x < 1 then 1 else x) = max x 1 := by split <;> omega
theorem place_any (a d n : Int) (w : World) (h1 : 0 ≤ a) (h2 : a < 18446744073709551616) (h3 : 0 ≤ d) (h4 : d < 18446744073709551616) (h5 : 0 ≤ n) (h6 : n < 18446744073709551616) :
    Calls Tryz.prog 37 #[.agg #[.int .u64 a, .int .u64 d], .int .u64 n] w fun e w' => e = .returned (.tuple #[.int .u64 (placeT a d n), .int .i64 (placeE a d n)]) ∧ Below w.heap.size w w' := by
  go_enter Tryz.func37, Tryz.ntmps37
  go_wp2_with fail
  refine (sgood_any a d _ h1 h2 h3 h4).mono ?_
  rintro e w1 ⟨rfl, hb⟩
  have s1 : At w1 w.heap.size #[.int .u64 a, .int .u64 d] 24 := At.below (At.new' _ _ _ rfl) hb
  have hB : Below w.heap.size w w1 := Below.trans (by repeat (first | with_reducible assumption | with_reducible exact Below.refl _ _ | with_reducible refine Below.drew ?_ | with_reducible refine Below.drewN ?_ _ | with_reducible refine Below.setCell ?_ (by first | omega | (simp; done) | (simp; omega)) _ | with_reducible refine Below.alloc ?_ (by first | omega | (simp; done) | (simp; omega) | (simp [World.setCell]; omega)) _)) (hb.mono (by first | omega | (simp; done) | (simp; omega) | (simp [World.setCell]; omega)))
  have f1 := s1.two
  have z1 := hB.size
  clear hb
  cases hg : goodF a d
  · have e1 : Hid (placeT a d n = 0) := by show _ = _; unfold placeT; rw [hg]; rfl
    have e2 : Hid (placeE a d n = 1) := by show _ = _; unfold placeE; rw [hg]; rfl
    go_wp2
    go_ret2
    exact ⟨by rw [e1.out, e2.out]; rfl, hB⟩
  · by_cases hn : n = 0
    · have e1 : Hid (placeT a d n = 0) := by show _ = _; unfold placeT; rw [hg, if_pos rfl, if_pos hn]
      have e2 : Hid (placeE a d n = 5) := by show _ = _; unfold placeE; rw [hg, if_pos rfl, if_pos hn]
      subst hn
      go_wp2
      go_ret2
      exact ⟨by rw [e1.out, e2.out]; rfl, hB⟩
    · have e1 : Hid (placeT a d n = max (ceilQ (a * n) d) 1) := by show _ = _; unfold placeT; rw [hg, if_pos rfl, if_neg hn]
      have e2 : Hid (placeE a d n = 0) := by show _ = _; unfold placeE; rw [hg, if_pos rfl, if_neg hn]
      have hn' : (n == 0) = false := beq_eq_false_iff_ne.2 hn
      go_wp2_with fail
      refine (ceil_any a n d _ h1 h2 h5 h6 h3 h4).mono ?_
      rintro e w2 ⟨rfl, hb⟩
      obtain ⟨q, hq⟩ : ∃ q, ceilQ (a * n) d = q := ⟨_, rfl⟩
      rw [hq] at e1 ⊢
      have hm := max_if q
      go_wp2
      go_ret2
      exact ⟨by rw [e1.out, e2.out]; first | rfl | simp, keep1 hB hb⟩
theorem rplace_any (a d n : Int) (w : World) (h1 : 0 ≤ a) (h2 : a < 18446744073709551616) (h3 : 0 ≤ d) (h4 : d < 18446744073709551616) (h5 : 0 ≤ n) (h6 : n < 18446744073709551616) :
    Calls Tryz.prog 13 #[.agg #[.int .u64 a, .int .u64 d], .int .u64 n] w fun e w' => e = .returned (.tuple #[.int .u64 (placeT a d n), .int .i64 (placeE a d n)]) ∧ Below w.heap.size w w' := by
  go_enter Tryz.func13, Tryz.ntmps13
  go_wp2_with fail
  refine (rgood_any a d _ h1 h2 h3 h4).mono ?_
  rintro e w1 ⟨rfl, hb⟩
  have s1 : At w1 w.heap.size #[.int .u64 a, .int .u64 d] 24 := At.below (At.new' _ _ _ rfl) hb
  have hB : Below w.heap.size w w1 := Below.trans (by repeat (first | with_reducible assumption | with_reducible exact Below.refl _ _ | with_reducible refine Below.drew ?_ | with_reducible refine Below.drewN ?_ _ | with_reducible refine Below.setCell ?_ (by first | omega | (simp; done) | (simp; omega)) _ | with_reducible refine Below.alloc ?_ (by first | omega | (simp; done) | (simp; omega) | (simp [World.setCell]; omega)) _)) (hb.mono (by first | omega | (simp; done) | (simp; omega) | (simp [World.setCell]; omega)))
  have f1 := s1.two
  have z1 := hB.size
  clear hb
  cases hg : goodF a d
  · have e1 : Hid (placeT a d n = 0) := by show _ = _; unfold placeT; rw [hg]; rfl
    have e2 : Hid (placeE a d n = 1) := by show _ = _; unfold placeE; rw [hg]; rfl
    go_wp2
    go_ret2
    exact ⟨by rw [e1.out, e2.out]; rfl, hB⟩
  · by_cases hn : n = 0
    · have e1 : Hid (placeT a d n = 0) := by show _ = _; unfold placeT; rw [hg, if_pos rfl, if_pos hn]
      have e2 : Hid (placeE a d n = 5) := by show _ = _; unfold placeE; rw [hg, if_pos rfl, if_pos hn]
      subst hn
      go_wp2
      go_ret2
      exact ⟨by rw [e1.out, e2.out]; rfl, hB⟩
    · have e1 : Hid (placeT a d n = max (ceilQ (a * n) d) 1) := by show _ = _; unfold placeT; rw [hg, if_pos rfl, if_neg hn]
      have e2 : Hid (placeE a d n = 0) := by show _ = _; unfold placeE; rw [hg, if_pos rfl, if_neg hn]
      have hn' : (n == 0) = false := beq_eq_false_iff_ne.2 hn
      have hq0 : 0 ≤ ceilQ (a * n) d := (ceilQ_bd _ _ (Int.mul_nonneg h1 h5) h3).1
      go_wp2_with fail
      refine (rceil_any a n d _ h1 h2 h5 h6 h3 h4).mono ?_
      rintro e w2 ⟨rfl, hb⟩
      obtain ⟨q, hq⟩ : ∃ q, ceilQ (a * n) d = q := ⟨_, rfl⟩
      rw [hq] at e1 hq0 ⊢
      by_cases h0 : q = 0
      · subst h0
        go_wp2
        go_ret2
        exact ⟨by rw [e1.out, e2.out]; rfl, keep1 hB hb⟩
      · have h0' : (q == 0) = false := beq_eq_false_iff_ne.2 h0
        have e3 := Lib.hid (show max q 1 = q by omega)
        go_wp2
        go_ret2
        exact ⟨by rw [e1.out, e2.out, e3.out]; rfl, keep1 hB hb⟩
end Go.Proofs.YtondkkhagbcadaaGreat
