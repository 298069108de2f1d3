/- Plain laws of lists of values that can be put (as in chapter 15: HdrV, HdrJoinA). No program in sight. -/
import Derived.Test.YtondkkhagbcadaaGreatVEnds
import Derived.Test.YtondkkhagbcadaaGreatRowV
import Derived.Test.YtondkkhagbcadaaGreatPairsR
namespace Go.Proofs.YtondkkhagbcadaaGreat
open Go.RowKit

/-- Values that can be put. -/
structure VOk (l : List (Int × Int)) : Prop where
  ok : okP l
  pos : ∀ v ∈ l, 0 < v.2
  sum : sumP l ≤ 9223372036854775807
theorem VOk.nil : VOk [] := ⟨fun x hx => by simp at hx, fun x hx => by simp at hx, by rw [sumP_nil]; omega⟩
theorem VOk.sum0 {l : List (Int × Int)} (h : VOk l) : 0 ≤ sumP l := sumP_nonneg h.pos
theorem VOk.snoc {l : List (Int × Int)} (h : VOk l) {x c : Int} (hx : -9223372036854775808 ≤ x ∧ x ≤ 9223372036854775807) (hc : 0 < c) (hs : sumP l + c ≤ 9223372036854775807) : VOk (l ++ [(x, c)]) := by
  have h0 := h.sum0
  refine ⟨fun v hv => ?_, fun v hv => ?_, ?_⟩
  · rcases List.mem_append.1 hv with h1 | h1
    · exact h.ok v h1
    · rw [List.mem_singleton] at h1; subst h1; exact ⟨hx, by dsimp only; omega, by dsimp only; omega⟩
  · rcases List.mem_append.1 hv with h1 | h1
    · exact h.pos v h1
    · rw [List.mem_singleton] at h1; subst h1; exact hc
  · rw [sumP_append, sumP_cons, sumP_nil]; dsimp only; omega
theorem VOk.take {l : List (Int × Int)} (h : VOk l) (k : Nat) : VOk (l.take k) := by
  refine ⟨fun v hv => h.ok v (List.mem_of_mem_take hv), fun v hv => h.pos v (List.mem_of_mem_take hv), ?_⟩
  have e := congrArg sumP (List.take_append_drop k l)
  rw [sumP_append] at e
  have := sumP_nonneg (ps := l.drop k) fun v hv => h.pos v (List.mem_of_mem_drop hv)
  have := h.sum
  omega
theorem VOk.total {l : List (Int × Int)} {part : Nat → Int} (h : VOk l) : sumP (rowV part true l) + zeroV l + sumP (rowV part false l) = sumP l ∧ 0 ≤ zeroV l := by
  have hs := h.sum
  rw [negV_row h.pos (by omega), posV_row h.pos (by omega), sum_three l]
  exact ⟨rfl, sumP_nonneg fun v hv => h.pos v (List.mem_filter.1 hv).1⟩
theorem VOk.empty {l : List (Int × Int)} (h : VOk l) : sumP l = 0 ↔ l = [] := by
  constructor
  · intro h0
    cases l with
    | nil => rfl
    | cons v l =>
      have h1 := h.pos v (by simp)
      have h2 := sumP_nonneg (ps := l) fun u hu => h.pos u (by simp [hu])
      rw [sumP_cons] at h0
      omega
  · rintro rfl; rfl
theorem eLow_snoc {l : List (Int × Int)} (h : VOk l) (x c : Int) : eLow (l ++ [(x, c)]) = (if sumP l = 0 then x else min (eLow l) x) ∧ eHigh (l ++ [(x, c)]) = (if sumP l = 0 then x else max (eHigh l) x) := by
  by_cases h0 : l = []
  · subst h0
    rw [if_pos sumP_nil, if_pos sumP_nil]
    unfold eLow eHigh lowV highV
    simp
  · have hl : l.length ≠ 0 := fun e => h0 (List.eq_nil_of_length_eq_zero e)
    rw [if_neg fun e => h0 (h.empty.1 e), if_neg fun e => h0 (h.empty.1 e)]
    have hh : (l ++ [(x, c)]).headD (0, 0) = l.headD (0, 0) := by
      cases l with
      | nil => exact absurd rfl h0
      | cons v l => rfl
    unfold eLow eHigh
    rw [if_neg hl, if_neg hl, if_neg (by simp), if_neg (by simp), hh, lowV_append, highV_append]
    exact ⟨rfl, rfl⟩
theorem zeroV_snoc {l : List (Int × Int)} (x c : Int) : zeroV (l ++ [(x, c)]) = if x = 0 then zeroV l + c else zeroV l := by
  unfold zeroV
  rw [List.filter_append, sumP_append]
  by_cases hx : x = 0
  · rw [if_pos hx, List.filter_cons_of_pos (by simpa using hx), List.filter_nil, sumP_cons, sumP_nil]; dsimp only; omega
  · rw [if_neg hx, List.filter_cons_of_neg (by simpa using hx), List.filter_nil, sumP_nil]; omega

theorem rowV_app {part : Nat → Int} {below : Bool} {l k : List (Int × Int)} (hp : ∀ v ∈ l, 0 < v.2) (kp : ∀ v ∈ k, 0 < v.2) (hs : sumP l + sumP k < 18446744073709551616) : rowV part below (l ++ k) = addAll (rowV part below l) (rowV part below k) := by
  have l0 := sumP_nonneg hp
  have k0 := sumP_nonneg kp
  have hpa : ∀ v ∈ l ++ k, 0 < v.2 := fun v hv => (List.mem_append.1 hv).elim (hp v) (kp v)
  have hsa : sumP (l ++ k) < 18446744073709551616 := by rw [sumP_append]; exact hs
  have g1 := rowV_gd (part := part) (below := below) hp (by omega)
  have g2 := rowV_gd (part := part) (below := below) kp (by omega)
  have e1 := rowV_sum (part := part) (below := below) hp (by omega)
  have e2 := rowV_sum (part := part) (below := below) kp (by omega)
  have u1 := (vsum_filter hp fun v => sgn below v.1).2
  have u2 := (vsum_filter kp fun v => sgn below v.1).2
  obtain ⟨a1, a2, a3⟩ := addAll_spec (l := rowV part below k) (ps := rowV part below l) g1 g2.pos (by rw [e1, e2]; omega)
  refine Gd.ext (rowV_gd hpa hsa) a1 fun i => ?_
  rw [a3, rowV_cnt i hpa hsa, rowV_cnt i hp (by omega), rowV_cnt i kp (by omega), List.filter_append, sumP_append]
theorem zeroV_app (l k : List (Int × Int)) : zeroV (l ++ k) = zeroV l + zeroV k := by unfold zeroV; rw [List.filter_append, sumP_append]
theorem VOk.app {l k : List (Int × Int)} (h : VOk l) (hk : VOk k) (hs : sumP l + sumP k ≤ 9223372036854775807) : VOk (l ++ k) :=
  ⟨fun v hv => (List.mem_append.1 hv).elim (h.ok v) (hk.ok v), fun v hv => (List.mem_append.1 hv).elim (h.pos v) (hk.pos v), by rw [sumP_append]; exact hs⟩
theorem eLow_app {l k : List (Int × Int)} (h : VOk l) (hk : k ≠ []) : eLow (l ++ k) = (if sumP l = 0 then eLow k else min (eLow l) (eLow k)) ∧ eHigh (l ++ k) = (if sumP l = 0 then eHigh k else max (eHigh l) (eHigh k)) := by
  by_cases h0 : l = []
  · subst h0
    rw [if_pos sumP_nil, if_pos sumP_nil]
    exact ⟨rfl, rfl⟩
  · rw [if_neg fun e => h0 (h.empty.1 e), if_neg fun e => h0 (h.empty.1 e)]
    obtain ⟨⟨v1, m1, e1⟩, ⟨v2, m2, e2⟩⟩ := eLow_mem h0
    obtain ⟨⟨u1, n1, f1⟩, ⟨u2, n2, f2⟩⟩ := eLow_mem hk
    refine ends_uniq ?_ ?_ ?_ ?_
    · rcases Int.le_total (eLow l) (eLow k) with h1 | h1
      · exact ⟨v1, List.mem_append.2 (.inl m1), by rw [e1]; omega⟩
      · exact ⟨u1, List.mem_append.2 (.inr n1), by rw [f1]; omega⟩
    · intro v hv
      rcases List.mem_append.1 hv with h1 | h1
      · have := (eLow_le h1).1; omega
      · have := (eLow_le h1).1; omega
    · rcases Int.le_total (eHigh l) (eHigh k) with h1 | h1
      · exact ⟨u2, List.mem_append.2 (.inr n2), by rw [f2]; omega⟩
      · exact ⟨v2, List.mem_append.2 (.inl m2), by rw [e2]; omega⟩
    · intro v hv
      rcases List.mem_append.1 hv with h1 | h1
      · have := (eLow_le h1).2; omega
      · have := (eLow_le h1).2; omega

theorem negV_app (l k : List (Int × Int)) : negV (l ++ k) = negV l + negV k := by unfold negV; rw [List.filter_append, sumP_append]
theorem posV_app (l k : List (Int × Int)) : posV (l ++ k) = posV l + posV k := by unfold posV; rw [List.filter_append, sumP_append]
theorem VOk.three {l : List (Int × Int)} (h : VOk l) : negV l + zeroV l + posV l = sumP l ∧ 0 ≤ negV l ∧ 0 ≤ zeroV l ∧ 0 ≤ posV l :=
  ⟨(sum_three l).symm, sumP_nonneg fun v hv => h.pos v (List.mem_filter.1 hv).1, sumP_nonneg fun v hv => h.pos v (List.mem_filter.1 hv).1, sumP_nonneg fun v hv => h.pos v (List.mem_filter.1 hv).1⟩
theorem exactV_none {l : List (Int × Int)} {t : Int} (hp : ∀ v ∈ l, 0 < v.2) (h : t < 1 ∨ sumP l < t) : exactV l t = none := by
  cases he : exactV l t with
  | none => rfl
  | some x =>
    exfalso
    have hx := exactV_is he
    have h1 := hx.lo
    have h2 := hx.hi
    have h3 : 0 ≤ lessV l x := sumP_nonneg fun v hv => hp v (List.mem_filter.1 hv).1
    have h4 : lessV l x + sameV l x ≤ sumP l := by rw [← upV_split]; exact (vsum_filter hp _).2
    omega
end Go.Proofs.YtondkkhagbcadaaGreat
