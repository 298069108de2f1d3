/- Plain laws of places. -/
import Derived.Test.YtondkkhagbcadaaGreatShare
namespace Go.Proofs.YtondkkhagbcadaaGreat

theorem goodF_iff {a d : Int} : goodF a d = true ↔ 0 < d ∧ a ≤ d := by unfold goodF; exact decide_eq_true_iff

/-- What a place is: the least one so far behind, the first one at least. -/
structure IsPlace (a d n t : Int) : Prop where
  one : 1 ≤ t
  le : t ≤ n
  up : a * n ≤ t * d
  least : t = 1 ∨ (t - 1) * d < a * n

theorem placeT_is {a d n : Int} (ha : 0 ≤ a) (hn : 0 < n) (hn' : n < 18446744073709551616) (hg : goodF a d = true) : IsPlace a d n (placeT a d n) := by
  obtain ⟨hd, had⟩ := goodF_iff.1 hg
  unfold placeT
  rw [if_pos hg, if_neg (by omega)]
  have h1 : a * n ≤ d * n := Int.mul_le_mul_of_nonneg_right had (by omega)
  have h2 : d * n ≤ d * 18446744073709551615 := Int.mul_le_mul_of_nonneg_left (by omega) (by omega)
  have h0 : 0 ≤ a * n := Int.mul_nonneg ha (by omega)
  unfold ceilQ
  rw [if_pos ⟨Int.le_trans h1 h2, hd⟩]
  obtain ⟨X, hX⟩ : ∃ X, a * n = X := ⟨_, rfl⟩
  rw [hX] at h0 h1 ⊢
  obtain ⟨c, hc⟩ : ∃ c, (X + d - 1) / d = c := ⟨_, rfl⟩
  have e1 := Int.ediv_mul_le (X + d - 1) (show d ≠ 0 by omega)
  have e2 := Int.lt_ediv_add_one_mul_self (X + d - 1) hd
  rw [hc] at e1 e2 ⊢
  rw [Int.add_mul, Int.one_mul] at e2
  have hc0 : 0 ≤ c := by rw [← hc]; exact Int.ediv_nonneg (by omega) (by omega)
  have hcn : c ≤ n := by
    rcases Int.lt_or_le n c with h | h
    · exfalso
      have h3 : (n + 1) * d ≤ c * d := Int.mul_le_mul_of_nonneg_right (by omega) (by omega)
      rw [Int.add_mul, Int.one_mul, Int.mul_comm n d] at h3
      omega
    · exact h
  refine ⟨by omega, by omega, ?_, ?_⟩
  · have h3 : c * d ≤ max c 1 * d := Int.mul_le_mul_of_nonneg_right (by omega) (by omega)
    omega
  · rcases (show max c 1 = 1 ∨ (max c 1 = c ∧ 1 < c) by omega) with h | ⟨h, _⟩
    · exact .inl h
    · rw [h, Int.sub_mul, Int.one_mul]
      exact .inr (by omega)

theorem IsPlace.mono {a d b e n t u : Int} (hd : 0 < d) (he : 0 < e) (hn : 0 < n) (h : IsPlace a d n t) (k : IsPlace b e n u) (hle : b * d ≤ a * e) : u ≤ t := by
  rcases Int.lt_or_le t u with hlt | hle'
  · exfalso
    rcases k.least with h1 | h1
    · have := h.one; omega
    · have a1 : t * e ≤ (u - 1) * e := Int.mul_le_mul_of_nonneg_right (by omega) (by omega)
      have a2 : t * e < b * n := by omega
      have a3 : t * e * d < b * n * d := Int.mul_lt_mul_of_pos_right a2 hd
      have a4 : b * d * n ≤ a * e * n := Int.mul_le_mul_of_nonneg_right hle (by omega)
      have a5 : a * n * e ≤ t * d * e := Int.mul_le_mul_of_nonneg_right h.up (by omega)
      have e1 : b * n * d = b * d * n := by rw [Int.mul_assoc, Int.mul_comm n d, ← Int.mul_assoc]
      have e2 : a * n * e = a * e * n := by rw [Int.mul_assoc, Int.mul_comm n e, ← Int.mul_assoc]
      have e3 : t * e * d = t * d * e := by rw [Int.mul_assoc, Int.mul_comm e d, ← Int.mul_assoc]
      omega
  · exact hle'

theorem placeT_whole {d n : Int} (hd : 0 < d) (hn : 0 < n) (hn' : n < 18446744073709551616) : placeT d d n = n := by
  have h := placeT_is (a := d) (d := d) (n := n) (by omega) hn hn' (goodF_iff.2 ⟨hd, Int.le_refl _⟩)
  have h1 : d * n ≤ placeT d d n * d := h.up
  rw [Int.mul_comm d n] at h1
  have := Int.le_of_mul_le_mul_right h1 hd
  have := h.le
  omega

end Go.Proofs.YtondkkhagbcadaaGreat
