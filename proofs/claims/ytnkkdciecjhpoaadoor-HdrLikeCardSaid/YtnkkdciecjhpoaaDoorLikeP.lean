/- Plain law of Like: of all between both, and of no other one, the same is told. No program in sight. -/
import Derived.Test.YtnkkdciecjhpoaaDoorHdrAsk
namespace Go.Proofs.YtnkkdciecjhpoaaDoor

theorem lohi_same {g a m : Nat} (ha : 0 < a) (hm : 0 < m) (h : idxN g a = idxN g m) : loN g a = loN g m ∧ hiN g a = hiN g m := by
  obtain ⟨h1, h2⟩ := (idx_eq_iff ha hm).1 h
  unfold hiN loN
  rw [h1, h2]
  exact ⟨rfl, rfl⟩
theorem like_in {g : Nat} (hg : g ≤ 63) {x : Int} (h1 : -9223372036854775808 ≤ x) (h2 : x ≤ 9223372036854775807) : likeLo g x ≤ x ∧ x ≤ likeHi g x := by
  unfold likeLo likeHi
  by_cases h0 : x = 0
  · rw [if_pos h0, if_pos h0]; omega
  · have a1 := lo_le g x.natAbs
    have a2 := m_le_hi (g := g) (m := x.natAbs) (by omega) (by omega)
    rw [if_neg h0, if_neg h0]
    by_cases hp : 0 < x
    · rw [if_pos hp, if_pos hp]; omega
    · rw [if_neg hp, if_neg hp]; omega
theorem like_iff {g : Nat} (hg : g ≤ 63) {x y : Int} (x1 : -9223372036854775808 ≤ x) (x2 : x ≤ 9223372036854775807) (y1 : -9223372036854775808 ≤ y) (y2 : y ≤ 9223372036854775807) :
    (likeLo g x ≤ y ∧ y ≤ likeHi g x) ↔ (likeLo g y = likeLo g x ∧ likeHi g y = likeHi g x) := by
  constructor
  · intro hin
    by_cases h0 : x = 0
    · have : y = 0 := by unfold likeLo likeHi at hin; rw [if_pos h0, if_pos h0] at hin; omega
      rw [h0, this]; exact ⟨rfl, rfl⟩
    · have b1 := lo_pos (g := g) (m := x.natAbs) (by omega)
      have b2 := hi_le g x.natAbs
      by_cases hp : 0 < x
      · unfold likeLo likeHi at hin
        rw [if_neg h0, if_neg h0, if_pos hp, if_pos hp] at hin
        have hi := (idx_range hg (a := y.natAbs) (m := x.natAbs) (by omega) (by omega) (by omega) (by omega)).2 (by omega)
        obtain ⟨e1, e2⟩ := lohi_same (by omega) (by omega) hi
        unfold likeLo likeHi
        rw [if_neg h0, if_neg h0, if_pos hp, if_pos hp, if_neg (by omega : ¬ y = 0), if_neg (by omega : ¬ y = 0), if_pos (by omega : 0 < y), if_pos (by omega : 0 < y), e1, e2]
        exact ⟨rfl, rfl⟩
      · unfold likeLo likeHi at hin
        rw [if_neg h0, if_neg h0, if_neg hp, if_neg hp] at hin
        have hi := (idx_range hg (a := y.natAbs) (m := x.natAbs) (by omega) (by omega) (by omega) (by omega)).2 (by omega)
        obtain ⟨e1, e2⟩ := lohi_same (by omega) (by omega) hi
        unfold likeLo likeHi
        rw [if_neg h0, if_neg h0, if_neg hp, if_neg hp, if_neg (by omega : ¬ y = 0), if_neg (by omega : ¬ y = 0), if_neg (by omega : ¬ 0 < y), if_neg (by omega : ¬ 0 < y), e1, e2]
        exact ⟨rfl, rfl⟩
  · rintro ⟨e1, e2⟩
    obtain ⟨a1, a2⟩ := like_in hg y1 y2
    rw [← e1, ← e2]
    exact ⟨a1, a2⟩
end Go.Proofs.YtnkkdciecjhpoaaDoor
