/- Plain laws of what stands for a table's values: it rises, and it is as close as was asked. -/
import Derived.Test.YtondkkhagbcadaaGreatDoc13
import Derived.Test.YtondkkhagbcadaaGreatGapZ
namespace Go.Proofs.YtondkkhagbcadaaGreat
open Go.RowKit

/-- The cell of a magnitude. -/
theorem tab_cell {u v : Nat} {L : List Nat} (h : TabOk u v L) {m : Nat} (h1 : 1 ≤ m) (h2 : m ≤ 9223372036854775808) : ∃ i, ∃ hi : i < L.length, partT L m = i ∧ L[i]'hi ≤ m ∧ m ≤ highN u v (L[i]'hi) ∧ repTN u v L m = repN u v (L[i]'hi) := by
  obtain ⟨i, hi, a1, a2⟩ := chain_cell h.uv h.chain h1 (show m ≤ mostN from h2)
  have hp : partT L m = i := partT_cell h.srt ⟨hi, by rw [← getD_at hi]; exact a1, fun hn => by
    rw [← getD_at hn, (chain_at h.uv h.chain).2.1 i hn]
    omega⟩
  refine ⟨i, hi, hp, a1, a2, ?_⟩
  unfold repTN atL
  rw [hp, if_pos ⟨by omega, by rw [List.length_map]; omega⟩, Int.toNat_natCast, List.getD_eq_getElem?_getD, List.getElem?_map, List.getElem?_eq_getElem hi]
  rfl
theorem repTN_mono {u v : Nat} {L : List Nat} (h : TabOk u v L) {m m' : Nat} (h1 : 1 ≤ m) (hm : m ≤ m') (h2 : m' ≤ 9223372036854775808) : repTN u v L m ≤ repTN u v L m' := by
  obtain ⟨i, hi, p, a1, a2, e⟩ := tab_cell h h1 (by omega)
  obtain ⟨j, hj, q, b1, b2, f⟩ := tab_cell h (by omega) h2
  have hij : i ≤ j := by
    have := partT_mono L m m' (by omega) hm h2
    rw [p, q] at this
    omega
  rw [e, f]
  refine repN_mono ?_
  have := sorted_at h.srt hij hj
  rw [← getD_at hi, ← getD_at hj] at this
  exact this
theorem repTN_le {u v : Nat} {L : List Nat} (h : TabOk u v L) {m : Nat} (h1 : 1 ≤ m) (h2 : m ≤ 9223372036854775808) : repTN u v L m ≤ 9223372036854775807 := by
  obtain ⟨i, hi, p, a1, a2, e⟩ := tab_cell h h1 h2
  rw [e]
  unfold repN topN
  omega
theorem standT_mono {u v : Nat} {L : List Nat} (h : TabOk u v L) {x y : Int} (hx : -9223372036854775808 ≤ x) (hxy : x ≤ y) (hy : y ≤ 9223372036854775807) : standV (repTN u v L) x ≤ standV (repTN u v L) y := by
  unfold standV
  by_cases x0 : x = 0
  · rw [if_pos x0]
    by_cases y0 : y = 0
    · rw [if_pos y0]; omega
    · rw [if_neg y0, if_pos (by omega)]; omega
  · rw [if_neg x0]
    by_cases y0 : y = 0
    · rw [if_pos y0, if_neg (by omega)]; omega
    · rw [if_neg y0]
      by_cases xp : 0 < x
      · rw [if_pos xp, if_pos (by omega)]
        have := repTN_mono h (m := x.natAbs) (m' := y.natAbs) (by omega) (by omega) (by omega)
        omega
      · rw [if_neg xp]
        by_cases yp : 0 < y
        · rw [if_pos yp]; omega
        · rw [if_neg yp]
          have := repTN_mono h (m := y.natAbs) (m' := x.natAbs) (by omega) (by omega) (by omega)
          omega
theorem standT_close {u v : Nat} {L : List Nat} (h : TabOk u v L) {x : Int} (h1 : -9223372036854775808 ≤ x) (h2 : x ≤ 9223372036854775807) : gapZ (standV (repTN u v L) x) x * v ≤ x.natAbs * u := by
  unfold standV
  by_cases h0 : x = 0
  · subst h0; simp [gapZ]
  · obtain ⟨i, hi, p, a1, a2, e⟩ := tab_cell h (m := x.natAbs) (by omega) (by omega)
    have hc := close h.u0 h.uv h.v1 a1 a2
    have hl := repTN_le h (m := x.natAbs) (by omega) (by omega)
    rw [← e] at hc
    have hg : ∀ z : Int, z.natAbs = max (repTN u v L x.natAbs) x.natAbs - min (repTN u v L x.natAbs) x.natAbs → z.natAbs * v ≤ x.natAbs * u := fun z hz => by rw [hz]; exact hc
    rw [if_neg h0]
    unfold gapZ
    by_cases hp : 0 < x
    · rw [if_pos hp]
      exact hg _ (by omega)
    · rw [if_neg hp]
      exact hg _ (by omega)
/-! ## Of a case. -/
section
variable {u v : Int} {part : Nat → Int} {rep stand : Int → Int}
theorem Cs.tab (h : Cs u v 0 false part rep stand) : ∃ (un vn : Nat) (L : List Nat), u = un ∧ v = vn ∧ TabOk un vn L ∧ part = partT L ∧ stand = standV (repTN un vn L) := by
  rcases h with ⟨_, h1, _⟩ | ⟨_, _, un, vn, L, e1, e2, ht, e3, _, e4⟩
  · omega
  · exact ⟨un, vn, L, e1, e2, ht, e3, e4⟩
theorem Cs.mono (h : Cs u v 0 false part rep stand) {x y : Int} (hx : -9223372036854775808 ≤ x) (hxy : x ≤ y) (hy : y ≤ 9223372036854775807) : stand x ≤ stand y := by
  obtain ⟨un, vn, L, _, _, ht, _, rfl⟩ := h.tab
  exact standT_mono ht hx hxy hy
/-- Clamped, it is as close. -/
theorem Cs.close (h : Cs u v 0 false part rep stand) {x lo hi : Int} (h1 : -9223372036854775808 ≤ x) (h2 : x ≤ 9223372036854775807) (k1 : lo ≤ x) (k2 : x ≤ hi) : (gapZ (min (max (stand x) lo) hi) x : Int) * v ≤ x.natAbs * u := by
  obtain ⟨un, vn, L, rfl, rfl, ht, _, rfl⟩ := h.tab
  have a := Nat.mul_le_mul_right vn (clamp_close (r := standV (repTN un vn L) x) k1 k2)
  have b := standT_close ht h1 h2
  exact_mod_cast Nat.le_trans a b
end
end Go.Proofs.YtondkkhagbcadaaGreat
