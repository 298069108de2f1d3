/- Contracts of runs.Good and of the document's Good: can a row be? -/
import Derived.Test.YtondkkhagbcadaaGreatProg
import Derived.Test.YtondkkhagbcadaaGreatPairsR
import Derived.BigQuiet
import Derived.Deep.QuietTactic
namespace Go.Proofs.YtondkkhagbcadaaGreat
open Go.RowKit

/-- A row that can be. -/
structure GdM (ps : List (Int × Int)) : Prop where
  gd : Gd ps
  mx : ∀ x ∈ ps, x.2 ≤ 9223372036854775807
theorem GdM.nil : GdM [] := ⟨Gd.nil, fun _ h => by simp at h⟩
theorem GdM.take {ps : List (Int × Int)} (h : GdM ps) (k : Nat) : GdM (ps.take k) :=
  ⟨⟨h.gd.srt.sublist (List.take_sublist _ _), fun x hx => h.gd.pos x (List.mem_of_mem_take hx)⟩, fun x hx => h.mx x (List.mem_of_mem_take hx)⟩
theorem GdM.step {ps : List (Int × Int)} {k : Nat} (hk : k < ps.length) : GdM (ps.take (k + 1)) ↔ GdM (ps.take k) ∧ 0 < (ps[k]'hk).2 ∧ (ps[k]'hk).2 ≤ 9223372036854775807 ∧ ∀ j (hj : j + 1 = k), (ps[j]'(by omega)).1 < (ps[k]'hk).1 := by
  have hm : ps[k]'hk ∈ ps.take (k + 1) := by have := List.getElem_mem (l := ps.take (k + 1)) (n := k) (by rw [List.length_take]; omega); rwa [List.getElem_take] at this
  constructor
  · intro h
    refine ⟨by have := h.take k; rwa [List.take_take, Nat.min_eq_left (by omega)] at this, h.gd.pos _ hm, h.mx _ hm, fun j hj => ?_⟩
    have h1 := List.pairwise_iff_getElem.1 h.gd.srt j k (by rw [List.length_take]; omega) (by rw [List.length_take]; omega) (by omega)
    simpa using h1
  · rintro ⟨h, h1, h2, h3⟩
    rw [List.take_succ_eq_append_getElem hk]
    refine ⟨⟨List.pairwise_append.2 ⟨h.gd.srt, by simp, fun x hx y hy => ?_⟩, fun x hx => ?_⟩, fun x hx => ?_⟩
    · simp only [List.mem_singleton] at hy
      subst hy
      obtain ⟨i, hi, rfl⟩ := List.getElem_of_mem hx
      rw [List.length_take] at hi
      rw [List.getElem_take]
      obtain ⟨j, rfl⟩ : ∃ j, k = j + 1 := ⟨k - 1, by omega⟩
      have h4 := h3 j rfl
      by_cases e : i = j
      · subst e; exact h4
      · have h5 := List.pairwise_iff_getElem.1 h.gd.srt i j (by rw [List.length_take]; omega) (by rw [List.length_take]; omega) (by omega)
        rw [List.getElem_take, List.getElem_take] at h5
        omega
    · rcases List.mem_append.1 hx with hx | hx
      · exact h.gd.pos x hx
      · simp only [List.mem_singleton] at hx; subst hx; exact h1
    · rcases List.mem_append.1 hx with hx | hx
      · exact h.mx x hx
      · simp only [List.mem_singleton] at hx; subst hx; exact h2
theorem GdM.no {ps : List (Int × Int)} {k : Nat} (h : ¬ GdM (ps.take (k + 1))) : ¬ GdM ps := fun g => h (g.take _)

/-- A call that says whether. -/
def SaysP (P : Prop) (e : Ending) : Prop := ∃ bv, e = .returned (.bool bv) ∧ (bv = true ↔ P)
theorem says_yes {P : Prop} (h : P) : SaysP P (.returned (.bool true)) := ⟨_, rfl, fun _ => h, fun _ => rfl⟩
theorem says_no {P : Prop} (h : ¬ P) : SaysP P (.returned (.bool false)) := ⟨_, rfl, fun e => (by cases e), fun k => absurd k h⟩


end Go.Proofs.YtondkkhagbcadaaGreat
