/- The ends of values, as the document tells them. -/
import Derived.Test.YtondkkhagbcadaaGreatVals
namespace Go.Proofs.YtondkkhagbcadaaGreat
open Go.RowKit

theorem lowV_spec : ∀ (l : List (Int × Int)) (a : Int), lowV a l ≤ a ∧ (∀ v ∈ l, lowV a l ≤ v.1) ∧ (lowV a l = a ∨ ∃ v ∈ l, v.1 = lowV a l)
  | [], a => ⟨Int.le_refl _, by simp, .inl rfl⟩
  | x :: l, a => by
    obtain ⟨h1, h2, h3⟩ := lowV_spec l (min a x.1)
    have e : lowV a (x :: l) = lowV (min a x.1) l := rfl
    rw [e]
    refine ⟨by omega, fun v hv => ?_, ?_⟩
    · rcases List.mem_cons.1 hv with rfl | hv
      · omega
      · exact h2 v hv
    · rcases h3 with h3 | ⟨v, hv, h3⟩
      · rcases (show min a x.1 = a ∨ min a x.1 = x.1 by omega) with h | h
        · exact .inl (h3.trans h)
        · exact .inr ⟨x, by simp, by rw [h3, h]⟩
      · exact .inr ⟨v, by simp [hv], h3⟩
theorem highV_spec : ∀ (l : List (Int × Int)) (a : Int), a ≤ highV a l ∧ (∀ v ∈ l, v.1 ≤ highV a l) ∧ (highV a l = a ∨ ∃ v ∈ l, v.1 = highV a l)
  | [], a => ⟨Int.le_refl _, by simp, .inl rfl⟩
  | x :: l, a => by
    obtain ⟨h1, h2, h3⟩ := highV_spec l (max a x.1)
    have e : highV a (x :: l) = highV (max a x.1) l := rfl
    rw [e]
    refine ⟨by omega, fun v hv => ?_, ?_⟩
    · rcases List.mem_cons.1 hv with rfl | hv
      · omega
      · exact h2 v hv
    · rcases h3 with h3 | ⟨v, hv, h3⟩
      · rcases (show max a x.1 = a ∨ max a x.1 = x.1 by omega) with h | h
        · exact .inl (h3.trans h)
        · exact .inr ⟨x, by simp, by rw [h3, h]⟩
      · exact .inr ⟨v, by simp [hv], h3⟩
theorem head_mem {l : List (Int × Int)} (h : l ≠ []) : l.headD (0, 0) ∈ l := by
  cases l with
  | nil => exact absurd rfl h
  | cons x l => simp
def eLow (l : List (Int × Int)) : Int := if l.length = 0 then 0 else lowV (l.headD (0, 0)).1 l
def eHigh (l : List (Int × Int)) : Int := if l.length = 0 then 0 else highV (l.headD (0, 0)).1 l
def eIs (l : List (Int × Int)) : Bool := decide (l.length ≠ 0)
theorem vends_told (A : Option Addr) (len cap : Nat) (l : List (Int × Int)) (w : World) (hl : l.length = len) (hm : len ≤ 1048576) (hR : RdP w A l) :
    Calls Tryz.prog 45 #[.slice A len cap] w fun e w' => e = .returned (.tuple #[.int .i64 (eLow l), .int .i64 (eHigh l), .bool (eIs l)]) ∧ Below w.heap.size w w' := by
  unfold eLow eHigh eIs
  subst hl
  by_cases h0 : l.length = 0
  · rw [if_pos h0, if_pos h0, h0]
    exact vends_nil A cap w
  · rw [if_neg h0, if_neg h0, decide_eq_true h0]
    exact vends_any A _ cap l w rfl hm (by omega) hR
theorem eLow_le {l : List (Int × Int)} {v : Int × Int} (hv : v ∈ l) : eLow l ≤ v.1 ∧ v.1 ≤ eHigh l := by
  have hn : l.length ≠ 0 := fun e => by rw [List.eq_nil_of_length_eq_zero e] at hv; simp at hv
  unfold eLow eHigh
  rw [if_neg hn, if_neg hn]
  exact ⟨(lowV_spec l _).2.1 v hv, (highV_spec l _).2.1 v hv⟩
theorem eLow_mem {l : List (Int × Int)} (hn : l ≠ []) : (∃ v ∈ l, v.1 = eLow l) ∧ ∃ v ∈ l, v.1 = eHigh l := by
  have hl : l.length ≠ 0 := fun e => hn (List.eq_nil_of_length_eq_zero e)
  unfold eLow eHigh
  rw [if_neg hl, if_neg hl]
  refine ⟨?_, ?_⟩
  · rcases (lowV_spec l (l.headD (0, 0)).1).2.2 with h | h
    · exact ⟨_, head_mem hn, h.symm⟩
    · exact h
  · rcases (highV_spec l (l.headD (0, 0)).1).2.2 with h | h
    · exact ⟨_, head_mem hn, h.symm⟩
    · exact h
theorem lowV_append (a : Int) (l l' : List (Int × Int)) : lowV a (l ++ l') = lowV (lowV a l) l' := by unfold lowV; rw [List.foldl_append]
theorem highV_append (a : Int) (l l' : List (Int × Int)) : highV a (l ++ l') = highV (highV a l) l' := by unfold highV; rw [List.foldl_append]
/-- Between more values: the ends go on. -/
theorem ends_uniq {l : List (Int × Int)} {a b : Int} (h1 : ∃ v ∈ l, v.1 = a) (h2 : ∀ v ∈ l, a ≤ v.1) (h3 : ∃ v ∈ l, v.1 = b) (h4 : ∀ v ∈ l, v.1 ≤ b) : eLow l = a ∧ eHigh l = b := by
  obtain ⟨v, hv, rfl⟩ := h1
  obtain ⟨u, hu, rfl⟩ := h3
  have hn : l ≠ [] := fun e => by rw [e] at hv; simp at hv
  obtain ⟨⟨x, hx, ex⟩, y, hy, ey⟩ := eLow_mem hn
  have := eLow_le hv
  have := eLow_le hu
  have := h2 x hx
  have := h4 y hy
  omega
end Go.Proofs.YtondkkhagbcadaaGreat
