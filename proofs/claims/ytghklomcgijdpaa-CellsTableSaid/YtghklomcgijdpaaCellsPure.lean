/- Plain laws of cells; no program in sight. -/
import Derived.Test.YtghklomcgijdpaaBase
namespace Go.Proofs.Ytghklomcgijdpaa

def mostN : Nat := 9223372036854775808
def topN : Nat := 9223372036854775807
def repR (u v low : Nat) : Nat := low * (v + u) / v
/-- What stands for the cell that begins at a magnitude; where it ends. -/
def repN (u v low : Nat) : Nat := min (repR u v low) topN
def highN (u v low : Nat) : Nat := if mostN < repR u v low then mostN else min (repR u v low * v / (v - u)) mostN
/-- Where the cells begin. -/
def cellsF (u v : Nat) : Nat → Nat → Option (List Nat)
  | fuel, low => if mostN < low then some [] else match fuel with
    | 0 => none
    | f + 1 => (cellsF u v f (highN u v low + 1)).map (low :: ·)
/-- The cells from a magnitude on, each behind the one ahead. -/
def Chain (u v : Nat) : Nat → List Nat → Prop
  | low, [] => mostN < low
  | low, x :: L => x = low ∧ low ≤ mostN ∧ Chain u v (highN u v low + 1) L

theorem chain_of : ∀ {fuel low : Nat} {u v : Nat} {L : List Nat}, cellsF u v fuel low = some L → Chain u v low L ∧ L.length ≤ fuel := by
  intro fuel
  induction fuel with
  | zero =>
    intro low u v L h
    unfold cellsF at h
    by_cases hl : mostN < low
    · rw [if_pos hl] at h; cases h; exact ⟨hl, by simp⟩
    · rw [if_neg hl] at h; cases h
  | succ f ih =>
    intro low u v L h
    unfold cellsF at h
    by_cases hl : mostN < low
    · rw [if_pos hl] at h; cases h; exact ⟨hl, by simp⟩
    · rw [if_neg hl] at h
      dsimp only at h
      cases hc : cellsF u v f (highN u v low + 1) with
      | none => rw [hc] at h; cases h
      | some M =>
        rw [hc] at h
        cases h
        have := ih hc
        exact ⟨⟨rfl, by omega, this.1⟩, by simp; exact this.2⟩

theorem repR_ge {u v low : Nat} (hv : 0 < v) : low ≤ repR u v low := by
  unfold repR
  rw [Nat.le_div_iff_mul_le hv, Nat.mul_add]
  omega
theorem repR_mul {u v low : Nat} : repR u v low * v ≤ low * v + low * u := by
  unfold repR
  rw [← Nat.mul_add]
  exact Nat.div_mul_le_self _ _
theorem highN_ge {u v low : Nat} (hu : u < v) (hl : low ≤ mostN) : low ≤ highN u v low := by
  unfold highN
  split
  · exact hl
  · rw [Nat.le_min]
    refine ⟨?_, hl⟩
    have h1 := repR_ge (u := u) (v := v) (low := low) (by omega)
    rw [Nat.le_div_iff_mul_le (by omega)]
    exact Nat.mul_le_mul h1 (by omega)
theorem highN_le {u v low : Nat} : highN u v low ≤ mostN := by
  unfold highN
  split
  · exact Nat.le_refl _
  · exact Nat.min_le_right _ _

/-- What stands for a cell is as close as was asked to each magnitude of the cell. -/
theorem close {u v low m : Nat} (hu0 : 0 < u) (hu : u < v) (hv : v ≤ 2147483648) (hl : low ≤ m) (hm : m ≤ highN u v low) :
    (max (repN u v low) m - min (repN u v low) m) * v ≤ m * u := by
  have hR := repR_mul (u := u) (v := v) (low := low)
  have hRg := repR_ge (u := u) (v := v) (low := low) (by omega)
  have hmm : m ≤ mostN := Nat.le_trans hm highN_le
  have hlu : low * u ≤ m * u := Nat.mul_le_mul_right _ hl
  obtain ⟨R, hR0⟩ : ∃ R, repR u v low = R := ⟨_, rfl⟩
  have hrep : repN u v low = min R topN := by unfold repN; rw [hR0]
  have hhigh : highN u v low = if mostN < R then mostN else min (R * v / (v - u)) mostN := by unfold highN; rw [hR0]
  rw [hR0] at hR hRg
  rw [hrep]
  have big : m = mostN → v ≤ m * u := fun h => by
    have : mostN * 1 ≤ m * u := by rw [h]; exact Nat.mul_le_mul_left _ hu0
    unfold mostN at this
    omega
  by_cases hmr : m ≤ min R topN
  · rw [Nat.max_eq_left hmr, Nat.min_eq_right hmr]
    have h1 : (min R topN - m) * v ≤ (R - low) * v := Nat.mul_le_mul_right _ (by omega)
    rw [Nat.sub_mul R low v] at h1
    omega
  · rw [Nat.max_eq_right (by omega), Nat.min_eq_left (by omega)]
    by_cases hRt : R ≤ topN
    · rw [Nat.min_eq_left hRt] at hmr ⊢
      rw [hhigh, if_neg (by unfold topN at hRt; unfold mostN; omega)] at hm
      have h2 : m ≤ R * v / (v - u) := Nat.le_trans hm (Nat.min_le_left _ _)
      rw [Nat.le_div_iff_mul_le (by omega), Nat.mul_sub] at h2
      rw [Nat.sub_mul]
      have : m * u ≤ m * v := Nat.mul_le_mul_left _ (by omega)
      omega
    · have e : min R topN = topN := by omega
      rw [e] at hmr ⊢
      have hm1 : m = mostN := by unfold topN at hmr; unfold mostN at *; omega
      have := big hm1
      rw [show m - topN = 1 by rw [hm1]; rfl, Nat.one_mul]
      exact this

theorem repN_mono {u v low low' : Nat} (h : low ≤ low') : repN u v low ≤ repN u v low' := by
  unfold repN repR
  have : low * (v + u) / v ≤ low' * (v + u) / v := Nat.div_le_div_right (Nat.mul_le_mul_right _ h)
  omega
theorem repN_in {u v low : Nat} (hu : u < v) (hl : low ≤ mostN) (hh : highN u v low < mostN) : low ≤ repN u v low ∧ repN u v low ≤ highN u v low := by
  have h1 := highN_ge hu hl
  have hRg := repR_ge (u := u) (v := v) (low := low) (by omega)
  unfold highN at hh h1 ⊢
  split at hh
  · omega
  · rename_i hn
    rw [if_neg hn] at h1 ⊢
    have h2 : repR u v low ≤ repR u v low * v / (v - u) := by
      rw [Nat.le_div_iff_mul_le (by omega)]
      exact Nat.mul_le_mul_left _ (by omega)
    unfold repN
    unfold mostN topN at *
    omega
theorem highN_mono {u u' v low low' : Nat} (hu : u ≤ u') (hv : u' < v) (h : low ≤ low') : highN u v low ≤ highN u' v low' := by
  have hR : repR u v low ≤ repR u' v low' := Nat.div_le_div_right (Nat.mul_le_mul h (by omega))
  unfold highN
  by_cases h1 : mostN < repR u' v low'
  · rw [if_pos h1]
    split
    · exact Nat.le_refl _
    · exact Nat.min_le_right _ _
  · rw [if_neg h1, if_neg (by omega)]
    have h2 : repR u v low * v / (v - u) ≤ repR u' v low' * v / (v - u') := by
      have a : repR u v low * v / (v - u) ≤ repR u' v low' * v / (v - u) := Nat.div_le_div_right (Nat.mul_le_mul_right _ hR)
      have b : repR u' v low' * v / (v - u) ≤ repR u' v low' * v / (v - u') := Nat.div_le_div_left (by omega) (by omega)
      omega
    omega
/-- A looser closeness has no more cells. -/
theorem chain_fewer {u u' v : Nat} (hu : u ≤ u') (hv : u' < v) : ∀ {L' L : List Nat} {low low' : Nat}, low ≤ low' → Chain u v low L → Chain u' v low' L' → L'.length ≤ L.length
  | [], _, _, _, _, _, _ => by simp
  | _ :: L', [], low, low', h, hc, hc' => by
    obtain ⟨_, h1, _⟩ := hc'
    exact absurd (show mostN < low from hc) (by omega)
  | _ :: L', _ :: L, low, low', h, ⟨_, _, hc⟩, ⟨_, _, hc'⟩ => by
    have := chain_fewer hu hv (by have := highN_mono hu hv h; omega) hc hc'
    simp only [List.length_cons]
    omega
/-- Each magnitude lies in a cell. -/
theorem chain_cell {u v : Nat} (hv : u < v) : ∀ {L : List Nat} {low m : Nat}, Chain u v low L → low ≤ m → m ≤ mostN → ∃ i, ∃ h : i < L.length, L[i]'h ≤ m ∧ m ≤ highN u v (L[i]'h)
  | [], low, m, hc, h1, h2 => absurd (show mostN < low from hc) (by omega)
  | x :: L, low, m, ⟨hx, h3, hc⟩, h1, h2 => by
    subst hx
    by_cases h : m ≤ highN u v x
    · exact ⟨0, by simp, h1, h⟩
    · obtain ⟨i, hi, h4, h5⟩ := chain_cell hv hc (by omega) h2
      exact ⟨i + 1, by simp; exact hi, by simpa using h4, by simpa using h5⟩
theorem chain_at {u v : Nat} (hv : u < v) : ∀ {L : List Nat} {low : Nat}, Chain u v low L → (∀ i (h : i < L.length), low ≤ L[i]'h ∧ L[i]'h ≤ mostN) ∧ (∀ i (h : i + 1 < L.length), L[i + 1]'h = highN u v (L[i]'(by omega)) + 1) ∧ (∀ h : 0 < L.length, L[0]'h = low ∧ highN u v (L[L.length - 1]'(by omega)) = mostN)
  | [], low, hc => ⟨fun i h => by simp at h, fun i h => by simp at h, fun h => by simp at h⟩
  | x :: L, low, ⟨hx, h3, hc⟩ => by
    subst hx
    obtain ⟨a1, a2, a3⟩ := chain_at hv hc
    have hg := highN_ge hv h3
    refine ⟨fun i h => ?_, fun i h => ?_, fun h => ?_⟩
    · cases i with
      | zero => exact ⟨Nat.le_refl _, h3⟩
      | succ i => have := a1 i (by simpa using h); exact ⟨by simp only [List.getElem_cons_succ]; omega, by simpa using this.2⟩
    · cases i with
      | zero => simpa using (a3 (by simpa using h)).1
      | succ i => simpa using a2 i (by simpa using h)
    · refine ⟨rfl, ?_⟩
      cases L with
      | nil =>
        have h4 : mostN < highN u v x + 1 := hc
        have h5 := highN_le (u := u) (v := v) (low := x)
        simp only [List.length_cons, List.length_nil, Nat.zero_add, Nat.sub_self, List.getElem_cons_zero]
        omega
      | cons y L =>
        have := (a3 (by simp)).2
        simpa using this
theorem chain_sorted {u v : Nat} (hv : u < v) {L : List Nat} {low : Nat} (hc : Chain u v low L) : L.Pairwise (· < ·) := by
  induction L generalizing low with
  | nil => exact List.Pairwise.nil
  | cons x L ih =>
    obtain ⟨rfl, h3, hc⟩ := hc
    refine List.pairwise_cons.2 ⟨fun y hy => ?_, ih hc⟩
    obtain ⟨i, hi, rfl⟩ := List.getElem_of_mem hy
    have := ((chain_at hv hc).1 i hi).1
    have := highN_ge hv h3
    omega
/-- Where a binary search stands at its end. -/
structure At' (L : List Nat) (m k : Nat) : Prop where
  le : k ≤ L.length
  under : ∀ j (h : j < L.length), j < k → L[j]'h < m
  over : ∀ h : k < L.length, m ≤ L[k]'h
theorem search_cell {u v : Nat} (hv : u < v) {L : List Nat} {low m k : Nat} (hc : Chain u v low L) (h1 : low ≤ m) (h2 : m ≤ mostN) (hk : At' L m k) :
    ∃ i, ∃ h : i < L.length, L[i]'h ≤ m ∧ m ≤ highN u v (L[i]'h) ∧ ((k = i ∧ L[i]'h = m) ∨ (k = i + 1 ∧ ∀ h : k < L.length, L[k]'h ≠ m)) := by
  obtain ⟨i, hi, a, b⟩ := chain_cell hv hc h1 h2
  refine ⟨i, hi, a, b, ?_⟩
  have hs := List.pairwise_iff_getElem.1 (chain_sorted hv hc)
  obtain ⟨_, c2, _⟩ := chain_at hv hc
  by_cases he : L[i]'hi = m
  · left
    refine ⟨?_, he⟩
    rcases Nat.lt_trichotomy k i with h | h | h
    · have := hk.over (by omega)
      have := hs k i (by omega) hi h
      omega
    · exact h
    · have := hk.under i hi h
      omega
  · right
    have hk1 : i < k := by
      rcases Nat.lt_or_ge i k with h | h
      · exact h
      · exfalso
        have h3 := hk.over (by omega)
        rcases Nat.lt_or_eq_of_le h with h4 | h4
        · have := hs k i (by omega) hi h4; omega
        · subst h4; omega
    have hk2 : k = i + 1 := by
      rcases Nat.lt_or_ge (i + 1) k with h | h
      · exfalso
        have hl := hk.le
        have h3 := hk.under (i + 1) (by omega) h
        have := c2 i (by omega)
        omega
      · omega
    refine ⟨hk2, fun h => ?_⟩
    subst hk2
    have := c2 i h
    omega
theorem search_unique {L : List Nat} {m k k' : Nat} (h : At' L m k) (h' : At' L m k') : k = k' := by
  rcases Nat.lt_trichotomy k k' with hl | hl | hl
  · have a := h'.under k (by have := h'.le; omega) hl
    have b := h.over (by have := h'.le; omega)
    omega
  · exact hl
  · have a := h.under k' (by have := h.le; omega) hl
    have b := h'.over (by have := h.le; omega)
    omega
theorem cells_tenth : (cellsF 1 10 4096 1).map (fun l => Nat.blt 100 l.length) = some true := by decide +kernel
end Go.Proofs.Ytghklomcgijdpaa

