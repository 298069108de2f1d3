/- Plain laws of a row that is loaded: pairs behind one another. No program in sight. -/
import Derived.Test.YtnkkdciecjhpoaaDoorHdrPutAll
import Derived.Test.YtnkkdciecjhpoaaDoorHdrAsk
namespace Go.Proofs.YtnkkdciecjhpoaaDoor

/-- A row that can be loaded: rising indexes between 1 and the last one, counts. -/
structure RowOk (top : Int) (q : List (Int × Int)) : Prop where
  gd : Gd q
  bd : ∀ x ∈ q, 0 < x.1 ∧ x.1 ≤ top
  sm : sumP q ≤ 9223372036854775807
theorem RowOk.nil (top : Int) : RowOk top [] := ⟨Gd.nil, fun x hx => by simp at hx, by rw [sumP_nil]; omega⟩
theorem rowAdd_end {ps : List (Int × Int)} {q c : Int} (h : Gd ps) (hl : ∀ x ∈ ps, x.1 < q) (hc : 0 < c) (hc' : c < 18446744073709551616) : rowAdd ps q c = ps ++ [(q, c)] := by
  have h0 : cnt ps q = 0 := by
    show sumP (ps.filter fun x => decide (x.1 = q)) = 0
    rw [List.filter_eq_nil_iff.2 fun x hx => by have := hl x hx; simp; omega]
    rfl
  rw [rowAdd_eq h hc (by omega), h0, List.filter_eq_self.2 fun x hx => decide_eq_true (hl x hx), List.filter_eq_nil_iff.2 fun x hx => by have := hl x hx; simp; omega, List.append_nil, Int.zero_add]
theorem gd_lt {q : List (Int × Int)} (h : Gd q) {j : Nat} (hj : j < q.length) {x : Int × Int} (hx : x ∈ q.take j) : x.1 < (q[j]'hj).1 := by
  obtain ⟨i, hi, rfl⟩ := List.getElem_of_mem hx
  rw [List.length_take] at hi
  rw [List.getElem_take]
  exact List.pairwise_iff_getElem.1 h.srt i j (by omega) hj (by omega)
theorem gd_snoc {ps : List (Int × Int)} {x : Int × Int} (h : Gd ps) (hl : ∀ y ∈ ps, y.1 < x.1) (hx : 0 < x.2) : Gd (ps ++ [x]) :=
  ⟨List.pairwise_append.2 ⟨h.srt, List.pairwise_singleton _ _, fun a ha b hb => by rw [List.mem_singleton] at hb; subst hb; exact hl a ha⟩, fun y hy => (List.mem_append.1 hy).elim (h.pos y) fun e => by rw [List.mem_singleton] at e; subst e; exact hx⟩
/-- So much of a row is in: the last index. -/
structure RowIn (top last : Int) (ps : List (Int × Int)) : Prop where
  ok : RowOk top ps
  le : ∀ x ∈ ps, x.1 ≤ last
  mx : last = 0 ∨ ∃ x ∈ ps, x.1 = last
  l0 : 0 ≤ last
theorem RowIn.nil (top : Int) : RowIn top 0 [] := ⟨RowOk.nil top, fun x hx => by simp at hx, .inl rfl, by omega⟩
theorem RowIn.snoc {top last : Int} {q : List (Int × Int)} {j : Nat} (hj : j < q.length) (h : RowIn top last (q.take j)) (h1 : last < (q[j]'hj).1) (h2 : (q[j]'hj).1 ≤ top) (h3 : 0 < (q[j]'hj).2) (h4 : sumP (q.take j) + (q[j]'hj).2 ≤ 9223372036854775807) :
    RowIn top (q[j]'hj).1 (q.take (j + 1)) ∧ rowAdd (q.take j) (q[j]'hj).1 (q[j]'hj).2 = q.take (j + 1) := by
  have e : q.take (j + 1) = q.take j ++ [q[j]'hj] := List.take_succ_eq_append_getElem hj
  have hl : ∀ y ∈ q.take j, y.1 < (q[j]'hj).1 := fun y hy => by have := h.le y hy; omega
  have p0 := sumP_nonneg h.ok.gd.pos
  have l0 := h.l0
  refine ⟨⟨⟨by rw [e]; exact gd_snoc h.ok.gd hl h3, ?_, ?_⟩, ?_, ?_, by omega⟩, ?_⟩
  · intro x hx
    rw [e] at hx
    rcases List.mem_append.1 hx with hx | hx
    · exact h.ok.bd x hx
    · rw [List.mem_singleton] at hx; subst hx; exact ⟨by omega, h2⟩
  · rw [e, sumP_append, sumP_cons, sumP_nil]; omega
  · intro x hx
    rw [e] at hx
    rcases List.mem_append.1 hx with hx | hx
    · have := hl x hx; omega
    · rw [List.mem_singleton] at hx; subst hx; exact Int.le_refl _
  · exact .inr ⟨q[j]'hj, by rw [e]; exact List.mem_append.2 (.inr (List.mem_singleton.2 rfl)), rfl⟩
  · rw [rowAdd_end h.ok.gd hl h3 (by omega), e]
theorem RowIn.bad {top last : Int} {q : List (Int × Int)} {j : Nat} (hj : j < q.length) (h : RowIn top last (q.take j)) (h1 : (q[j]'hj).1 ≤ last) : ¬ RowOk top q := fun k => by
  rcases h.mx with e | ⟨x, hx, e⟩
  · have := (k.bd _ (List.getElem_mem hj)).1; omega
  · have := gd_lt k.gd hj hx; omega
theorem RowOk.over {top : Int} {q : List (Int × Int)} {j : Nat} (hj : j < q.length) (h1 : top < (q[j]'hj).1) : ¬ RowOk top q := fun k => by have := (k.bd _ (List.getElem_mem hj)).2; omega
theorem RowOk.none {top : Int} {q : List (Int × Int)} {j : Nat} (hj : j < q.length) (h1 : (q[j]'hj).2 ≤ 0) : ¬ RowOk top q := fun k => by have := k.gd.pos _ (List.getElem_mem hj); omega
theorem RowOk.much {top : Int} {q : List (Int × Int)} {j : Nat} (hj : j < q.length) (h1 : 9223372036854775807 < sumP (q.take j) + (q[j]'hj).2) : ¬ RowOk top q := fun k => by
  have h2 := sumP_take q j hj
  have h3 := (vsum_take k.gd.pos (j + 1)).2
  have := k.sm
  omega
/-- The last index of so many digits. -/
def topD (d : Int) : Int := ((64 - gOf d) * 2 ^ gOf d : Nat)
theorem rep_pos {d : Int} {i : Nat} (h1 : 0 < i) (h2 : (i : Int) ≤ topD d) : 0 < repI (gOf d) i := by
  have hg := gOf_le d
  unfold topD at h2
  have m1 := (idx_of (g := gOf d) (i := i) (by omega) h1 (by omega)).1
  exact Nat.lt_of_lt_of_le m1 (Nat.le_add_right _ _)
theorem topD_le (d : Int) : 0 ≤ topD d ∧ topD d ≤ 1048576 := by
  have := lastI (gOf_le d)
  unfold topD
  omega
/-- Rows of values can be loaded. -/
theorem rowV_load {d : Int} {l : List (Int × Int)} (h : VOk l) (below : Bool) : RowOk (topD d) (rowV (partD d) below l) := by
  have hs := h.sum
  refine ⟨rowV_gd h.pos (by omega), ?_, ?_⟩
  · intro x hx
    have key : ∀ (k ps : List (Int × Int)), (∀ y ∈ ps, 0 < y.1 ∧ y.1 ≤ topD d) → (∀ y ∈ k, 0 < y.1 ∧ y.1 ≤ topD d) → ∀ y ∈ addAll ps k, 0 < y.1 ∧ y.1 ≤ topD d := by
      intro k
      induction k with
      | nil => intro ps hp _ y hy; exact hp y hy
      | cons z k ih =>
        intro ps hp hk
        refine ih (rowAdd ps z.1 z.2) (fun y hy => ?_) fun y hy => hk y (by simp [hy])
        unfold rowAdd at hy
        rcases List.mem_append.1 hy with hy | hy
        · rcases List.mem_append.1 hy with hy | hy
          · exact hp y (List.mem_filter.1 hy).1
          · split at hy
            · rw [List.mem_singleton] at hy; subst hy; exact hk z (by simp)
            · simp at hy
        · exact hp y (List.mem_filter.1 hy).1
    refine key _ [] (fun y hy => by simp at hy) (fun y hy => ?_) x hx
    unfold selV at hy
    obtain ⟨v, hv, rfl⟩ := List.mem_map.1 hy
    obtain ⟨v1, v2⟩ := List.mem_filter.1 hv
    have v3 := (h.ok v v1).1
    have v4 : v.1 ≠ 0 := fun e => by unfold sgn at v2; rw [e] at v2; simp at v2
    have a := idx_pos (g := gOf d) (m := v.1.natAbs) (by omega)
    have b := idx_le_top (g := gOf d) (m := v.1.natAbs) (by have := gOf_le d; omega) (by omega) (by omega)
    unfold partD topD
    dsimp only
    omega
  · have e := rowV_sum (part := partD d) (below := below) h.pos (by omega)
    have u := (vsum_filter h.pos fun v => sgn below v.1).2
    omega
end Go.Proofs.YtnkkdciecjhpoaaDoor
