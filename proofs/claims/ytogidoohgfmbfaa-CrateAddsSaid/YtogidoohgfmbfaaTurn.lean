/- Plain laws: counts that come in another order. -/
import Derived.Test.YtogidoohgfmbfaaStep07
namespace Go.Proofs.Ytogidoohgfmbfaa

theorem cnt_nonneg' {l : List (Int × Int)} (h : okP l) (i : Int) : 0 ≤ cnt l i := by
  induction l with
  | nil => exact Int.le_refl _
  | cons x l ih =>
    rw [cnt_cons]
    have := ih fun y hy => h y (by simp [hy])
    have := (h x (by simp)).2.1
    split <;> omega
theorem sumP_nonneg' {l : List (Int × Int)} (h : okP l) : 0 ≤ sumP l := by
  induction l with
  | nil => exact Int.le_refl _
  | cons x l ih =>
    rw [sumP_cons]
    have := ih fun y hy => h y (by simp [hy])
    have := (h x (by simp)).2.1
    omega
theorem okP.drop {l : List (Int × Int)} (h : okP l) (k : Nat) : okP (l.drop k) := fun x hx => h x (List.mem_of_mem_drop hx)
theorem cnt_take_le {l : List (Int × Int)} (h : okP l) (k : Nat) (i : Int) : cnt (l.take k) i ≤ cnt l i := by
  have h1 := cnt_append (l.take k) (l.drop k) i
  rw [List.take_append_drop] at h1
  have := cnt_nonneg' (h.drop k) i
  omega
theorem sumP_take_le {l : List (Int × Int)} (h : okP l) (k : Nat) : sumP (l.take k) ≤ sumP l := by
  have h1 := sumP_append (l.take k) (l.drop k)
  rw [List.take_append_drop] at h1
  have := sumP_nonneg' (h.drop k)
  omega
theorem cnt_reverse (l : List (Int × Int)) (i : Int) : cnt l.reverse i = cnt l i := by
  induction l with
  | nil => rfl
  | cons x l ih => rw [List.reverse_cons, cnt_append, ih, cnt_cons, cnt_cons, cnt_nil]; omega
theorem sumP_reverse (l : List (Int × Int)) : sumP l.reverse = sumP l := by
  induction l with
  | nil => rfl
  | cons x l ih => rw [List.reverse_cons, sumP_append, ih, sumP_cons, sumP_cons, sumP_nil]; omega

/-- The list, turned. -/
def turned (l : List (Int × Int)) (a : Nat) : List (Int × Int) := (l.take a).reverse ++ (l.drop a).reverse
theorem turned_length (l : List (Int × Int)) (a : Nat) : (turned l a).length = l.length := by
  unfold turned
  rw [List.length_append, List.length_reverse, List.length_reverse, ← List.length_append, List.take_append_drop]
theorem cnt_turned (l : List (Int × Int)) (a : Nat) (i : Int) : cnt (turned l a) i = cnt l i := by
  unfold turned
  rw [cnt_append, cnt_reverse, cnt_reverse, ← cnt_append, List.take_append_drop]
theorem sumP_turned (l : List (Int × Int)) (a : Nat) : sumP (turned l a) = sumP l := by
  unfold turned
  rw [sumP_append, sumP_reverse, sumP_reverse, ← sumP_append, List.take_append_drop]
theorem okP_turned {l : List (Int × Int)} (h : okP l) (a : Nat) : okP (turned l a) := fun x hx => by
  unfold turned at hx
  rw [List.mem_append, List.mem_reverse, List.mem_reverse] at hx
  rcases hx with hx | hx
  · exact h x (List.mem_of_mem_take hx)
  · exact h x (List.mem_of_mem_drop hx)
theorem turned_at {l : List (Int × Int)} {a k j : Nat} (ha : a ≤ l.length) (hk : k < l.length) (e : j = if k < a then a - 1 - k else l.length - 1 - k + a) : (turned l a)[k]? = l[j]? := by
  unfold turned
  by_cases h : k < a
  · rw [if_pos h] at e
    rw [List.getElem?_append_left (by simp; omega), List.getElem?_reverse (by simp; omega), List.getElem?_take, if_pos (by simp; omega)]
    congr 1
    simp; omega
  · rw [if_neg h] at e
    rw [List.getElem?_append_right (by simp; omega), List.getElem?_reverse (by simp; omega), List.getElem?_drop]
    congr 1
    simp; omega

/-- A row that holds just what a list tells. -/
structure Holds (ps l : List (Int × Int)) : Prop where
  gd : Gd ps
  cnt : ∀ i, cnt ps i = Go.Proofs.Ytogidoohgfmbfaa.cnt l i
  sum : sumP ps = sumP l
theorem Holds.nil : Holds [] [] := ⟨Gd.nil, fun _ => rfl, rfl⟩
theorem cnt_snoc (l : List (Int × Int)) (x : Int × Int) (i : Int) : cnt (l ++ [x]) i = cnt l i + if x.1 = i then x.2 else 0 := by
  rw [cnt_append, cnt_cons, cnt_nil]; omega
theorem sumP_snoc (l : List (Int × Int)) (x : Int × Int) : sumP (l ++ [x]) = sumP l + x.2 := by
  rw [sumP_append, sumP_cons, sumP_nil]; omega
theorem Holds.zero {ps l : List (Int × Int)} (h : Holds ps l) (q : Int) : Holds ps (l ++ [(q, 0)]) :=
  ⟨h.gd, fun i => by rw [cnt_snoc, h.cnt]; dsimp only; split <;> omega, by rw [sumP_snoc, h.sum]; dsimp only; omega⟩
theorem Holds.add {ps l : List (Int × Int)} {q c : Int} (h : Holds ps l) (hc : 0 < c) (hr : rowRoom ps q c) : Holds (rowAdd ps q c) (l ++ [(q, c)]) := by
  have hcl := cnt_le_sumP h.gd.pos q
  have hs : Go.Proofs.Ytogidoohgfmbfaa.cnt ps q + c < 18446744073709551616 := by have := hr.1; omega
  refine ⟨h.gd.rowAdd hc hs, fun i => ?_, ?_⟩
  · rw [cnt_rowAdd h.gd hc hs, cnt_snoc, h.cnt]
    dsimp only
    by_cases e : i = q
    · subst e; simp only [if_true]
    · rw [if_neg e, if_neg (fun h => e h.symm)]
  · rw [sumP_rowAdd h.gd hc hs, sumP_snoc, h.sum]
theorem rowStep_zero (ps : List (Int × Int)) (q : Int) : rowStep ps q 0 = ps := if_neg (by omega)
theorem rowStep_room {ps : List (Int × Int)} {q c : Int} (hc : 0 < c) (hr : rowRoom ps q c) : rowStep ps q c = rowAdd ps q c := if_pos ⟨hc, hr⟩
theorem rowCode_room {ps : List (Int × Int)} {q c : Int} (hc : 0 < c) (hr : rowRoom ps q c) : rowCode ps q c = 0 := by
  unfold rowCode
  rw [if_neg (by omega), if_pos hr]
theorem rowCode_full {ps : List (Int × Int)} {q c : Int} (hc : 0 < c) (hr : ¬ rowRoom ps q c) : rowCode ps q c = 6 := by
  unfold rowCode
  rw [if_neg (by omega), if_neg hr]

theorem Crate.near {w : World} {b : Nat} {S : List Nat} {ps : List (Int × Int)} (h : Crate w b S ps) : ∀ i j, 0 < cnt ps i → 0 < cnt ps j → j - i ≤ 4095 := by
  obtain ⟨g, f, cs, h1, h2, rfl, _⟩ := h
  intro i j hi hj
  rw [h2.cnt] at hi hj
  have ki : f ≤ i ∧ i < f + cs.length := Classical.byContradiction fun h => by rw [crAt_out h] at hi; omega
  have kj : f ≤ j ∧ j < f + cs.length := Classical.byContradiction fun h => by rw [crAt_out h] at hj; omega
  have := h2.ok.len
  omega

/-- Where all has room in one order, it has in any other. -/
theorem Holds.room {ps qs l m : List (Int × Int)} {k : Nat} {q c : Int} (h : Holds ps l) (hn : ∀ i j, 0 < Go.Proofs.Ytogidoohgfmbfaa.cnt ps i → 0 < Go.Proofs.Ytogidoohgfmbfaa.cnt ps j → j - i ≤ 4095) (hs : sumP ps ≤ 9223372036854775807)
    (hm : okP m) (hmc : ∀ i, Go.Proofs.Ytogidoohgfmbfaa.cnt m i = Go.Proofs.Ytogidoohgfmbfaa.cnt l i) (hms : sumP m = sumP l) (hq : Holds qs (m.take k)) (hk : k < m.length) (hx : m[k]'hk = (q, c)) (hc : 0 < c) : rowRoom qs q c := by
  have ht : m.take (k + 1) = m.take k ++ [(q, c)] := by rw [List.take_succ_eq_append_getElem hk, hx]
  have h1 := sumP_take_le hm (k + 1)
  rw [ht, sumP_snoc, hms, ← h.sum, ← hq.sum] at h1
  dsimp only at h1
  have hcl := cnt_le_sumP hq.gd.pos q
  have hs0 := sumP_nonneg hq.gd.pos
  have hs : Go.Proofs.Ytogidoohgfmbfaa.cnt qs q + c < 18446744073709551616 := by omega
  refine ⟨by omega, (span_iff (hq.gd.rowAdd hc hs) (rowAdd_ne hq.gd hc hs) 4095).2 fun i j hi hj => ?_⟩
  have key : ∀ i, 0 < Go.Proofs.Ytogidoohgfmbfaa.cnt (rowAdd qs q c) i → 0 < Go.Proofs.Ytogidoohgfmbfaa.cnt ps i := fun i hi => by
    have h2 := cnt_take_le hm (k + 1) i
    rw [ht, cnt_snoc, hmc, ← h.cnt, ← hq.cnt] at h2
    dsimp only at h2
    rw [cnt_rowAdd hq.gd hc hs] at hi
    by_cases e : i = q
    · subst e; rw [if_pos rfl] at hi h2; omega
    · rw [if_neg e] at hi; rw [if_neg (fun h => e h.symm)] at h2; omega
  exact hn i j (key i hi) (key j hj)
end Go.Proofs.Ytogidoohgfmbfaa

