/- How the arguments of a statement read: slices of numbers and of structs of numbers, as lists; and the road from a statement's walk to its row. -/
import Derived.Test.YtondkkhagbcadaaGreatRows
import Derived.Test.YtondkkhagbcadaaGreatBase
import Derived.ProofKit
import Derived.OpenShut
import Derived.ShutString
import Derived.ChangeOld
import Derived.Carry
import Derived.Deep.Slices
import Derived.Deep.Fields
import Derived.Lib.SmallJoins
namespace Go.Proofs.YtondkkhagbcadaaGreat
open Go.ChangeShapes Go.WideShapes Go.ChangeAt Go.RowKit Go.Deep

/-- A slice's address leads to these cells. -/
def Rd (w : World) (A : Option Addr) (cs : List Value) : Prop := ∀ j u, cs[j]? = some u → ∃ g o, A = some ⟨g, o, none⟩ ∧ g < w.heap.size ∧ w.cell? ⟨g, o + j, none⟩ = some u

theorem Rd.below {w w' : World} {A : Option Addr} {cs : List Value} (h : Rd w A cs) (hb : Below w.heap.size w w') : Rd w' A cs := fun j u hj => by
  obtain ⟨g, o, e, hg, hc⟩ := h j u hj
  exact ⟨g, o, e, Nat.lt_of_lt_of_le hg hb.size, cellB hb hg hc⟩
theorem Rd.nil (w : World) (A : Option Addr) : Rd w A [] := fun j u h => by simp at h
theorem Rd.drew {w : World} {A : Option Addr} {cs : List Value} (h : Rd w A cs) : Rd w.drew A cs := h

theorem list_choose {α : Type} {P : Nat → α → Prop} : ∀ n : Nat, (∀ i, i < n → ∃ x, P i x) → ∃ xs : List α, xs.length = n ∧ ∀ i (h : i < xs.length), P i (xs[i]) := by
  intro n
  induction n with
  | zero => intro _; exact ⟨[], rfl, fun i h => by simp at h⟩
  | succ n ih =>
    intro h
    obtain ⟨xs, hl, hx⟩ := ih fun i hi => h i (by omega)
    obtain ⟨x, hp⟩ := h n (by omega)
    refine ⟨xs ++ [x], by simp [hl], fun i hi => ?_⟩
    by_cases hin : i < xs.length
    · rw [List.getElem_append_left hin]; exact hx i hin
    · have : i = n := by simp at hi; omega
      subst this
      rw [List.getElem_append_right (by omega)]
      simpa [hl] using hp

theorem rd_cell {w : World} {a : Addr} {j : Nat} {u : Value} (hs : a.spot = none) (h : w.cell? (a.add j) = some u) : ∃ g o, some a = some ⟨g, o, none⟩ ∧ g < w.heap.size ∧ w.cell? ⟨g, o + j, none⟩ = some u := by
  obtain ⟨g, o, s⟩ := a
  obtain rfl : s = none := hs
  rw [Addr.add_lit] at h
  exact ⟨g, o, rfl, World.block_lt_of_cell? w _ h, h⟩

section
variable {H : Type} {enc : TypeId × Value → H} {P : Program} {w : World}

theorem open_ints_rd {t e : TypeId} {k : IntKind} {a0 : Option Addr} {len cap : Nat} {d : DataW H} {p : List MemPlace} (ht : P.underlying t = some (.slice e)) (he : P.underlying e = some (.int k)) (hc : P.cellsOf e = 1)
    (h : DataW.Trod enc P w 0 (fun _ => true) true t (.slice a0 len cap) d p) :
    ∃ xs : List Int, xs.length = len ∧ Rd w a0 (xs.map (Value.int k)) ∧ (∀ x ∈ xs, (Lit.int k x).wf = true) ∧ len ≤ 9223372036854775807 := by
  obtain ⟨fuel, hf⟩ := h
  rcases open_ints ht he hc hf with ⟨hcs, _⟩ | ⟨a, len', cap', zs, hcs, _, hl, hm, hz, _, hcell, hwz⟩
  · simp [Value.cells] at hcs
    obtain ⟨rfl, rfl, rfl⟩ := hcs
    exact ⟨[], rfl, Rd.nil _ _, by simp, by omega⟩
  · simp [Value.cells] at hcs
    obtain ⟨rfl, rfl, rfl⟩ := hcs
    simp only [if_true] at hz
    unfold maxLen at hm
    refine ⟨zs.take len, by simp; omega, fun j u hj => ?_, fun x hx => hwz x (List.mem_of_mem_take hx), by omega⟩
    have hjl : j < len := by
      have := (List.getElem?_eq_some_iff.1 hj).1
      simp at this; omega
    have hc := hcell j (by omega)
    have hs : a.spot = none := by simpa [Addr.add] using World.cell?_spot (hcell 0 (by omega))
    have : u = .int k (zs.getD j 0) := by
      rw [List.getElem?_map, List.getElem?_take, if_pos hjl] at hj
      rw [List.getD_eq_getElem?_getD]
      have hjz : j < zs.length := by omega
      rw [List.getElem?_eq_getElem hjz] at hj ⊢
      simpa using hj.symm
    rw [this]
    exact rd_cell hs hc

/-- A slice of structs of one-cell fields, cell by cell. -/
theorem open_fields {t e : TypeId} {fs : Array Field} {a0 : Option Addr} {len cap : Nat} {d : DataW H} {p : List MemPlace} (ht : P.underlying t = some (.slice e)) (he : P.underlying e = some (.struct fs))
    (hone : oneCellFields P fs = true) (hC : P.cellsOf e = fs.size) (h : DataW.Trod enc P w 0 (fun _ => true) true t (.slice a0 len cap) d p) :
    len ≤ 9223372036854775807 ∧ ∀ i, i < len → ∃ n : Nat, ∀ (j : Nat) (f : Field), fs[j]? = some f → ∃ (v : Value) (y : DataW H × List MemPlace),
      (∃ g o, a0 = some ⟨g, o, none⟩ ∧ g < w.heap.size ∧ w.cell? ⟨g, o + (i * fs.size + j), none⟩ = some v) ∧ DataW.trod enc P w 0 (fun _ => true) true n f.type [v] = some y := by
  obtain ⟨fuel, hf⟩ := h
  rcases open_slice ht hf with ⟨hcs, _⟩ | ⟨a, len', cap', m, n, D, Pl, hcs, _, hl, hm, hmm, _, hi⟩
  · simp [Value.cells] at hcs
    obtain ⟨rfl, rfl, rfl⟩ := hcs
    exact ⟨by omega, fun i h => by omega⟩
  · simp [Value.cells] at hcs
    obtain ⟨rfl, rfl, rfl⟩ := hcs
    simp only [if_true] at hmm
    unfold maxLen at hm
    refine ⟨by omega, fun i him => ?_⟩
    have hall : ∀ i, i < len → ∃ n : Nat, ∀ (j : Nat) (f : Field), fs[j]? = some f → ∃ (v : Value) (y : DataW H × List MemPlace), w.cell? (a.add (i * fs.size + j)) = some v ∧ DataW.trod enc P w 0 (fun _ => true) true n f.type [v] = some y := by
      intro i him
      obtain ⟨cs', hc, ht'⟩ := hi i (by omega)
      rw [hC] at hc
      obtain ⟨ys, n', hn', hy, hlen, hyl, hf⟩ := DataW.trod_struct he ht'
      obtain ⟨_, hcl, hat⟩ := World.cells?_some hc
      refine ⟨n', fun j f hj => ?_⟩
      obtain ⟨ho, hk⟩ := hone_of hone j f hj
      have hjl : j < fs.size := (Array.getElem?_eq_some_iff.1 hj).1
      have hcell := hat j hjl
      have hv : cs'[j]? = some (cs'[j]'(by omega)) := List.getElem?_eq_getElem (by omega)
      have h1 := hf j f hj
      rw [ho, hk] at h1
      have hone' : (cs'.drop j).take 1 = [cs'[j]'(by omega)] := by
        rw [List.drop_eq_getElem_cons (by omega)]
        rfl
      rw [hone'] at h1
      have hys : ys[j]? = some (ys[j]'(by omega)) := List.getElem?_eq_getElem (by omega)
      refine ⟨_, _, ?_, h1.trans hys⟩
      rw [← Go.Deep.add_add, hcell, hv]
    by_cases hfs : fs.size = 0
    · exact ⟨0, fun j f hj => by have := (Array.getElem?_eq_some_iff.1 hj).1; omega⟩
    · have hs : a.spot = none := by
        obtain ⟨n0, h0⟩ := hall 0 (by omega)
        obtain ⟨v, y, hc, _⟩ := h0 0 (fs[0]'(by omega)) (Array.getElem?_eq_getElem (by omega))
        simpa [Addr.add] using World.cell?_spot hc
      obtain ⟨n, hn⟩ := hall i him
      refine ⟨n, fun j f hj => ?_⟩
      obtain ⟨v, y, hc, ht⟩ := hn j f hj
      exact ⟨v, y, rd_cell hs hc, ht⟩

theorem flat2 {α : Type} {f g : α → Value} (xs : List α) (j : Nat) (h : j < xs.length) : (xs.flatMap fun x => [f x, g x])[j * 2]? = some (f xs[j]) ∧ (xs.flatMap fun x => [f x, g x])[j * 2 + 1]? = some (g xs[j]) := by
  induction xs generalizing j with
  | nil => simp at h
  | cons x xs ih =>
    cases j with
    | zero => simp
    | succ j =>
      obtain ⟨h1, h2⟩ := ih j (by simpa using h)
      simp only [List.flatMap_cons, List.getElem_cons_succ]
      rw [show (j + 1) * 2 = j * 2 + 1 + 1 by omega]
      simp [h1, h2]
theorem flat2_len {α : Type} {f g : α → Value} (xs : List α) : (xs.flatMap fun x => [f x, g x]).length = xs.length * 2 := by
  induction xs with
  | nil => rfl
  | cons x xs ih => simp [List.flatMap_cons, ih]; omega
theorem flat3 {α : Type} {f g k : α → Value} (xs : List α) (j : Nat) (h : j < xs.length) : (xs.flatMap fun x => [f x, g x, k x])[j * 3]? = some (f xs[j]) ∧ (xs.flatMap fun x => [f x, g x, k x])[j * 3 + 1]? = some (g xs[j]) ∧ (xs.flatMap fun x => [f x, g x, k x])[j * 3 + 2]? = some (k xs[j]) := by
  induction xs generalizing j with
  | nil => simp at h
  | cons x xs ih =>
    cases j with
    | zero => simp
    | succ j =>
      obtain ⟨h1, h2, h3⟩ := ih j (by simpa using h)
      simp only [List.flatMap_cons, List.getElem_cons_succ]
      rw [show (j + 1) * 3 = j * 3 + 1 + 1 + 1 by omega]
      simp [h1, h2, h3]
theorem flat3_len {α : Type} {f g k : α → Value} (xs : List α) : (xs.flatMap fun x => [f x, g x, k x]).length = xs.length * 3 := by
  induction xs with
  | nil => rfl
  | cons x xs ih => simp [List.flatMap_cons, ih]; omega

theorem open_two_rd {t e : TypeId} {f0 f1 : Field} {k0 k1 : IntKind} {a0 : Option Addr} {len cap : Nat} {d : DataW H} {p : List MemPlace} (ht : P.underlying t = some (.slice e)) (he : P.underlying e = some (.struct #[f0, f1]))
    (hone : oneCellFields P #[f0, f1] = true) (hC : P.cellsOf e = 2) (h0 : P.underlying f0.type = some (.int k0)) (h1 : P.underlying f1.type = some (.int k1)) (h : DataW.Trod enc P w 0 (fun _ => true) true t (.slice a0 len cap) d p) :
    ∃ xs : List (Int × Int), xs.length = len ∧ Rd w a0 (xs.flatMap fun x => [.int k0 x.1, .int k1 x.2]) ∧ (∀ x ∈ xs, (Lit.int k0 x.1).wf = true ∧ (Lit.int k1 x.2).wf = true) ∧ len ≤ 9223372036854775807 := by
  obtain ⟨hl, hi⟩ := open_fields ht he hone hC h
  obtain ⟨xs, hxl, hx⟩ := list_choose (P := fun i (x : Int × Int) => ((Lit.int k0 x.1).wf = true ∧ (Lit.int k1 x.2).wf = true) ∧
      (∃ g o, a0 = some ⟨g, o, none⟩ ∧ g < w.heap.size ∧ w.cell? ⟨g, o + i * 2, none⟩ = some (.int k0 x.1)) ∧ (∃ g o, a0 = some ⟨g, o, none⟩ ∧ g < w.heap.size ∧ w.cell? ⟨g, o + (i * 2 + 1), none⟩ = some (.int k1 x.2))) len (fun i him => by
    obtain ⟨n, hn⟩ := hi i him
    obtain ⟨v0, y0, c0, t0⟩ := hn 0 f0 rfl
    obtain ⟨v1, y1, c1, t1⟩ := hn 1 f1 rfl
    obtain ⟨x0, e0, _, w0⟩ := DataW.trod_int h0 t0
    obtain ⟨x1, e1, _, w1⟩ := DataW.trod_int h1 t1
    simp only [List.cons.injEq, and_true] at e0 e1
    subst e0 e1
    exact ⟨(x0, x1), ⟨w0, w1⟩, c0, c1⟩)
  refine ⟨xs, hxl, fun j u hj => ?_, fun x hx' => ?_, hl⟩
  · have hjl := (List.getElem?_eq_some_iff.1 hj).1
    rw [flat2_len] at hjl
    obtain ⟨i, hij⟩ : ∃ i, i = j / 2 := ⟨_, rfl⟩
    obtain ⟨_, p0, p1⟩ := hx i (by omega)
    obtain ⟨q0, q1⟩ := flat2 (f := fun x : Int × Int => Value.int k0 x.1) (g := fun x => Value.int k1 x.2) xs i (by omega)
    rcases (show j = i * 2 ∨ j = i * 2 + 1 by omega) with rfl | rfl
    · rw [q0] at hj
      obtain rfl := Option.some.inj hj
      exact p0
    · rw [q1] at hj
      obtain rfl := Option.some.inj hj
      exact p1
  · obtain ⟨i, hil, rfl⟩ := List.getElem_of_mem hx'
    exact (hx i hil).1

theorem open_three_rd {t e : TypeId} {f0 f1 f2 : Field} {k0 k1 k2 : IntKind} {a0 : Option Addr} {len cap : Nat} {d : DataW H} {p : List MemPlace} (ht : P.underlying t = some (.slice e)) (he : P.underlying e = some (.struct #[f0, f1, f2]))
    (hone : oneCellFields P #[f0, f1, f2] = true) (hC : P.cellsOf e = 3) (h0 : P.underlying f0.type = some (.int k0)) (h1 : P.underlying f1.type = some (.int k1)) (h2 : P.underlying f2.type = some (.int k2)) (h : DataW.Trod enc P w 0 (fun _ => true) true t (.slice a0 len cap) d p) :
    ∃ xs : List (Int × Int × Int), xs.length = len ∧ Rd w a0 (xs.flatMap fun x => [.int k0 x.1, .int k1 x.2.1, .int k2 x.2.2]) ∧ (∀ x ∈ xs, (Lit.int k0 x.1).wf = true ∧ (Lit.int k1 x.2.1).wf = true ∧ (Lit.int k2 x.2.2).wf = true) ∧ len ≤ 9223372036854775807 := by
  obtain ⟨hl, hi⟩ := open_fields ht he hone hC h
  obtain ⟨xs, hxl, hx⟩ := list_choose (P := fun i (x : Int × Int × Int) => ((Lit.int k0 x.1).wf = true ∧ (Lit.int k1 x.2.1).wf = true ∧ (Lit.int k2 x.2.2).wf = true) ∧
      (∃ g o, a0 = some ⟨g, o, none⟩ ∧ g < w.heap.size ∧ w.cell? ⟨g, o + i * 3, none⟩ = some (.int k0 x.1)) ∧ (∃ g o, a0 = some ⟨g, o, none⟩ ∧ g < w.heap.size ∧ w.cell? ⟨g, o + (i * 3 + 1), none⟩ = some (.int k1 x.2.1)) ∧
      (∃ g o, a0 = some ⟨g, o, none⟩ ∧ g < w.heap.size ∧ w.cell? ⟨g, o + (i * 3 + 2), none⟩ = some (.int k2 x.2.2))) len (fun i him => by
    obtain ⟨n, hn⟩ := hi i him
    obtain ⟨v0, y0, c0, t0⟩ := hn 0 f0 rfl
    obtain ⟨v1, y1, c1, t1⟩ := hn 1 f1 rfl
    obtain ⟨v2, y2, c2, t2⟩ := hn 2 f2 rfl
    obtain ⟨x0, e0, _, w0⟩ := DataW.trod_int h0 t0
    obtain ⟨x1, e1, _, w1⟩ := DataW.trod_int h1 t1
    obtain ⟨x2, e2, _, w2⟩ := DataW.trod_int h2 t2
    simp only [List.cons.injEq, and_true] at e0 e1 e2
    subst e0 e1 e2
    exact ⟨(x0, x1, x2), ⟨w0, w1, w2⟩, c0, c1, c2⟩)
  refine ⟨xs, hxl, fun j u hj => ?_, fun x hx' => ?_, hl⟩
  · have hjl := (List.getElem?_eq_some_iff.1 hj).1
    rw [flat3_len] at hjl
    obtain ⟨i, hij⟩ : ∃ i, i = j / 3 := ⟨_, rfl⟩
    obtain ⟨_, p0, p1, p2⟩ := hx i (by omega)
    obtain ⟨q0, q1, q2⟩ := flat3 (f := fun x : Int × Int × Int => Value.int k0 x.1) (g := fun x => Value.int k1 x.2.1) (k := fun x => Value.int k2 x.2.2) xs i (by omega)
    rcases (show j = i * 3 ∨ j = i * 3 + 1 ∨ j = i * 3 + 2 by omega) with rfl | rfl | rfl
    · rw [q0] at hj
      obtain rfl := Option.some.inj hj
      exact p0
    · rw [q1] at hj
      obtain rfl := Option.some.inj hj
      exact p1
    · rw [q2] at hj
      obtain rfl := Option.some.inj hj
      exact p2
  · obtain ⟨i, hil, rfl⟩ := List.getElem_of_mem hx'
    exact (hx i hil).1

theorem trodAll_below {W W' : World} (hl : laidOutB P = true) (hb : Below W.heap.size W W') : ∀ {ts : List TypeId} {vs : List Value} {ds : List (DataW H)} {p : List MemPlace}, (∀ t ∈ ts, P.readableRec t = true ∧ t < P.types.size) →
    DataW.TrodAll enc P W 0 (fun _ => true) true ts vs ds p → DataW.TrodAll enc P W' 0 (fun b => decide (b < W.heap.size)) true ts vs ds p := by
  intro ts
  induction ts with
  | nil =>
    intro vs ds p _ h
    obtain ⟨rfl, rfl, rfl⟩ := trodAll_nil h
    exact trodAll_mk0
  | cons t ts ih =>
    intro vs ds p hts h
    obtain ⟨v, vs', d, ds', p0, q0, rfl, rfl, rfl, h0, r0⟩ := trodAll_cons h
    have lt0 : ∀ x ∈ p0, x.block < W.heap.size := by obtain ⟨m, hm⟩ := h0; exact DataW.trod_lt m _ _ _ hm
    exact trodAll_cons_mk (Below.trod hl (hts t (by simp)).1 (hts t (by simp)).2 h0 hb lt0) (ih (fun t' h' => hts t' (by simp [h'])) r0)
end

theorem wf_u64 {x : Int} (h : (Lit.int .u64 x).wf = true) : 0 ≤ x ∧ x < 18446744073709551616 := by
  simp only [Lit.wf, Bool.and_eq_true, decide_eq_true_eq] at h
  have h1 : IntKind.u64.min = 0 := rfl
  have h2 : IntKind.u64.max = 18446744073709551615 := rfl
  omega
theorem wf_i64 {x : Int} (h : (Lit.int .i64 x).wf = true) : -9223372036854775808 ≤ x ∧ x ≤ 9223372036854775807 := by
  simp only [Lit.wf, Bool.and_eq_true, decide_eq_true_eq] at h
  have h1 : IntKind.i64.min = -9223372036854775808 := rfl
  have h2 : IntKind.i64.max = 9223372036854775807 := rfl
  omega
theorem own : ownKnob Tryz.prog.godebug = none := by kernel_rfl
theorem laidOut : laidOutB Tryz.prog = true := by kernel_rfl

end Go.Proofs.YtondkkhagbcadaaGreat
