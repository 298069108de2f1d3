/- How an argument reads that is a case of a sketch: a fraction, two numbers and a row of values. -/
import Derived.Test.YtondkkhagbcadaaGreatOpen
import Derived.Lib.SmallJoins
namespace Go.Proofs.YtondkkhagbcadaaGreat
open Go.ChangeShapes Go.WideShapes Go.ChangeAt Go.RowKit Go.Deep

section
variable {H : Type} {enc : TypeId × Value → H} {P : Program} {w : World} {base : Nat} {spare : Nat → Bool} {held : Bool}
theorem array5 {α : Type} {cs : Array α} (h : cs.size = 5) : ∃ c0 c1 c2 c3 c4, cs = #[c0, c1, c2, c3, c4] := by
  obtain ⟨l⟩ := cs
  match l, h with
  | [c0, c1, c2, c3, c4], _ => exact ⟨c0, c1, c2, c3, c4, rfl⟩
theorem trod_struct4 {t : TypeId} {f0 f1 f2 f3 : Field} {fuel : Nat} {cs : List Value} {x : DataW H × List MemPlace} (ht : P.underlying t = some (.struct #[f0, f1, f2, f3])) (h : DataW.trod enc P w base spare held fuel t cs = some x) :
    ∃ (y0 y1 y2 y3 : DataW H × List MemPlace) (n : Nat), DataW.trod enc P w base spare held n f0.type ((cs.drop f0.offset).take (P.cellsOf f0.type)) = some y0 ∧
      DataW.trod enc P w base spare held n f1.type ((cs.drop f1.offset).take (P.cellsOf f1.type)) = some y1 ∧ DataW.trod enc P w base spare held n f2.type ((cs.drop f2.offset).take (P.cellsOf f2.type)) = some y2 ∧
      DataW.trod enc P w base spare held n f3.type ((cs.drop f3.offset).take (P.cellsOf f3.type)) = some y3 := by
  obtain ⟨xs, n, _, _, _, hlen, hf⟩ := DataW.trod_struct ht h
  match xs, hlen with
  | [y0, y1, y2, y3], _ => exact ⟨y0, y1, y2, y3, n, by simpa using hf 0 f0 rfl, by simpa using hf 1 f1 rfl, by simpa using hf 2 f2 rfl, by simpa using hf 3 f3 rfl⟩
theorem int_one {t : TypeId} {k : IntKind} {n : Nat} {c : Value} {y : DataW H × List MemPlace} (h : P.underlying t = some (.int k)) (ht : DataW.trod enc P w base spare held n t [c] = some y) : ∃ x : Int, c = .int k x ∧ (Lit.int k x).wf = true := by
  obtain ⟨x, e, _, wf⟩ := DataW.trod_int h ht
  exact ⟨x, by simpa using e, wf⟩
theorem open_case {r : Reach} {b0 : Nat} {t e : TypeId} {f0 f2 f3 f4 g0 g1 e0 e1 : Field} {v : Value} {d : DataW H} {p : List MemPlace} (hs : P.underlying t = some (.struct #[f0, f2, f3, f4])) (hC : P.cellsOf t = 5)
    (ho : (f0.offset, f2.offset, f3.offset, f4.offset) = (0, 2, 3, 4)) (hc : (P.cellsOf f0.type, P.cellsOf f2.type, P.cellsOf f3.type, P.cellsOf f4.type) = (2, 1, 1, 1))
    (hr : P.underlying f0.type = some (.struct #[g0, g1])) (hgo : (g0.offset, g1.offset, P.cellsOf g0.type, P.cellsOf g1.type) = (0, 1, 1, 1)) (hg0 : P.underlying g0.type = some (.int .u64)) (hg1 : P.underlying g1.type = some (.int .u64))
    (h2 : P.underlying f2.type = some (.int .i64)) (h3 : P.underlying f3.type = some (.int .i64))
    (h4 : P.underlying f4.type = some (.slice e)) (he : P.underlying e = some (.struct #[e0, e1])) (hone : oneCellFields P #[e0, e1] = true) (hCe : P.cellsOf e = 2) (he0 : P.underlying e0.type = some (.int .i64)) (he1 : P.underlying e1.type = some (.int .u64))
    (hv : Value.okWide P w r b0 t v) (h : DataW.Trod enc P w 0 (fun _ => true) true t v d p) :
    ∃ (u v' sd mo : Int) (A : Option Addr) (cap : Nat) (xs : List (Int × Int)), v = .agg #[.int .u64 u, .int .u64 v', .int .i64 sd, .int .i64 mo, .slice A xs.length cap] ∧
      (Lit.int .u64 u).wf = true ∧ (Lit.int .u64 v').wf = true ∧ (Lit.int .i64 sd).wf = true ∧ (Lit.int .i64 mo).wf = true ∧
      Rd w A (xs.flatMap fun x => [.int .i64 x.1, .int .u64 x.2]) ∧ (∀ x ∈ xs, (Lit.int .i64 x.1).wf = true ∧ (Lit.int .u64 x.2).wf = true) ∧ xs.length ≤ 9223372036854775807 := by
  obtain ⟨cs, rfl, hsz⟩ := okWide_struct hs hv
  obtain ⟨c0, c1, c3, c4, c5, rfl⟩ := array5 (hsz.trans hC)
  obtain ⟨fuel, hf⟩ := h
  obtain ⟨y0, y2, y3, y4, n, t0, t2, t3, t4⟩ := trod_struct4 hs hf
  simp only [Prod.mk.injEq] at ho hc hgo
  obtain ⟨o0, o2, o3, o4⟩ := ho
  obtain ⟨k0, k2, k3, k4⟩ := hc
  obtain ⟨q0, q1, j0, j1⟩ := hgo
  rw [o0, k0] at t0
  rw [o2, k2] at t2
  rw [o3, k3] at t3
  rw [o4, k4] at t4
  replace t0 : DataW.trod enc P w 0 (fun _ => true) true n f0.type [c0, c1] = some y0 := t0
  replace t2 : DataW.trod enc P w 0 (fun _ => true) true n f2.type [c3] = some y2 := t2
  replace t3 : DataW.trod enc P w 0 (fun _ => true) true n f3.type [c4] = some y3 := t3
  replace t4 : DataW.trod enc P w 0 (fun _ => true) true n f4.type [c5] = some y4 := t4
  obtain ⟨z0, z1, n', _, _, s0, s1⟩ := trod_struct2 hr t0
  rw [q0, j0] at s0
  rw [q1, j1] at s1
  replace s0 : DataW.trod enc P w 0 (fun _ => true) true n' g0.type [c0] = some z0 := s0
  replace s1 : DataW.trod enc P w 0 (fun _ => true) true n' g1.type [c1] = some z1 := s1
  obtain ⟨x0, rfl, w0⟩ := int_one hg0 s0
  obtain ⟨x1, rfl, w1⟩ := int_one hg1 s1
  obtain ⟨x3, rfl, w3⟩ := int_one h2 t2
  obtain ⟨x4, rfl, w4⟩ := int_one h3 t3
  obtain ⟨A, len, cap, e5⟩ := Go.Joins.slice_form h4 t4
  obtain rfl : c5 = .slice A len cap := by simpa using e5
  have hT : DataW.Trod enc P w 0 (fun _ => true) true f4.type (.slice A len cap) y4.1 y4.2 := ⟨n, by simpa [Value.cells] using t4⟩
  obtain ⟨xs, rfl, hR, hW, hL⟩ := open_two_rd h4 he hone hCe he0 he1 hT
  exact ⟨x0, x1, x3, x4, A, cap, xs, rfl, w0, w1, w3, w4, hR, hW, hL⟩
end
end Go.Proofs.YtondkkhagbcadaaGreat
