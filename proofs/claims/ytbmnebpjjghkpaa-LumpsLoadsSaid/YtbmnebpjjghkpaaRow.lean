/- Rows of pairs, as the document's own functions read and build them: sums of counts, of one index, up to an index; the index of the t-th; the same rows; a row with so many more. -/
import Derived.Test.YtbmnebpjjghkpaaProg
import Derived.Test.YtbmnebpjjghkpaaBase
import Derived.Test.YtbmnebpjjghkpaaOpen
namespace Go.Proofs.Ytbmnebpjjghkpaa
open Go.RowKit

/-- A slice's address leads to these pairs. -/
def RdP (w : World) (A : Option Addr) (ps : List (Int × Int)) : Prop := Rd w A (ps.flatMap fun x => [.int .i64 x.1, .int .u64 x.2])

theorem RdP.below {w w' : World} {A : Option Addr} {ps : List (Int × Int)} (h : RdP w A ps) (hb : Below w.heap.size w w') : RdP w' A ps := Rd.below h hb
theorem RdP.nil (w : World) (A : Option Addr) : RdP w A [] := Rd.nil w A
theorem RdP.at {w : World} {A : Option Addr} {ps : List (Int × Int)} (h : RdP w A ps) (j : Nat) (hj : j < ps.length) :
    ∃ g o, A = some ⟨g, o, none⟩ ∧ g < w.heap.size ∧ w.cell? ⟨g, o + j * 2, none⟩ = some (.int .i64 (ps[j]'hj).1) ∧ w.cell? ⟨g, o + j * 2 + 1, none⟩ = some (.int .u64 (ps[j]'hj).2) := by
  obtain ⟨q0, q1⟩ := flat2 (f := fun x : Int × Int => Value.int .i64 x.1) (g := fun x => Value.int .u64 x.2) ps j hj
  obtain ⟨g, o, rfl, hg, h0⟩ := h _ _ q0
  obtain ⟨g', o', e, _, h1⟩ := h _ _ q1
  simp only [Option.some.injEq, Addr.mk.injEq, and_true] at e
  obtain ⟨rfl, rfl⟩ := e
  exact ⟨g, o, rfl, hg, h0, by rw [← Nat.add_assoc] at h1; exact h1⟩

/-- A pair in its bounds. -/
def okP (ps : List (Int × Int)) : Prop := ∀ x ∈ ps, (-9223372036854775808 ≤ x.1 ∧ x.1 ≤ 9223372036854775807) ∧ (0 ≤ x.2 ∧ x.2 < 18446744073709551616)
theorem okP.at {ps : List (Int × Int)} (h : okP ps) (j : Nat) (hj : j < ps.length) : (-9223372036854775808 ≤ (ps[j]'hj).1 ∧ (ps[j]'hj).1 ≤ 9223372036854775807) ∧ (0 ≤ (ps[j]'hj).2 ∧ (ps[j]'hj).2 < 18446744073709551616) := h _ (List.getElem_mem hj)

def sumP (ps : List (Int × Int)) : Int := (ps.map fun x => x.2).sum
theorem sumP_take (ps : List (Int × Int)) (k : Nat) (hk : k < ps.length) : sumP (ps.take (k + 1)) = sumP (ps.take k) + (ps[k]'hk).2 := by
  unfold sumP
  rw [List.take_succ_eq_append_getElem hk, List.map_append, List.sum_append]
  simp only [List.map_cons, List.map_nil, List.sum_cons, List.sum_nil, Int.add_zero]
theorem sumP_filter_take (ps : List (Int × Int)) (p : Int × Int → Bool) (k : Nat) (hk : k < ps.length) : sumP ((ps.take (k + 1)).filter p) = sumP ((ps.take k).filter p) + (if p (ps[k]'hk) then (ps[k]'hk).2 else 0) := by
  unfold sumP
  rw [List.take_succ_eq_append_getElem hk, List.filter_append, List.map_append, List.sum_append]
  by_cases h : p (ps[k]'hk) = true <;> simp only [List.filter_cons, h, List.filter_nil, if_true, Bool.false_eq_true, if_false, List.map_cons, List.map_nil, List.sum_cons, List.sum_nil, Int.add_zero]


/-- The index of the t-th one. -/
def findP (t : Int) : Int → List (Int × Int) → Option Int
  | _, [] => none
  | s, p :: l => if 0 < t ∧ t ≤ (s + p.2) % 18446744073709551616 then some p.1 else findP t ((s + p.2) % 18446744073709551616) l

def optI (o : Option Int) : Value := .tuple #[.int .i64 (o.getD 0), .bool o.isSome]



end Go.Proofs.Ytbmnebpjjghkpaa

