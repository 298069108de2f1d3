/- What bins load. -/
import Derived.Test.YtplfiheejecjiaaGreatDoorProg
import Derived.Test.YtplfiheejecjiaaGreatDoorBnLoad1
namespace Go.Proofs.YtplfiheejecjiaaGreatDoor
open Go.RowKit

def RepOk (rep : Int → Int) (q : List (Int × Int)) : Prop := ∀ x ∈ q, 0 ≤ x.1 ∧ rep x.1 ≠ 0
/-- Can it be loaded? -/
structure BLoad (rep : Int → Int) (s : Bool) (most : Int) (q0 q1 : List (Int × Int)) (lo0 lo1 zero : Int) : Prop where
  r0 : RepOk rep q0
  r1 : RepOk rep q1
  l0 : SLoad s most q0 lo0
  l1 : SLoad s most q1 lo1
  sm : (sumP q0 + lo0) + (sumP q1 + lo1) + zero ≤ 9223372036854775807
/-- What Load answers. -/
def BLoadR (b : Nat) (S : List Nat) (k : Bool) (part : Nat → Int) (rep : Int → Int) (s : Bool) (most : Int) (q0 q1 : List (Int × Int)) (lo0 lo1 zero : Int) (w : World) (e : Ending) (w' : World) : Prop :=
  (BLoad rep s most q0 q1 lo0 lo1 zero ∧ e = .returned (.int .i64 0) ∧ ∃ S', GrownS S S' w.heap.size ∧ Bn w' b S' k part rep s most q0 q1 (sumP q0 + lo0) (sumP q1 + lo1) zero ∧ Frame S w w') ∨
  (¬ BLoad rep s most q0 q1 lo0 lo1 zero ∧ e = .returned (.int .i64 1) ∧ Below w.heap.size w w')
def rowOf (q0 q1 : List (Int × Int)) (k : Nat) : List (Int × Int) := if k = 0 then q0 else q1
def lostOf (lo0 lo1 : Int) (k : Nat) : Int := if k = 0 then lo0 else lo1
theorem BLoad.row {rep : Int → Int} {s : Bool} {most : Int} {q0 q1 : List (Int × Int)} {lo0 lo1 zero : Int} (h : BLoad rep s most q0 q1 lo0 lo1 zero) (k : Nat) : RepOk rep (rowOf q0 q1 k) := by
  unfold rowOf; split
  · exact h.r0
  · exact h.r1
theorem BLoad.sl {rep : Int → Int} {s : Bool} {most : Int} {q0 q1 : List (Int × Int)} {lo0 lo1 zero : Int} (h : BLoad rep s most q0 q1 lo0 lo1 zero) (k : Nat) : SLoad s most (rowOf q0 q1 k) (lostOf lo0 lo1 k) := by
  unfold rowOf lostOf; split
  · exact h.l0
  · exact h.l1
end Go.Proofs.YtplfiheejecjiaaGreatDoor
