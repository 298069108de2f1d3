/- Contract of package bins: Rank. -/
import Derived.Test.YtondkkhagbcadaaGreatProg
import Derived.Test.YtondkkhagbcadaaGreatBnFind
namespace Go.Proofs.YtondkkhagbcadaaGreat
open Go.RowKit

theorem stoBelow_bd {s : Bool} {most lo q tot : Int} {ps : List (Int × Int)} (h : Gd ps) (h0 : 0 ≤ lo) (ht : sumP ps + lo = tot) : (0 ≤ (stoBelow s most lo ps q).1 ∧ (stoBelow s most lo ps q).1 ≤ tot) ∧ (0 ≤ (stoBelow s most lo ps q).2 ∧ (stoBelow s most lo ps q).2 ≤ tot) := by
  have hu := upto_le q h
  cases s
  · unfold stoBelow Hi.lowBelow
    dsimp only
    split <;> dsimp only <;> omega
  · unfold stoBelow Lo.lowBelow
    dsimp only
    split <;> dsimp only <;> omega
def binRank (part : Nat → Int) (s : Bool) (most : Int) (ps0 ps1 : List (Int × Int)) (t0 t1 zero x : Int) : Int × Int :=
  if x = 0 then (t0 + zero, t0 + zero)
  else if x < 0 then (t0 - (stoBelow s most (t0 - sumP ps0) ps0 (part x.natAbs)).2, t0 - (stoBelow s most (t0 - sumP ps0) ps0 (part x.natAbs - 1)).1)
  else (t0 + zero + (stoBelow s most (t1 - sumP ps1) ps1 (part x.natAbs - 1)).1, t0 + zero + (stoBelow s most (t1 - sumP ps1) ps1 (part x.natAbs)).2)
end Go.Proofs.YtondkkhagbcadaaGreat
