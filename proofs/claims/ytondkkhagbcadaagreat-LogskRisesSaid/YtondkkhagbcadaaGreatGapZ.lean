/- How far apart two values are. No program in sight. -/
import Derived.Test.YtondkkhagbcadaaGreatShelf
namespace Go.Proofs.YtondkkhagbcadaaGreat

/-- How far apart two values are. -/
def gapZ (a b : Int) : Nat := (a - b).natAbs
theorem clamp_close {r x lo hi : Int} (h1 : lo ≤ x) (h2 : x ≤ hi) : gapZ (min (max r lo) hi) x ≤ gapZ r x := by unfold gapZ; omega
end Go.Proofs.YtondkkhagbcadaaGreat
