/- What the rows' condition says of the table of powers of ten. -/
import Derived.Test.YtplfiheejecjiaaGreatDoorRows
import Derived.Test.YtplfiheejecjiaaGreatDoorSpanAll
import Derived.Lib.LaidTab
import Derived.LaidMore
namespace Go.Proofs.YtplfiheejecjiaaGreatDoor
open Go.RowKit

def laidL : List (String × DataW Unit) := [("ogive/spans.tens", Rows.laid_ogive_spans_tens)]
theorem gTens : Tryz.prog.globalNamed "ogive/spans.tens" = some 0 := by kernel_rfl
theorem tTens : (Tryz.prog.globals[0]?).map (·.type) = some 115 := by kernel_rfl
theorem cellsTens : Tryz.prog.cellsOf 115 = 5 := by kernel_rfl
theorem cellsU64 : Tryz.prog.cellsOf 22 = 1 := by kernel_rfl
theorem tens_of_laid {W : World} (h : laidMetH Tryz.prog laidL W) : TensAt W := by
  rw [MakeChecks.laidMetH_plain _ _ _ (by kernel_rfl)] at h
  have hT : Lib.TabIs Tryz.prog W "ogive/spans.tens" .u64 [1, 10, 100, 1000, 10000] := Lib.tabIs_of_head (rest := []) gTens tTens Tryz.underlying115 Tryz.underlying22 cellsU64 cellsTens h
  have c : ∀ (i : Nat) (z : Int), i < 5 → ([1, 10, 100, 1000, 10000] : List Int).getD i 0 = z → W.cell? ⟨0, i, none⟩ = some (.int .u64 z) := fun i z hi hz => by
    rw [← hz]; exact hT.cell gTens i hi
  have c0 := c 0 1 (by omega) rfl
  refine ⟨?_, c0, c 1 10 (by omega) rfl, c 2 100 (by omega) rfl, c 3 1000 (by omega) rfl, c 4 10000 (by omega) rfl⟩
  rcases Nat.lt_or_ge 0 W.heap.size with h | h
  · exact h
  · exfalso
    unfold World.cell? at c0
    simp [Array.getElem?_eq_none h] at c0
/-- The door's own heap meets the condition. -/
theorem door_met (os : Os) (args : Array Value) : laidMetH Tryz.prog laidL ((World.doorLaid Tryz.prog 400 os).forCall (fun _ _ => 0) ⟨#[], args, []⟩).memory :=
  laidMetH_of_parts3 (fuel := 8) (laidMet_of_run' 8 (by kernel_rfl) (by kernel_rfl)) (by kernel_rfl) (by kernel_rfl)
end Go.Proofs.YtplfiheejecjiaaGreatDoor
