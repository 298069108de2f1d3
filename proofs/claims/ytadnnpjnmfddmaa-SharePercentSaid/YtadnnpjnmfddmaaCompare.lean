/- Contract of package wide's Compare. -/
import Derived.Test.YtadnnpjnmfddmaaProg
import Derived.Test.YtadnnpjnmfddmaaBase
namespace Go.Proofs.Ytadnnpjnmfddmaa
open Go.RowKit

theorem cmpI_gt {x y : Int} (h : y < x) : cmpI x y = 1 := by unfold cmpI; rw [if_neg (by omega), if_neg (by omega)]
theorem cmpI_lt {x y : Int} (h : x < y) : cmpI x y = -1 := by unfold cmpI; rw [if_pos h]
theorem cmpI_eq {x y : Int} (h : x = y) : cmpI x y = 0 := by unfold cmpI; rw [if_neg (by omega), if_pos h]

theorem cmpI_neg (x y : Int) : (cmpI x y < 0) ↔ x < y := by
  unfold cmpI; split
  · omega
  · split <;> omega
theorem cmpI_zero (x y : Int) : (cmpI x y = 0) ↔ x = y := by
  unfold cmpI; split
  · omega
  · split <;> omega
theorem cmpI_le (x y : Int) : (cmpI x y ≤ 0) ↔ x ≤ y := by
  unfold cmpI; split
  · omega
  · split <;> omega
theorem cmpI_swap (x y : Int) : cmpI x y = -cmpI y x := by
  unfold cmpI; split <;> split <;> (try split) <;> omega
theorem cmpI_bd (x y : Int) : -1 ≤ cmpI x y ∧ cmpI x y ≤ 1 := by
  unfold cmpI; split <;> (try split) <;> omega


end Go.Proofs.Ytadnnpjnmfddmaa

