/- What the document tells of layer 1 by an example. -/
import Derived.Test.YthbkgahflmgmnaaProg
import Derived.Test.YthbkgahflmgmnaaBase
import Derived.Test.YthbkgahflmgmnaaOver
namespace Go.Proofs.Ythbkgahflmgmnaa
open Go.RowKit

theorem alive_any (w : World) : Calls Try.prog 8 #[] w fun e w' => e = .returned (.bool true) ∧ Below w.heap.size w w' := by
  go_enter Try.func8, Try.ntmps8
  go_wp2_with fail
  refine (ceil_any 7 1 2 _ (by omega) (by omega) (by omega) (by omega) (by omega) (by omega)).mono ?_
  rintro e w1 ⟨rfl, hb⟩
  rw [show ceilQ (7 * 1) 2 = 4 by decide, show ceilOk (7 * 1) 2 = true by decide]
  go_wp2_with fail
  refine (times_any 9223372036854775808 4 _ (by omega) (by omega) (by omega) (by omega)).mono ?_
  rintro e w2 ⟨hi, lo, k1, k2, k3, k4, hX, rfl, hb2⟩
  obtain rfl : hi = 2 := by omega
  obtain rfl : lo = 0 := by omega
  clear hX
  go_wp2
  go_ret
  exact ⟨rfl, hb.trans (hb2.mono hb.size)⟩
end Go.Proofs.Ythbkgahflmgmnaa

