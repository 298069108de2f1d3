/- What the document tells of layer 3 by an example. -/
import Derived.Test.YtadnnpjnmfddmaaProg
import Derived.Test.YtadnnpjnmfddmaaRead
namespace Go.Proofs.Ytadnnpjnmfddmaa
open Go.RowKit

theorem readV_25 : readV (⟨#[50, 53, 37]⟩ : ByteArray) = ((25, 100), true) := by decide

theorem alive_any (w : World) : Calls Try.prog 9 #[] w fun e w' => e = .returned (.bool true) ∧ Below w.heap.size w w' := by
  go_enter Try.func9, Try.ntmps9
  go_wp2_with fail
  refine (place_any 1 2 5 _ (by omega) (by omega) (by omega) (by omega) (by omega) (by omega)).mono ?_
  rintro e w1 ⟨rfl, hb1⟩
  rw [show placeT 1 2 5 = 3 by decide, show placeE 1 2 5 = 0 by decide]
  go_wp2_with fail
  refine (read_any _ _ (by decide)).mono ?_
  rintro e w2 ⟨rfl, hb⟩
  rw [readV_25]
  have hb2 := keep1 hb1 hb
  have z2 := hb2.size
  clear hb hb1
  unfold partV
  dsimp only
  go_wp2
  go_ret
  exact ⟨rfl, (by repeat (first | with_reducible assumption | with_reducible exact Below.refl _ _ | with_reducible refine Below.drew ?_ | with_reducible refine Below.drewN ?_ _ | with_reducible refine Below.setCell ?_ (by first | omega | (simp; done) | (simp; omega)) _ | with_reducible refine Below.alloc ?_ (by first | omega | (simp; done) | (simp; omega) | (simp [World.setCell]; omega)) _))⟩
end Go.Proofs.Ytadnnpjnmfddmaa

