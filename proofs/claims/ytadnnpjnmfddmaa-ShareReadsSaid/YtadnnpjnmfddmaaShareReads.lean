/- The walk of the statement ShareReads. -/
import Derived.Test.YtadnnpjnmfddmaaProg
import Derived.Test.YtadnnpjnmfddmaaOpen
import Derived.Test.YtadnnpjnmfddmaaAlive03
import Derived.Test.YtadnnpjnmfddmaaRRead
namespace Go.Proofs.Ytadnnpjnmfddmaa
open Go.RowKit

set_option maxHeartbeats 2000000 in
theorem shareReads_walk (w : World) (s : ByteArray) (bds : s.size ≤ 9223372036854775807) :
    Calls Try.prog 5 #[.string s] w fun e w' => e = .returned (.bool true) ∧ Below w.heap.size w w' := by
  go_enter Try.func5, Try.ntmps5
  go_wp2_with fail
  refine (alive_any _).mono ?_
  rintro e w1 ⟨rfl, hb1⟩
  by_cases hl : 100 < s.size
  · have hl' : (100 : Int) < s.size := by omega
    go_wp2
    go_ret
    exact ⟨rfl, hb1⟩
  have hl' : ¬ (100 : Int) < s.size := by omega
  go_wp2_with fail
  refine (read_any s _ (by omega)).mono ?_
  rintro e w2 ⟨rfl, hb⟩
  have hb2 := keep1 hb1 hb
  clear hb hb1
  have z2 := hb2.size
  obtain ⟨⟨⟨a, b⟩, o⟩, hV⟩ : ∃ V, readV s = V := ⟨_, rfl⟩
  rw [hV]
  have HV := Lib.hid hV
  clear hV
  unfold partV
  dsimp only
  go_wp2_with fail
  refine (rread_any s _ (by omega)).mono ?_
  rintro e w3 ⟨rfl, hb⟩
  rw [HV.out]
  have s1 : At w3 w2.heap.size #[.int .u64 a, .int .u64 b] 24 := At.below (At.new' _ _ _ rfl) hb
  have hb3 : Below w.heap.size w w3 := Below.trans (by repeat (first | with_reducible assumption | with_reducible exact Below.refl _ _ | with_reducible refine Below.drew ?_ | with_reducible refine Below.drewN ?_ _ | with_reducible refine Below.setCell ?_ (by first | omega | (simp; done) | (simp; omega)) _ | with_reducible refine Below.alloc ?_ (by first | omega | (simp; done) | (simp; omega) | (simp [World.setCell]; omega)) _)) (hb.mono (by first | omega | (simp; done) | (simp; omega) | (simp [World.setCell]; omega)))
  have f1 := s1.two
  have l1 := s1.lt
  have z3 := hb3.size
  clear hb
  unfold partV
  dsimp only
  go_wp2
  go_ret
  exact ⟨by first | rfl | simp, (by repeat (first | with_reducible assumption | with_reducible exact Below.refl _ _ | with_reducible refine Below.drew ?_ | with_reducible refine Below.drewN ?_ _ | with_reducible refine Below.setCell ?_ (by first | omega | (simp; done) | (simp; omega)) _ | with_reducible refine Below.alloc ?_ (by first | omega | (simp; done) | (simp; omega) | (simp [World.setCell]; omega)) _))⟩
end Go.Proofs.Ytadnnpjnmfddmaa

