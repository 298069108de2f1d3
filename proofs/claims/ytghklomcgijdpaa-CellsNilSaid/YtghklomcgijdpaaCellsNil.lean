/- The walk of the statement CellsNil. -/
import Derived.Test.YtghklomcgijdpaaProg
import Derived.Test.YtghklomcgijdpaaOpen
import Derived.Test.YtghklomcgijdpaaAlive11
namespace Go.Proofs.Ytghklomcgijdpaa
open Go.RowKit

theorem cindex_nil (m : Int) (w : World) : Calls Try.prog 10 #[.pointer none, .int .u64 m] w fun e w' => e = .returned (.tuple #[.int .i64 0, .bool false]) ∧ w = w' := by
  go_enter Try.func10, Try.ntmps10
  go_wp2
  go_ret2
  exact ⟨rfl, rfl⟩
theorem crep_nil (i : Int) (w : World) : Calls Try.prog 11 #[.pointer none, .int .i64 i] w fun e w' => e = .returned (.int .u64 0) ∧ w = w' := by
  go_enter Try.func11, Try.ntmps11
  go_wp2
  go_ret
  exact ⟨rfl, rfl⟩
theorem crange_nil (i : Int) (w : World) : Calls Try.prog 17 #[.pointer none, .int .i64 i] w fun e w' => e = .returned (.tuple #[.int .u64 0, .int .u64 0]) ∧ w = w' := by
  go_enter Try.func17, Try.ntmps17
  go_wp2
  go_ret2
  exact ⟨rfl, rfl⟩
theorem clen_nil (w : World) : Calls Try.prog 12 #[.pointer none] w fun e w' => e = .returned (.int .i64 0) ∧ w = w' := by
  go_enter Try.func12, Try.ntmps12
  go_wp2
  go_ret
  exact ⟨rfl, rfl⟩
theorem cpart_nil (w : World) : Calls Try.prog 20 #[.pointer none] w fun e w' => e = .returned (.agg #[.int .u64 0, .int .u64 0]) ∧ Below w.heap.size w w' := by
  have s1 := At.new w #[.int .u64 0, .int .u64 0] 29
  go_enter Try.func20, Try.ntmps20
  go_wp2
  have d2 := s1.two
  exact bodyPost_ret (v := .agg #[.int .u64 0, .int .u64 0]) (by simp only [results, Try.f20]; simp [go_sem, d2]) rfl ⟨rfl, (by repeat (first | with_reducible assumption | with_reducible exact Below.refl _ _ | with_reducible refine Below.drew ?_ | with_reducible refine Below.drewN ?_ _ | with_reducible refine Below.setCell ?_ (by first | omega | (simp; done) | (simp; omega)) _ | with_reducible refine Below.alloc ?_ (by first | omega | (simp; done) | (simp; omega) | (simp [World.setCell]; omega)) _))⟩

set_option maxRecDepth 100000 in
set_option maxHeartbeats 2000000 in
theorem cellsNil_walk (w : World) (m : Int) (bdm : 0 ≤ m ∧ m < 18446744073709551616) (i : Int) (bdi : -9223372036854775808 ≤ i ∧ i ≤ 9223372036854775807) :
    Calls Try.prog 7 #[.int .u64 m, .int .i64 i] w fun e w' => e = .returned (.bool true) ∧ Below w.heap.size w w' := by
  go_enter Try.func7, Try.ntmps7
  go_wp2_with fail
  refine (alive_any _).mono ?_
  rintro e w1 ⟨rfl, hb1⟩
  go_wp2_with fail
  refine (cindex_nil m _).mono ?_
  rintro e w2 ⟨rfl, rfl⟩
  go_wp2_with fail
  refine (crange_nil i _).mono ?_
  rintro e w2 ⟨rfl, rfl⟩
  go_wp2_with fail
  refine (crep_nil i _).mono ?_
  rintro e w2 ⟨rfl, rfl⟩
  go_wp2_with fail
  refine (clen_nil _).mono ?_
  rintro e w2 ⟨rfl, rfl⟩
  go_wp2_with fail
  refine (cpart_nil _).mono ?_
  rintro e w2 ⟨rfl, hb⟩
  have hb2 := keep1 hb1 hb
  clear hb hb1
  go_wp2
  go_ret
  exact ⟨by first | rfl | simp, hb2⟩
end Go.Proofs.Ytghklomcgijdpaa

