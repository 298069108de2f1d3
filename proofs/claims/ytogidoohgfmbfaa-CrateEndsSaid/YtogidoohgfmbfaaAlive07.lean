/- What the document tells of layer 7 by an example. -/
import Derived.Test.YtogidoohgfmbfaaProg
import Derived.Test.YtogidoohgfmbfaaFind
namespace Go.Proofs.Ytogidoohgfmbfaa
open Go.RowKit

theorem rowAdd_52 : rowAdd [] 5 2 = [(5, 2)] := rfl
theorem rowAdd_31 : rowAdd [(5, 2)] 3 1 = [(3, 1), (5, 2)] := by decide
theorem rowRoom_52 : rowRoom [] 5 2 := ⟨by decide, by decide⟩
theorem rowRoom_31 : rowRoom [(5, 2)] 3 1 := ⟨by decide, by decide⟩
theorem findV_2 : findV 2 [(3, 1), (5, 2)] = some 5 := by decide

theorem alive_any (w : World) : Calls Try.prog 8 #[] w fun e w' => e = .returned (.bool true) ∧ Below w.heap.size w w' := by
  go_enter Try.func8, Try.ntmps8
  go_wp2_with fail
  refine (cnew _).mono ?_
  rintro e w1 ⟨b, rfl, rfl, hC, hb⟩
  go_wp2_with fail
  refine (cadd w1 5 2 hC (by omega) (by omega) (by omega) (by omega)).mono ?_
  rintro e w2 (⟨hr, _⟩ | ⟨_, rfl, S, hg, hC2, hF2⟩)
  · exact absurd rowRoom_52 hr
  rw [rowAdd_52] at hC2
  have hb2 : Below w.heap.size w w2 := hF2.below' hb hb.size (fun k hk => by rw [List.mem_singleton] at hk; exact ⟨by omega, hC.lt k (by simp [hk])⟩)
  have hW2 : Within S w.heap.size w2.heap.size := fun k hk => ⟨by rcases hg k hk with h | h; · rw [List.mem_singleton] at h; omega
                                                                  · exact Nat.le_trans hb.size h, hC2.lt k hk⟩
  go_wp2_with fail
  refine (cadd w2 3 1 hC2 (by omega) (by omega) (by omega) (by omega)).mono ?_
  rintro e w3 (⟨hr, _⟩ | ⟨_, rfl, S3, hg3, hC3, hF3⟩)
  · exact absurd rowRoom_31 hr
  rw [rowAdd_31] at hC3
  have hb3 : Below w.heap.size w w3 := hF3.below' hb2 hb2.size hW2
  go_wp2_with fail
  refine (crfind_any w3 _ _ 2 hC3.src (by omega) (by omega)).mono ?_
  rintro e w4 ⟨rfl, hb4⟩
  rw [findV_2]
  have hC4 := hC3.below hb4
  have hb4' := keep1 hb3 hb4
  unfold optI
  dsimp only [Option.getD_some, Option.isSome_some]
  go_wp2_with fail
  refine (ctotal _ hC4).mono ?_
  rintro e w5 ⟨rfl, rfl⟩
  rw [show sumP [(3, 1), (5, 2)] = 3 by decide]
  go_wp2
  go_ret
  exact ⟨rfl, hb4'⟩
end Go.Proofs.Ytogidoohgfmbfaa

