/- The statement BinsMerges: every call returns true, and each argument reads behind the call as before it. No condition. -/
import Derived.Test.YtplfiheejecjiaaGreatDoorCards
import Derived.Test.YtplfiheejecjiaaGreatDoorTie
import Derived.Test.YtplfiheejecjiaaGreatDoorDoor
import Derived.SevenTiedAt
import Derived.ProofKit
import Derived.Test.YtplfiheejecjiaaGreatDoorOpen
import Derived.Test.YtplfiheejecjiaaGreatDoorBinsMerges
namespace Go.Proofs.YtplfiheejecjiaaGreatDoor
open Go.ChangeShapes Go.WideShapes Go.ChangeAt Go.RowKit

set_option maxRecDepth 100000 in
theorem binsMerges_lifted (os : Os) (started : os.Started) (H : Type) (enc : TypeId × Value → H) :
    ReturnsInHanded {} Tryz.checked os 5 .any (fun w args => (Rows.binsMergesSpec.pre enc Tryz.prog Tryz.f5 [] false w args ∧ laidMetH Tryz.prog laidL w) ∧ sizedMet enc Tryz.prog Tryz.f5 (OpenSpec.ofChange Rows.binsMergesSpec) false w args) (Rows.binsMergesSpec.post enc Tryz.prog Tryz.f5 false true false false) := by
  refine returnsInHanded_of_change_and (C := Tryz.checked) (X := fun w _ => laidMetH Tryz.prog laidL w) (fun _ _ _ hh h => h.of_heap hh) own started (by kernel_rfl) Tryz.func5
    (ChangeSpec.witness_shaped (enc := enc) (C := Tryz.checked) (os := os) (X := fun w _ => laidMetH Tryz.prog laidL w) false (World.doorLaid Tryz.prog 400 os) #[.agg #[.int .u64 0, .int .u64 0, .int .i64 0, .int .i64 0, .int .i64 0, .slice none 0 0], .slice none 0 0, .int .i64 0] 8 rfl (World.shaped_of_RefB (by kernel_rfl) (by kernel_rfl)) (by kernel_rfl) (by kernel_rfl) (by kernel_rfl) (door_met os _)) ?_
  intro W base args ds gs before hval0 hW _ _ hL _
  have hval : ∀ (j : Nat) t v, Tryz.f5.params[j]? = some t → args[j]? = some v → Value.okWide Tryz.prog W .any base t v := hval0
  have hW' := hW
  obtain ⟨p, q, hA0, hV, rfl, _, _⟩ := hW
  have hA : DataW.TrodAll enc Tryz.prog W 0 (fun _ => true) true Tryz.f5.params.toList args.toList ds p := hA0
  rw [Tryz.params5] at hA hval
  have hAk := hA
  obtain ⟨v0, vs0, d0, ds0, p0, q0, hargs, rfl, rfl, h0, r0⟩ := trodAll_cons hA
  obtain ⟨v1, vs1, d1, ds1, p1, q1, rfl, rfl, rfl, h1, r1⟩ := trodAll_cons r0
  obtain ⟨v2, vs2, d2, ds2, p2, q2, rfl, rfl, rfl, h2, r2⟩ := trodAll_cons r1
  obtain ⟨rfl, rfl, rfl⟩ := trodAll_nil r2
  obtain rfl : args = #[v0, v1, v2] := by cases args; simp_all
  obtain ⟨rfl, rfl⟩ := trodVars_none hV
  obtain ⟨cu, cv, cd, cs, cm, Ac, cc, c, rfl, wcu, wcv, wcd, wcs, wcm, rc, wc, lc⟩ := open_case Tryz.underlying27 (by kernel_rfl) (by kernel_rfl) (by kernel_rfl) Tryz.underlying24 (by kernel_rfl) Tryz.underlying22 Tryz.underlying22 Tryz.underlying3 Tryz.underlying3 Tryz.underlying3 Tryz.underlying25 Tryz.underlying44 (by kernel_rfl) (by kernel_rfl) Tryz.underlying2 Tryz.underlying22 (hval 0 27 v0 rfl rfl) h0
  obtain ⟨Avals, lenvals, cvals, rfl⟩ := okWide_slice Tryz.underlying25 (hval 1 25 v1 rfl rfl)
  obtain ⟨vals, rfl, rvals, wvals, lvals⟩ := open_two_rd Tryz.underlying25 Tryz.underlying44 (by kernel_rfl) (by kernel_rfl) Tryz.underlying2 Tryz.underlying22 h1
  obtain ⟨most, rfl, rfl, rfl, wmost⟩ := open_int Tryz.underlying3 (hval 2 3 v2 rfl rfl) h2
  clear hA0 hval0
  have hR : ∀ t ∈ [27, 25, 3], Tryz.prog.readableRec t = true ∧ t < Tryz.prog.types.size := by
    intro t ht
    simp only [List.mem_cons, List.not_mem_nil, or_false] at ht
    rcases ht with rfl | rfl | rfl <;> exact ⟨by kernel_rfl, of_decide_eq_true (by kernel_rfl)⟩
  refine (binsMerges_walk W (tens_of_laid hL) cu cv cd cs cm (wf_u64 wcu) (wf_u64 wcv) (wf_i64 wcd) (wf_i64 wcs) (wf_i64 wcm) _ _ c rc (fun x hx => ⟨wf_i64 (wc x hx).1, wf_u64 (wc x hx).2⟩) lc _ _ vals rvals (fun x hx => ⟨wf_i64 (wvals x hx).1, wf_u64 (wvals x hx).2⟩) lvals most (wf_i64 wmost)).mono fun e W' ⟨he, bel⟩ => ?_
  subst he
  exact ⟨_, rfl, _, _, _, [], _, [], hW', trodAll_mk1 (shut_bool Tryz.underlying4 _), trodAll_below laidOut bel hR hAk, rfl, bel.frame _, fun h => by cases h⟩

theorem binsMerges_row : Rows.BinsMergesSaid :=
  OpenClaim.holds_of_wide 5 Tryz.f5 rfl rfl rfl rfl rfl rfl rfl ⟨rfl, rfl, rfl, rfl, rfl⟩ rfl rfl rfl rfl rfl (by kernel_rfl) Tryz.func5 (by kernel_rfl)
    (of_decide_eq_true (by kernel_rfl)) (by unfold Func.isWrapper; rw [if_neg (of_decide_eq_false (by kernel_rfl))]; exact ⟨rfl, rfl⟩)
    (fun os started H enc _ => binsMerges_lifted os started H enc)
theorem binsMerges_holds : Rows.BinsMergesCardSaid :=
  Claim7.holds_tied_plain_at .later [] [.data] true (true, "ba509935f95d3e3644a1b61f74e6b74b0ea856c72452da1d35e3d80fbce9cb98") true
    binsMerges_row (fun _ h => by cases h) (by kernel_rfl) (fun _ h => by cases h) binsMerges_row_tie rfl ⟨rfl, rfl⟩ (by kernel_rfl) rfl
    (fun f fn hf hfn => by
      obtain rfl : f = 5 := Option.some.inj ((show Tryz.prog.funcNamed "ogive/ogivelaw13.BinsMerges" = some 5 by kernel_rfl).symm.trans hf) |>.symm
      obtain rfl : fn = Tryz.f5 := (Option.some.inj (Tryz.func5.symm.trans hfn)).symm
      exact ⟨by kernel_rfl, fun j t ht => by
        rw [Tryz.params5] at ht
        have hm : t ∈ [27, 25, 3] := by simpa using Array.mem_of_getElem? ht
        have hall : ([27, 25, 3].all fun u => !Tryz.prog.wantsStandIn u) = true := by kernel_rfl
        exact (show Tryz.prog.wantsStandIn t = false by simpa using List.all_eq_true.1 hall t hm)⟩)
    (by kernel_rfl)
#print axioms binsMerges_holds
end Go.Proofs.YtplfiheejecjiaaGreatDoor
