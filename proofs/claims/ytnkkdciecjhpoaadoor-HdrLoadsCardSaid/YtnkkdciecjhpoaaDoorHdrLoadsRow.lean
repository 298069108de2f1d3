/- The statement HdrLoads: every call returns true, and each argument reads behind the call as before it. No condition. -/
import Derived.Test.YtnkkdciecjhpoaaDoorCards
import Derived.Test.YtnkkdciecjhpoaaDoorTie
import Derived.Test.YtnkkdciecjhpoaaDoorDoor
import Derived.SevenTiedAt
import Derived.ProofKit
import Derived.Test.YtnkkdciecjhpoaaDoorOpen
import Derived.Test.YtnkkdciecjhpoaaDoorHdrLoads
import Derived.Test.YtnkkdciecjhpoaaDoorArr2
namespace Go.Proofs.YtnkkdciecjhpoaaDoor
open Go.ChangeShapes Go.WideShapes Go.ChangeAt Go.RowKit

set_option maxRecDepth 100000 in
theorem hdrLoads_lifted (os : Os) (started : os.Started) (H : Type) (enc : TypeId × Value → H) :
    ReturnsInHanded {} Tryd.checked os 5 .any (fun w args => (Rows.hdrLoadsSpec.pre enc Tryd.prog Tryd.f5 [] false w args ∧ laidMetH Tryd.prog laidL w) ∧ sizedMet enc Tryd.prog Tryd.f5 (OpenSpec.ofChange Rows.hdrLoadsSpec) false w args) (Rows.hdrLoadsSpec.post enc Tryd.prog Tryd.f5 false true false false) := by
  refine returnsInHanded_of_change_and (C := Tryd.checked) (X := fun w _ => laidMetH Tryd.prog laidL w) (fun _ _ _ hh h => h.of_heap hh) own started (by kernel_rfl) Tryd.func5
    (ChangeSpec.witness_shaped (enc := enc) (C := Tryd.checked) (os := os) (X := fun w _ => laidMetH Tryd.prog laidL w) false (World.doorLaid Tryd.prog 400 os) #[.int .i64 0, .slice none 0 0, .int .i64 0, .slice none 0 0, .agg #[.int .i64 0, .int .i64 0]] 8 rfl (World.shaped_of_RefB (by kernel_rfl) (by kernel_rfl)) (by kernel_rfl) (by kernel_rfl) (by kernel_rfl) (door_met os _)) ?_
  intro W base args ds gs before hval0 hW _ _ hL _
  have hval : ∀ (j : Nat) t v, Tryd.f5.params[j]? = some t → args[j]? = some v → Value.okWide Tryd.prog W .any base t v := hval0
  have hW' := hW
  obtain ⟨p, q, hA0, hV, rfl, _, _⟩ := hW
  have hA : DataW.TrodAll enc Tryd.prog W 0 (fun _ => true) true Tryd.f5.params.toList args.toList ds p := hA0
  rw [Tryd.params5] at hA hval
  have hAk := hA
  obtain ⟨v0, vs0, d0, ds0, p0, q0, hargs, rfl, rfl, h0, r0⟩ := trodAll_cons hA
  obtain ⟨v1, vs1, d1, ds1, p1, q1, rfl, rfl, rfl, h1, r1⟩ := trodAll_cons r0
  obtain ⟨v2, vs2, d2, ds2, p2, q2, rfl, rfl, rfl, h2, r2⟩ := trodAll_cons r1
  obtain ⟨v3, vs3, d3, ds3, p3, q3, rfl, rfl, rfl, h3, r3⟩ := trodAll_cons r2
  obtain ⟨v4, vs4, d4, ds4, p4, q4, rfl, rfl, rfl, h4, r4⟩ := trodAll_cons r3
  obtain ⟨rfl, rfl, rfl⟩ := trodAll_nil r4
  obtain rfl : args = #[v0, v1, v2, v3, v4] := by cases args; simp_all
  obtain ⟨rfl, rfl⟩ := trodVars_none hV
  obtain ⟨digits, rfl, rfl, rfl, wdigits⟩ := open_int Tryd.underlying3 (hval 0 3 v0 rfl rfl) h0
  obtain ⟨Avals, lenvals, cvals, rfl⟩ := okWide_slice Tryd.underlying22 (hval 1 22 v1 rfl rfl)
  obtain ⟨vals, rfl, rvals, wvals, lvals⟩ := open_two_rd Tryd.underlying22 Tryd.underlying60 (by kernel_rfl) (by kernel_rfl) Tryd.underlying2 Tryd.underlying23 h1
  obtain ⟨x, rfl, rfl, rfl, wx⟩ := open_int Tryd.underlying2 (hval 2 2 v2 rfl rfl) h2
  obtain ⟨Arow, lenrow, crow, rfl⟩ := okWide_slice Tryd.underlying50 (hval 3 50 v3 rfl rfl)
  obtain ⟨row, rfl, rrow, wrow, lrow⟩ := open_two_rd Tryd.underlying50 Tryd.underlying66 (by kernel_rfl) (by kernel_rfl) Tryd.underlying3 Tryd.underlying23 h3
  obtain ⟨ends0, ends1, rfl, wends0, wends1⟩ := open_arr2 Tryd.underlying51 Tryd.underlying2 (by kernel_rfl) (by kernel_rfl) (hval 4 51 v4 rfl rfl) h4
  clear hA0 hval0
  have hR : ∀ t ∈ [3, 22, 2, 50, 51], Tryd.prog.readableRec t = true ∧ t < Tryd.prog.types.size := by
    intro t ht
    simp only [List.mem_cons, List.not_mem_nil, or_false] at ht
    rcases ht with rfl | rfl | rfl | rfl | rfl <;> exact ⟨by kernel_rfl, of_decide_eq_true (by kernel_rfl)⟩
  refine (hdrLoads_walk W (tens_of_laid hL) digits (wf_i64 wdigits) _ _ vals rvals (fun x hx => ⟨wf_i64 (wvals x hx).1, wf_u64 (wvals x hx).2⟩) lvals x (wf_i64 wx) _ _ row rrow (fun x hx => ⟨wf_i64 (wrow x hx).1, wf_u64 (wrow x hx).2⟩) lrow ends0 ends1 (wf_i64 wends0) (wf_i64 wends1)).mono fun e W' ⟨he, bel⟩ => ?_
  subst he
  exact ⟨_, rfl, _, _, _, [], _, [], hW', trodAll_mk1 (shut_bool Tryd.underlying4 _), trodAll_below laidOut bel hR hAk, rfl, bel.frame _, fun h => by cases h⟩

theorem hdrLoads_row : Rows.HdrLoadsSaid :=
  OpenClaim.holds_of_wide 5 Tryd.f5 rfl rfl rfl rfl rfl rfl rfl ⟨rfl, rfl, rfl, rfl, rfl⟩ rfl rfl rfl rfl rfl (by kernel_rfl) Tryd.func5 (by kernel_rfl)
    (of_decide_eq_true (by kernel_rfl)) (by unfold Func.isWrapper; rw [if_neg (of_decide_eq_false (by kernel_rfl))]; exact ⟨rfl, rfl⟩)
    (fun os started H enc _ => hdrLoads_lifted os started H enc)
theorem hdrLoads_holds : Rows.HdrLoadsCardSaid :=
  Claim7.holds_tied_plain_at .later [] [.data] true (true, "63688710f91a44105f0c04c4a186d5394f1ae67b1f2722a783edc8d5aa57fc3e") false
    hdrLoads_row (fun _ h => by cases h) (by kernel_rfl) (fun _ h => by cases h) hdrLoads_row_tie rfl ⟨rfl, rfl⟩ (by kernel_rfl) rfl
    (fun f fn hf hfn => by
      obtain rfl : f = 5 := Option.some.inj ((show Tryd.prog.funcNamed "ogive/ogivelaw15.HdrLoads" = some 5 by kernel_rfl).symm.trans hf) |>.symm
      obtain rfl : fn = Tryd.f5 := (Option.some.inj (Tryd.func5.symm.trans hfn)).symm
      exact ⟨by kernel_rfl, fun j t ht => by
        rw [Tryd.params5] at ht
        have hm : t ∈ [3, 22, 2, 50, 51] := by simpa using Array.mem_of_getElem? ht
        have hall : ([3, 22, 2, 50, 51].all fun u => !Tryd.prog.wantsStandIn u) = true := by kernel_rfl
        exact (show Tryd.prog.wantsStandIn t = false by simpa using List.all_eq_true.1 hall t hm)⟩)
    (by kernel_rfl)
#print axioms hdrLoads_holds
end Go.Proofs.YtnkkdciecjhpoaaDoor
