/- The statement HdrErrors: every call returns true, and each argument reads behind the call as before it. No condition. -/
import Derived.Test.YtnkkdciecjhpoaaDoorCards
import Derived.Test.YtnkkdciecjhpoaaDoorTie
import Derived.Test.YtnkkdciecjhpoaaDoorDoor
import Derived.SevenTiedAt
import Derived.ProofKit
import Derived.Test.YtnkkdciecjhpoaaDoorOpen
import Derived.Test.YtnkkdciecjhpoaaDoorHdrErrors
namespace Go.Proofs.YtnkkdciecjhpoaaDoor
open Go.ChangeShapes Go.WideShapes Go.ChangeAt Go.RowKit

set_option maxRecDepth 100000 in
theorem hdrErrors_lifted (os : Os) (started : os.Started) (H : Type) (enc : TypeId × Value → H) :
    ReturnsInHanded {} Tryd.checked os 8 .any (fun w args => (Rows.hdrErrorsSpec.pre enc Tryd.prog Tryd.f8 [] false w args ∧ laidMetH Tryd.prog laidL w) ∧ sizedMet enc Tryd.prog Tryd.f8 (OpenSpec.ofChange Rows.hdrErrorsSpec) false w args) (Rows.hdrErrorsSpec.post enc Tryd.prog Tryd.f8 false true false false) := by
  refine returnsInHanded_of_change_and (C := Tryd.checked) (X := fun w _ => laidMetH Tryd.prog laidL w) (fun _ _ _ hh h => h.of_heap hh) own started (by kernel_rfl) Tryd.func8
    (ChangeSpec.witness_shaped (enc := enc) (C := Tryd.checked) (os := os) (X := fun w _ => laidMetH Tryd.prog laidL w) false (World.doorLaid Tryd.prog 400 os) #[.agg #[.int .i64 0, .int .u64 0], .slice none 0 0, .int .i64 0] 8 rfl (World.shaped_of_RefB (by kernel_rfl) (by kernel_rfl)) (by kernel_rfl) (by kernel_rfl) (by kernel_rfl) (door_met os _)) ?_
  intro W base args ds gs before hval0 hW _ _ hL _
  have hval : ∀ (j : Nat) t v, Tryd.f8.params[j]? = some t → args[j]? = some v → Value.okWide Tryd.prog W .any base t v := hval0
  have hW' := hW
  obtain ⟨p, q, hA0, hV, rfl, _, _⟩ := hW
  have hA : DataW.TrodAll enc Tryd.prog W 0 (fun _ => true) true Tryd.f8.params.toList args.toList ds p := hA0
  rw [Tryd.params8] at hA hval
  have hAk := hA
  obtain ⟨v0, vs0, d0, ds0, p0, q0, hargs, rfl, rfl, h0, r0⟩ := trodAll_cons hA
  obtain ⟨v1, vs1, d1, ds1, p1, q1, rfl, rfl, rfl, h1, r1⟩ := trodAll_cons r0
  obtain ⟨v2, vs2, d2, ds2, p2, q2, rfl, rfl, rfl, h2, r2⟩ := trodAll_cons r1
  obtain ⟨rfl, rfl, rfl⟩ := trodAll_nil r2
  obtain rfl : args = #[v0, v1, v2] := by cases args; simp_all
  obtain ⟨rfl, rfl⟩ := trodVars_none hV
  obtain ⟨cc0, cc1, yc0, yc1, m0, rfl, _, _, tc0, tc1⟩ := Go.Joins.open_agg2 Tryd.underlying45 (by kernel_rfl) (by kernel_rfl) (hval 0 45 v0 rfl rfl) h0
  obtain ⟨c0, ec0, _, wc0⟩ := DataW.trod_int Tryd.underlying3 tc0
  obtain rfl : cc0 = .int .i64 c0 := by simpa using ec0
  obtain ⟨c1, ec1, _, wc1⟩ := DataW.trod_int Tryd.underlying23 tc1
  obtain rfl : cc1 = .int .u64 c1 := by simpa using ec1
  obtain ⟨Avals, lenvals, cvals, rfl⟩ := okWide_slice Tryd.underlying22 (hval 1 22 v1 rfl rfl)
  obtain ⟨vals, rfl, rvals, wvals, lvals⟩ := open_two_rd Tryd.underlying22 Tryd.underlying60 (by kernel_rfl) (by kernel_rfl) Tryd.underlying2 Tryd.underlying23 h1
  obtain ⟨x, rfl, rfl, rfl, wx⟩ := open_int Tryd.underlying2 (hval 2 2 v2 rfl rfl) h2
  clear hA0 hval0
  have hR : ∀ t ∈ [45, 22, 2], Tryd.prog.readableRec t = true ∧ t < Tryd.prog.types.size := by
    intro t ht
    simp only [List.mem_cons, List.not_mem_nil, or_false] at ht
    rcases ht with rfl | rfl | rfl <;> exact ⟨by kernel_rfl, of_decide_eq_true (by kernel_rfl)⟩
  refine (hdrErrors_walk W (tens_of_laid hL) c0 c1 (wf_i64 wc0) (wf_u64 wc1) _ _ vals rvals (fun x hx => ⟨wf_i64 (wvals x hx).1, wf_u64 (wvals x hx).2⟩) lvals x (wf_i64 wx)).mono fun e W' ⟨he, bel⟩ => ?_
  subst he
  exact ⟨_, rfl, _, _, _, [], _, [], hW', trodAll_mk1 (shut_bool Tryd.underlying4 _), trodAll_below laidOut bel hR hAk, rfl, bel.frame _, fun h => by cases h⟩

theorem hdrErrors_row : Rows.HdrErrorsSaid :=
  OpenClaim.holds_of_wide 8 Tryd.f8 rfl rfl rfl rfl rfl rfl rfl ⟨rfl, rfl, rfl, rfl, rfl⟩ rfl rfl rfl rfl rfl (by kernel_rfl) Tryd.func8 (by kernel_rfl)
    (of_decide_eq_true (by kernel_rfl)) (by unfold Func.isWrapper; rw [if_neg (of_decide_eq_false (by kernel_rfl))]; exact ⟨rfl, rfl⟩)
    (fun os started H enc _ => hdrErrors_lifted os started H enc)
theorem hdrErrors_holds : Rows.HdrErrorsCardSaid :=
  Claim7.holds_tied_plain_at .later [] [.data] true (true, "63688710f91a44105f0c04c4a186d5394f1ae67b1f2722a783edc8d5aa57fc3e") false
    hdrErrors_row (fun _ h => by cases h) (by kernel_rfl) (fun _ h => by cases h) hdrErrors_row_tie rfl ⟨rfl, rfl⟩ (by kernel_rfl) rfl
    (fun f fn hf hfn => by
      obtain rfl : f = 8 := Option.some.inj ((show Tryd.prog.funcNamed "ogive/ogivelaw15.HdrErrors" = some 8 by kernel_rfl).symm.trans hf) |>.symm
      obtain rfl : fn = Tryd.f8 := (Option.some.inj (Tryd.func8.symm.trans hfn)).symm
      exact ⟨by kernel_rfl, fun j t ht => by
        rw [Tryd.params8] at ht
        have hm : t ∈ [45, 22, 2] := by simpa using Array.mem_of_getElem? ht
        have hall : ([45, 22, 2].all fun u => !Tryd.prog.wantsStandIn u) = true := by kernel_rfl
        exact (show Tryd.prog.wantsStandIn t = false by simpa using List.all_eq_true.1 hall t hm)⟩)
    (by kernel_rfl)
#print axioms hdrErrors_holds
end Go.Proofs.YtnkkdciecjhpoaaDoor
