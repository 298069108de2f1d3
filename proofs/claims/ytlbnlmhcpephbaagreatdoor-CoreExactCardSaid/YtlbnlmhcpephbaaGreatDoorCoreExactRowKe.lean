/- The statement CoreExact: every call returns true, and each argument reads behind the call as before it. No condition. -/
import Derived.Test.YtlbnlmhcpephbaaGreatDoorCards
import Derived.Test.YtlbnlmhcpephbaaGreatDoorTie
import Derived.Test.YtlbnlmhcpephbaaGreatDoorKe2
import Derived.SevenTiedAt
import Derived.ProofKit
import Derived.Test.YtlbnlmhcpephbaaGreatDoorKe1
import Derived.Test.YtlbnlmhcpephbaaGreatDoorCoreExactKe
import Derived.Test.YtlbnlmhcpephbaaGreatDoorCoreExactFactsKe
namespace Go.Proofs.YtlbnlmhcpephbaaGreatDoor
open Go.ChangeShapes Go.WideShapes Go.ChangeAt Go.RowKit
set_option maxRecDepth 100000 in
theorem coreExact_lifted (os : Os) (started : os.Started) (H : Type) (enc : TypeId × Value → H) :
  ReturnsInHanded {} Tryz.checked os 6 .any (fun w args => (Rows.coreExactSpec.pre enc Tryz.prog Tryz.f6 [] false w args ∧ laidMetH Tryz.prog laidL w) ∧ sizedMet enc Tryz.prog Tryz.f6 (OpenSpec.ofChange Rows.coreExactSpec) false w args) (Rows.coreExactSpec.post enc Tryz.prog Tryz.f6 false true false false) := by
 refine returnsInHanded_of_change_and (C := Tryz.checked) (X := fun w _ => laidMetH Tryz.prog laidL w) (fun _ _ _ hh h => h.of_heap hh) own started (by kernel_rfl) Tryz.func6
  (ChangeSpec.witness_shaped (enc := enc) (C := Tryz.checked) (os := os) (X := fun w _ => laidMetH Tryz.prog laidL w) false (World.doorLaid Tryz.prog 400 os) #[.agg #[.int .i64 0, .int .u64 0, .int .u64 0, .int .i64 0, .int .i64 0, .int .i64 0, .int .u64 0, .int .i64 0, .int .i64 0, .int .i64 0, .int .u64 0], .slice none 0 0, .slice none 0 0] 8 rfl (World.shaped_of_RefB (by kernel_rfl) (by kernel_rfl)) (by kernel_rfl) (by kernel_rfl) (by kernel_rfl) (door_met os _)) ?_
 intro W base args ds gs before hval0 hW _ _ hL _
 have hval : ∀ (j : Nat) t v, Tryz.f6.params[j]? = some t → args[j]? = some v → Value.okWide Tryz.prog W .any base t v := hval0
 have hW' := hW
 obtain ⟨p, q, hA0, hV, rfl, _, _⟩ := hW
 have hA : DataW.TrodAll enc Tryz.prog W 0 (fun _ => true) true Tryz.f6.params.toList args.toList ds p := hA0
 rw [Tryz.params6] at hA hval
 have hAk := hA
 obtain ⟨v0, vs0, d0, ds0, p0, q0, hargs, rfl, rfl, h0, r0⟩ := trodAll_cons hA
 obtain ⟨v1, vs1, d1, ds1, p1, q1, rfl, rfl, rfl, h1, r1⟩ := trodAll_cons r0
 obtain ⟨v2, vs2, d2, ds2, p2, q2, rfl, rfl, rfl, h2, r2⟩ := trodAll_cons r1
 obtain ⟨rfl, rfl, rfl⟩ := trodAll_nil r2
 obtain rfl : args = #[v0, v1, v2] := by cases args; simp_all
 obtain ⟨rfl, rfl⟩ := trodVars_none hV
 obtain ⟨kd, pn, pd, sd, mo, dg, li, de, fa, wi, wo, rfl, wkd, wpn, wpd, wsd, wmo, wdg, wli, wde, wfa, wwi, wwo⟩ := open_sconf Tryz.underlying28 (by kernel_rfl) (by kernel_rfl) (by kernel_rfl) Tryz.underlying22 Tryz.underlying25 (by kernel_rfl) Tryz.underlying23 Tryz.underlying23 Tryz.underlying26 Tryz.underlying3 Tryz.underlying3 Tryz.underlying23 Tryz.underlying3 Tryz.underlying3 Tryz.underlying3 Tryz.underlying23 (hval 0 28 v0 rfl rfl) h0
 obtain ⟨Al, len, cl, rfl⟩ := okWide_slice Tryz.underlying29 (hval 1 29 v1 rfl rfl)
 obtain ⟨ls, hls, rls, lls⟩ := open_leaves (s := 4) Tryz.underlying29 Tryz.underlying70 (by kernel_rfl) (by kernel_rfl) Tryz.underlying35 Tryz.underlying4 Tryz.underlying54 (by kernel_rfl) (by kernel_rfl) Tryz.underlying2 Tryz.underlying23 h1
 obtain ⟨Apicks, lenpicks, cpicks, rfl⟩ := okWide_slice Tryz.underlying30 (hval 2 30 v2 rfl rfl)
 obtain ⟨picks, rfl, rpicks, wpicks, lpicks⟩ := open_ints_rd Tryz.underlying30 Tryz.underlying3 (by kernel_rfl) h2
 clear hA0 hval0
 have hR : ∀ t ∈ [28, 29, 30], Tryz.prog.readableRec t = true ∧ t < Tryz.prog.types.size := by
  intro t ht
  simp only [List.mem_cons, List.not_mem_nil, or_false] at ht
  rcases ht with rfl | rfl | rfl <;> exact ⟨by kernel_rfl, of_decide_eq_true (by kernel_rfl)⟩
 refine (coreExact_walk W (tens_of_laid hL) (Cfg.mk kd pn pd sd mo dg li de fa wi wo) ⟨wf_u64 wpn, wf_u64 wpd, wf_i64 wsd, wf_i64 wmo, wf_i64 wdg, wf_u64 wli⟩ (wf_u64 wwo) Al len cl ls hls lls rls _ _ cpicks picks rfl lpicks rpicks (fun x hx => wf_i64 (wpicks x hx))).mono fun e W' ⟨he, bel⟩ => ?_
 subst he
 exact ⟨_, rfl, _, _, _, [], _, [], hW', trodAll_mk1 (shut_bool Tryz.underlying4 _), trodAll_below laidOut bel hR hAk, rfl, bel.frame _, fun h => by cases h⟩
theorem coreExact_row : Rows.CoreExactSaid :=
 OpenClaim.holds_of_wide 6 Tryz.f6 rfl rfl rfl rfl rfl rfl rfl ⟨rfl, rfl, rfl, rfl, rfl⟩ rfl rfl rfl rfl rfl (by as_aux_lemma => kernel_rfl) Tryz.func6 coreExact_facts
  (of_decide_eq_true (by kernel_rfl)) (by unfold Func.isWrapper; rw [if_neg (of_decide_eq_false (by kernel_rfl))]; exact ⟨rfl, rfl⟩)
  (fun os started H enc _ => coreExact_lifted os started H enc)
theorem coreExact_holds : Rows.CoreExactCardSaid :=
 Claim7.holds_tied_plain_at .later [] [.data] true (true, "2734edf244a04478bdd493330b55485a81c192decb04f9a5b703b5f50bfad26b") true
  coreExact_row (fun _ h => by cases h) (by kernel_rfl) (fun _ h => by cases h) coreExact_row_tie rfl ⟨rfl, rfl⟩ (by kernel_rfl) rfl
  (fun f fn hf hfn => by
   obtain rfl : f = 6 := Option.some.inj ((show Tryz.prog.funcNamed "ogive/ogivetop.CoreExact" = some 6 by kernel_rfl).symm.trans hf) |>.symm
   obtain rfl : fn = Tryz.f6 := (Option.some.inj (Tryz.func6.symm.trans hfn)).symm
   exact ⟨by kernel_rfl, fun j t ht => by
    rw [Tryz.params6] at ht
    have hm : t ∈ [28, 29, 30] := by simpa using Array.mem_of_getElem? ht
    have hall : ([28, 29, 30].all fun u => !Tryz.prog.wantsStandIn u) = true := by kernel_rfl
    exact (show Tryz.prog.wantsStandIn t = false by simpa using List.all_eq_true.1 hall t hm)⟩)
  (by kernel_rfl)
#print axioms coreExact_holds
end Go.Proofs.YtlbnlmhcpephbaaGreatDoor
