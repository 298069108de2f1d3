/- The statement WideSums: every call returns true, and each argument reads behind the call as before it. No condition. -/
import Derived.Test.YthbkgahflmgmnaaRows
import Derived.Test.YthbkgahflmgmnaaOpen
import Derived.Test.YthbkgahflmgmnaaWideSums
namespace Go.Proofs.Ythbkgahflmgmnaa
open Go.ChangeShapes Go.WideShapes Go.ChangeAt Go.RowKit

set_option maxRecDepth 100000 in
theorem wideSums_lifted (os : Os) (started : os.Started) (H : Type) (enc : TypeId × Value → H) :
    ReturnsInHanded {} Try.checked os 7 .any (Rows.wideSumsSpec.pre6 enc Try.prog Try.f7 Rows.wideSumsRow.domain false) (Rows.wideSumsSpec.post enc Try.prog Try.f7 false true false false) := by
  refine returnsInHanded_of_change (C := Try.checked) own started (by kernel_rfl) Try.func7
    (ChangeSpec.witness6 (enc := enc) (C := Try.checked) false ⟨#[], #[.agg #[.int .u64 0, .int .u64 0], .agg #[.int .u64 0, .int .u64 0], .agg #[.int .u64 0, .int .u64 0]], []⟩ 8 (by kernel_rfl) (by kernel_rfl) (by kernel_rfl) (by kernel_rfl)) ?_
  intro W base args ds gs before hval0 hW _ _
  have hval : ∀ (j : Nat) t v, Try.f7.params[j]? = some t → args[j]? = some v → Value.okWide Try.prog W .any base t v := hval0
  have hW' := hW
  obtain ⟨p, q, hA0, hV, rfl, _, _⟩ := hW
  have hA : DataW.TrodAll enc Try.prog W 0 (fun _ => true) true Try.f7.params.toList args.toList ds p := hA0
  rw [Try.params7] at hA hval
  have hAk := hA
  obtain ⟨v0, vs0, d0, ds0, p0, q0, hargs, rfl, rfl, h0, r0⟩ := trodAll_cons hA
  obtain ⟨v1, vs1, d1, ds1, p1, q1, rfl, rfl, rfl, h1, r1⟩ := trodAll_cons r0
  obtain ⟨v2, vs2, d2, ds2, p2, q2, rfl, rfl, rfl, h2, r2⟩ := trodAll_cons r1
  obtain ⟨rfl, rfl, rfl⟩ := trodAll_nil r2
  obtain rfl : args = #[v0, v1, v2] := by cases args; simp_all
  obtain ⟨rfl, rfl⟩ := trodVars_none hV
  obtain ⟨ca0, ca1, ya0, ya1, m0, rfl, _, _, ta0, ta1⟩ := Go.Joins.open_agg2 Try.underlying24 (by kernel_rfl) (by kernel_rfl) (hval 0 24 v0 rfl rfl) h0
  obtain ⟨a0, ea0, _, wa0⟩ := DataW.trod_int Try.underlying22 ta0
  obtain rfl : ca0 = .int .u64 a0 := by simpa using ea0
  obtain ⟨a1, ea1, _, wa1⟩ := DataW.trod_int Try.underlying22 ta1
  obtain rfl : ca1 = .int .u64 a1 := by simpa using ea1
  obtain ⟨cb0, cb1, yb0, yb1, m1, rfl, _, _, tb0, tb1⟩ := Go.Joins.open_agg2 Try.underlying24 (by kernel_rfl) (by kernel_rfl) (hval 1 24 v1 rfl rfl) h1
  obtain ⟨b0, eb0, _, wb0⟩ := DataW.trod_int Try.underlying22 tb0
  obtain rfl : cb0 = .int .u64 b0 := by simpa using eb0
  obtain ⟨b1, eb1, _, wb1⟩ := DataW.trod_int Try.underlying22 tb1
  obtain rfl : cb1 = .int .u64 b1 := by simpa using eb1
  obtain ⟨cc0, cc1, yc0, yc1, m2, rfl, _, _, tc0, tc1⟩ := Go.Joins.open_agg2 Try.underlying24 (by kernel_rfl) (by kernel_rfl) (hval 2 24 v2 rfl rfl) h2
  obtain ⟨c0, ec0, _, wc0⟩ := DataW.trod_int Try.underlying22 tc0
  obtain rfl : cc0 = .int .u64 c0 := by simpa using ec0
  obtain ⟨c1, ec1, _, wc1⟩ := DataW.trod_int Try.underlying22 tc1
  obtain rfl : cc1 = .int .u64 c1 := by simpa using ec1
  clear hA0 hval0
  have hR : ∀ t ∈ [24, 24, 24], Try.prog.readableRec t = true ∧ t < Try.prog.types.size := by
    intro t ht
    simp only [List.mem_cons, List.not_mem_nil, or_false] at ht
    rcases ht with rfl | rfl | rfl <;> exact ⟨by kernel_rfl, of_decide_eq_true (by kernel_rfl)⟩
  refine (wideSums_walk W a0 a1 (wf_u64 wa0) (wf_u64 wa1) b0 b1 (wf_u64 wb0) (wf_u64 wb1) c0 c1 (wf_u64 wc0) (wf_u64 wc1)).mono fun e W' ⟨he, bel⟩ => ?_
  subst he
  exact ⟨_, rfl, _, _, _, [], _, [], hW', trodAll_mk1 (shut_bool Try.underlying4 _), trodAll_below laidOut bel hR hAk, rfl, bel.frame _, fun h => by cases h⟩

theorem wideSums_holds : Rows.WideSumsSaid :=
  OpenClaim.holds_of_wide 7 Try.f7 rfl rfl rfl rfl rfl rfl rfl ⟨rfl, rfl, rfl, rfl, rfl⟩ rfl rfl rfl rfl rfl (by kernel_rfl) Try.func7 (by kernel_rfl)
    (of_decide_eq_true (by kernel_rfl)) (by unfold Func.isWrapper; rw [if_neg (of_decide_eq_false (by kernel_rfl))]; exact ⟨rfl, rfl⟩)
    (fun os started H enc _ => wideSums_lifted os started H enc)
#print axioms wideSums_holds
end Go.Proofs.Ythbkgahflmgmnaa

