/- The statement LogskErrors: every call returns true, and each argument reads behind the call as before it. No condition. -/
import Derived.Test.YtondkkhagbcadaaGreatRows
import Derived.Test.YtondkkhagbcadaaGreatOpen
import Derived.Test.YtondkkhagbcadaaGreatLogskErrors
namespace Go.Proofs.YtondkkhagbcadaaGreat
open Go.ChangeShapes Go.WideShapes Go.ChangeAt Go.RowKit

set_option maxRecDepth 100000 in
theorem logskErrors_lifted (os : Os) (started : os.Started) (H : Type) (enc : TypeId × Value → H) :
    ReturnsInHanded {} Tryz.checked os 9 .any (Rows.logskErrorsSpec.pre6 enc Tryz.prog Tryz.f9 Rows.logskErrorsRow.domain false) (Rows.logskErrorsSpec.post enc Tryz.prog Tryz.f9 false true false false) := by
  refine returnsInHanded_of_change (C := Tryz.checked) own started (by kernel_rfl) Tryz.func9
    (ChangeSpec.witness6 (enc := enc) (C := Tryz.checked) false ⟨#[], #[.agg #[.int .u64 0, .int .u64 0, .int .i64 0, .int .i64 0, .slice none 0 0], .agg #[.int .u64 0, .int .u64 0], .int .i64 0], []⟩ 8 (by kernel_rfl) (by kernel_rfl) (by kernel_rfl) (by kernel_rfl)) ?_
  intro W base args ds gs before hval0 hW _ _
  have hval : ∀ (j : Nat) t v, Tryz.f9.params[j]? = some t → args[j]? = some v → Value.okWide Tryz.prog W .any base t v := hval0
  have hW' := hW
  obtain ⟨p, q, hA0, hV, rfl, _, _⟩ := hW
  have hA : DataW.TrodAll enc Tryz.prog W 0 (fun _ => true) true Tryz.f9.params.toList args.toList ds p := hA0
  rw [Tryz.params9] at hA hval
  have hAk := hA
  obtain ⟨v0, vs0, d0, ds0, p0, q0, hargs, rfl, rfl, h0, r0⟩ := trodAll_cons hA
  obtain ⟨v1, vs1, d1, ds1, p1, q1, rfl, rfl, rfl, h1, r1⟩ := trodAll_cons r0
  obtain ⟨v2, vs2, d2, ds2, p2, q2, rfl, rfl, rfl, h2, r2⟩ := trodAll_cons r1
  obtain ⟨rfl, rfl, rfl⟩ := trodAll_nil r2
  obtain rfl : args = #[v0, v1, v2] := by cases args; simp_all
  obtain ⟨rfl, rfl⟩ := trodVars_none hV
  obtain ⟨cu, cv, cs, cm, Ac, cc, c, rfl, wcu, wcv, wcs, wcm, rc, wc, lc⟩ := open_case Tryz.underlying27 (by kernel_rfl) (by kernel_rfl) (by kernel_rfl) Tryz.underlying24 (by kernel_rfl) Tryz.underlying22 Tryz.underlying22 Tryz.underlying3 Tryz.underlying3 Tryz.underlying25 Tryz.underlying48 (by kernel_rfl) (by kernel_rfl) Tryz.underlying2 Tryz.underlying22 (hval 0 27 v0 rfl rfl) h0
  obtain ⟨cother0, cother1, yother0, yother1, m1, rfl, _, _, tother0, tother1⟩ := Go.Joins.open_agg2 Tryz.underlying24 (by kernel_rfl) (by kernel_rfl) (hval 1 24 v1 rfl rfl) h1
  obtain ⟨other0, eother0, _, wother0⟩ := DataW.trod_int Tryz.underlying22 tother0
  obtain rfl : cother0 = .int .u64 other0 := by simpa using eother0
  obtain ⟨other1, eother1, _, wother1⟩ := DataW.trod_int Tryz.underlying22 tother1
  obtain rfl : cother1 = .int .u64 other1 := by simpa using eother1
  obtain ⟨x, rfl, rfl, rfl, wx⟩ := open_int Tryz.underlying2 (hval 2 2 v2 rfl rfl) h2
  clear hA0 hval0
  have hR : ∀ t ∈ [27, 24, 2], Tryz.prog.readableRec t = true ∧ t < Tryz.prog.types.size := by
    intro t ht
    simp only [List.mem_cons, List.not_mem_nil, or_false] at ht
    rcases ht with rfl | rfl | rfl <;> exact ⟨by kernel_rfl, of_decide_eq_true (by kernel_rfl)⟩
  refine (logskErrors_walk W cu cv cs cm (wf_u64 wcu) (wf_u64 wcv) (wf_i64 wcs) (wf_i64 wcm) _ _ c rc (fun x hx => ⟨wf_i64 (wc x hx).1, wf_u64 (wc x hx).2⟩) lc other0 other1 (wf_u64 wother0) (wf_u64 wother1) x (wf_i64 wx)).mono fun e W' ⟨he, bel⟩ => ?_
  subst he
  exact ⟨_, rfl, _, _, _, [], _, [], hW', trodAll_mk1 (shut_bool Tryz.underlying4 _), trodAll_below laidOut bel hR hAk, rfl, bel.frame _, fun h => by cases h⟩

theorem logskErrors_holds : Rows.LogskErrorsSaid :=
  OpenClaim.holds_of_wide 9 Tryz.f9 rfl rfl rfl rfl rfl rfl rfl ⟨rfl, rfl, rfl, rfl, rfl⟩ rfl rfl rfl rfl rfl (by kernel_rfl) Tryz.func9 (by kernel_rfl)
    (of_decide_eq_true (by kernel_rfl)) (by unfold Func.isWrapper; rw [if_neg (of_decide_eq_false (by kernel_rfl))]; exact ⟨rfl, rfl⟩)
    (fun os started H enc _ => logskErrors_lifted os started H enc)
#print axioms logskErrors_holds
end Go.Proofs.YtondkkhagbcadaaGreat
