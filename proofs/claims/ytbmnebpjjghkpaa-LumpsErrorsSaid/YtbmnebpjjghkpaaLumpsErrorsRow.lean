/- The statement LumpsErrors: every call returns true, and each argument reads behind the call as before it. No condition. -/
import Derived.Test.YtbmnebpjjghkpaaRows
import Derived.Test.YtbmnebpjjghkpaaOpen
import Derived.Test.YtbmnebpjjghkpaaLumpsErrors
namespace Go.Proofs.Ytbmnebpjjghkpaa
open Go.ChangeShapes Go.WideShapes Go.ChangeAt Go.RowKit

set_option maxRecDepth 100000 in
theorem lumpsErrors_lifted (os : Os) (started : os.Started) (H : Type) (enc : TypeId × Value → H) :
    ReturnsInHanded {} Try.checked os 8 .any (Rows.lumpsErrorsSpec.pre6 enc Try.prog Try.f8 Rows.lumpsErrorsRow.domain false) (Rows.lumpsErrorsSpec.post enc Try.prog Try.f8 false true false false) := by
  refine returnsInHanded_of_change (C := Try.checked) own started (by kernel_rfl) Try.func8
    (ChangeSpec.witness6 (enc := enc) (C := Try.checked) false ⟨#[], #[.int .i64 0, .slice none 0 0, .int .i64 0, .agg #[.int .u64 0, .int .u64 0]], []⟩ 8 (by kernel_rfl) (by kernel_rfl) (by kernel_rfl) (by kernel_rfl)) ?_
  intro W base args ds gs before hval0 hW _ _
  have hval : ∀ (j : Nat) t v, Try.f8.params[j]? = some t → args[j]? = some v → Value.okWide Try.prog W .any base t v := hval0
  have hW' := hW
  obtain ⟨p, q, hA0, hV, rfl, _, _⟩ := hW
  have hA : DataW.TrodAll enc Try.prog W 0 (fun _ => true) true Try.f8.params.toList args.toList ds p := hA0
  rw [Try.params8] at hA hval
  have hAk := hA
  obtain ⟨v0, vs0, d0, ds0, p0, q0, hargs, rfl, rfl, h0, r0⟩ := trodAll_cons hA
  obtain ⟨v1, vs1, d1, ds1, p1, q1, rfl, rfl, rfl, h1, r1⟩ := trodAll_cons r0
  obtain ⟨v2, vs2, d2, ds2, p2, q2, rfl, rfl, rfl, h2, r2⟩ := trodAll_cons r1
  obtain ⟨v3, vs3, d3, ds3, p3, q3, rfl, rfl, rfl, h3, r3⟩ := trodAll_cons r2
  obtain ⟨rfl, rfl, rfl⟩ := trodAll_nil r3
  obtain rfl : args = #[v0, v1, v2, v3] := by cases args; simp_all
  obtain ⟨rfl, rfl⟩ := trodVars_none hV
  obtain ⟨most, rfl, rfl, rfl, wmost⟩ := open_int Try.underlying3 (hval 0 3 v0 rfl rfl) h0
  obtain ⟨Avals, lenvals, cvals, rfl⟩ := okWide_slice Try.underlying22 (hval 1 22 v1 rfl rfl)
  obtain ⟨vals, rfl, rvals, wvals, lvals⟩ := open_two_rd Try.underlying22 Try.underlying46 (by kernel_rfl) (by kernel_rfl) Try.underlying2 Try.underlying39 h1
  obtain ⟨other, rfl, rfl, rfl, wother⟩ := open_int Try.underlying3 (hval 2 3 v2 rfl rfl) h2
  obtain ⟨cp0, cp1, yp0, yp1, m3, rfl, _, _, tp0, tp1⟩ := Go.Joins.open_agg2 Try.underlying58 (by kernel_rfl) (by kernel_rfl) (hval 3 58 v3 rfl rfl) h3
  obtain ⟨p0, ep0, _, wp0⟩ := DataW.trod_int Try.underlying39 tp0
  obtain rfl : cp0 = .int .u64 p0 := by simpa using ep0
  obtain ⟨p1, ep1, _, wp1⟩ := DataW.trod_int Try.underlying39 tp1
  obtain rfl : cp1 = .int .u64 p1 := by simpa using ep1
  clear hA0 hval0
  have hR : ∀ t ∈ [3, 22, 3, 58], Try.prog.readableRec t = true ∧ t < Try.prog.types.size := by
    intro t ht
    simp only [List.mem_cons, List.not_mem_nil, or_false] at ht
    rcases ht with rfl | rfl | rfl | rfl <;> exact ⟨by kernel_rfl, of_decide_eq_true (by kernel_rfl)⟩
  refine (lumpsErrors_walk W most (wf_i64 wmost) _ _ vals rvals (fun x hx => ⟨wf_i64 (wvals x hx).1, wf_u64 (wvals x hx).2⟩) lvals other (wf_i64 wother) p0 p1 (wf_u64 wp0) (wf_u64 wp1)).mono fun e W' ⟨he, bel⟩ => ?_
  subst he
  exact ⟨_, rfl, _, _, _, [], _, [], hW', trodAll_mk1 (shut_bool Try.underlying4 _), trodAll_below laidOut bel hR hAk, rfl, bel.frame _, fun h => by cases h⟩

theorem lumpsErrors_holds : Rows.LumpsErrorsSaid :=
  OpenClaim.holds_of_wide 8 Try.f8 rfl rfl rfl rfl rfl rfl rfl ⟨rfl, rfl, rfl, rfl, rfl⟩ rfl rfl rfl rfl rfl (by kernel_rfl) Try.func8 (by kernel_rfl)
    (of_decide_eq_true (by kernel_rfl)) (by unfold Func.isWrapper; rw [if_neg (of_decide_eq_false (by kernel_rfl))]; exact ⟨rfl, rfl⟩)
    (fun os started H enc _ => lumpsErrors_lifted os started H enc)
#print axioms lumpsErrors_holds
end Go.Proofs.Ytbmnebpjjghkpaa

