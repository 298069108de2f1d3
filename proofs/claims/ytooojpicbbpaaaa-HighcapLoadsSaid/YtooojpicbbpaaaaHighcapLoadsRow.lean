/- The statement HighcapLoads: every call returns true, and each argument reads behind the call as before it. No condition. -/
import Derived.Test.YtooojpicbbpaaaaRows
import Derived.Test.YtooojpicbbpaaaaOpen
import Derived.Test.YtooojpicbbpaaaaHighcapLoads
namespace Go.Proofs.Ytooojpicbbpaaaa
open Go.ChangeShapes Go.WideShapes Go.ChangeAt Go.RowKit

set_option maxRecDepth 100000 in
theorem highcapLoads_lifted (os : Os) (started : os.Started) (H : Type) (enc : TypeId × Value → H) :
    ReturnsInHanded {} Try.checked os 5 .any (Rows.highcapLoadsSpec.pre6 enc Try.prog Try.f5 Rows.highcapLoadsRow.domain false) (Rows.highcapLoadsSpec.post enc Try.prog Try.f5 false true false false) := by
  refine returnsInHanded_of_change (C := Try.checked) own started (by kernel_rfl) Try.func5
    (ChangeSpec.witness6 (enc := enc) (C := Try.checked) false ⟨#[], #[.int .i64 0, .slice none 0 0, .agg #[.int .i64 0, .int .u64 0], .slice none 0 0, .int .u64 0], []⟩ 8 (by kernel_rfl) (by kernel_rfl) (by kernel_rfl) (by kernel_rfl)) ?_
  intro W base args ds gs before hval0 hW _ _
  have hval : ∀ (j : Nat) t v, Try.f5.params[j]? = some t → args[j]? = some v → Value.okWide Try.prog W .any base t v := hval0
  have hW' := hW
  obtain ⟨p, q, hA0, hV, rfl, _, _⟩ := hW
  have hA : DataW.TrodAll enc Try.prog W 0 (fun _ => true) true Try.f5.params.toList args.toList ds p := hA0
  rw [Try.params5] at hA hval
  have hAk := hA
  obtain ⟨v0, vs0, d0, ds0, p0, q0, hargs, rfl, rfl, h0, r0⟩ := trodAll_cons hA
  obtain ⟨v1, vs1, d1, ds1, p1, q1, rfl, rfl, rfl, h1, r1⟩ := trodAll_cons r0
  obtain ⟨v2, vs2, d2, ds2, p2, q2, rfl, rfl, rfl, h2, r2⟩ := trodAll_cons r1
  obtain ⟨v3, vs3, d3, ds3, p3, q3, rfl, rfl, rfl, h3, r3⟩ := trodAll_cons r2
  obtain ⟨v4, vs4, d4, ds4, p4, q4, rfl, rfl, rfl, h4, r4⟩ := trodAll_cons r3
  obtain ⟨rfl, rfl, rfl⟩ := trodAll_nil r4
  obtain rfl : args = #[v0, v1, v2, v3, v4] := by cases args; simp_all
  obtain ⟨rfl, rfl⟩ := trodVars_none hV
  obtain ⟨most, rfl, rfl, rfl, wmost⟩ := open_int Try.underlying3 (hval 0 3 v0 rfl rfl) h0
  obtain ⟨Alist, lenlist, clist, rfl⟩ := okWide_slice Try.underlying22 (hval 1 22 v1 rfl rfl)
  obtain ⟨list, rfl, rlist, wlist, llist⟩ := open_two_rd Try.underlying22 Try.underlying34 (by kernel_rfl) (by kernel_rfl) Try.underlying3 Try.underlying32 h1
  obtain ⟨cmore0, cmore1, ymore0, ymore1, m2, rfl, _, _, tmore0, tmore1⟩ := Go.Joins.open_agg2 Try.underlying34 (by kernel_rfl) (by kernel_rfl) (hval 2 34 v2 rfl rfl) h2
  obtain ⟨more0, emore0, _, wmore0⟩ := DataW.trod_int Try.underlying3 tmore0
  obtain rfl : cmore0 = .int .i64 more0 := by simpa using emore0
  obtain ⟨more1, emore1, _, wmore1⟩ := DataW.trod_int Try.underlying32 tmore1
  obtain rfl : cmore1 = .int .u64 more1 := by simpa using emore1
  obtain ⟨Arow, lenrow, crow, rfl⟩ := okWide_slice Try.underlying22 (hval 3 22 v3 rfl rfl)
  obtain ⟨row, rfl, rrow, wrow, lrow⟩ := open_two_rd Try.underlying22 Try.underlying34 (by kernel_rfl) (by kernel_rfl) Try.underlying3 Try.underlying32 h3
  obtain ⟨lost, rfl, rfl, rfl, wlost⟩ := open_int Try.underlying32 (hval 4 32 v4 rfl rfl) h4
  clear hA0 hval0
  have hR : ∀ t ∈ [3, 22, 34, 22, 32], Try.prog.readableRec t = true ∧ t < Try.prog.types.size := by
    intro t ht
    simp only [List.mem_cons, List.not_mem_nil, or_false] at ht
    rcases ht with rfl | rfl | rfl | rfl | rfl <;> exact ⟨by kernel_rfl, of_decide_eq_true (by kernel_rfl)⟩
  refine (highcapLoads_walk W most (wf_i64 wmost) _ _ list rlist (fun x hx => ⟨wf_i64 (wlist x hx).1, wf_u64 (wlist x hx).2⟩) llist more0 more1 (wf_i64 wmore0) (wf_u64 wmore1) _ _ row rrow (fun x hx => ⟨wf_i64 (wrow x hx).1, wf_u64 (wrow x hx).2⟩) lrow lost (wf_u64 wlost)).mono fun e W' ⟨he, bel⟩ => ?_
  subst he
  exact ⟨_, rfl, _, _, _, [], _, [], hW', trodAll_mk1 (shut_bool Try.underlying4 _), trodAll_below laidOut bel hR hAk, rfl, bel.frame _, fun h => by cases h⟩

theorem highcapLoads_holds : Rows.HighcapLoadsSaid :=
  OpenClaim.holds_of_wide 5 Try.f5 rfl rfl rfl rfl rfl rfl rfl ⟨rfl, rfl, rfl, rfl, rfl⟩ rfl rfl rfl rfl rfl (by kernel_rfl) Try.func5 (by kernel_rfl)
    (of_decide_eq_true (by kernel_rfl)) (by unfold Func.isWrapper; rw [if_neg (of_decide_eq_false (by kernel_rfl))]; exact ⟨rfl, rfl⟩)
    (fun os started H enc _ => highcapLoads_lifted os started H enc)
#print axioms highcapLoads_holds
end Go.Proofs.Ytooojpicbbpaaaa

