/- The statement LogskOrder: every call returns true, and each argument reads behind the call as before it. The second form: where what it reads is of bulk at most 1048576. -/
import Derived.Test.YtondkkhagbcadaaGreatRows
import Derived.Test.YtondkkhagbcadaaGreatOpen
import Derived.Test.YtondkkhagbcadaaGreatLogskOrder
import Derived.JoinedCond
namespace Go.Proofs.YtondkkhagbcadaaGreat
open Go.ChangeShapes Go.WideShapes Go.ChangeAt Go.RowKit Go.Deep

theorem bulk_one {H : Type} (d : DataW H) : 1 ≤ Rows.uptoBulk d := by
  cases d with
  | lit l => cases l <;> simp [Rows.uptoBulk]
  | _ => simp [Rows.uptoBulk]
theorem bulk_len {H : Type} : ∀ l : List (DataW H), l.length ≤ Rows.uptoBulkAll l
  | [] => by simp
  | x :: r => by
    have h1 := bulk_one x
    have h2 := bulk_len r
    simp only [Rows.uptoBulkAll, List.length_cons]; omega
/-- A case's values are no more than its bulk. -/
theorem case_len {H : Type} {enc : TypeId × Value → H} {P : Program} {w : World} {t e : TypeId} {f0 f2 f3 f4 : Field} {v0 v1 v2 v3 : Value} {A : Option Addr} {len cap : Nat} {d : DataW H} {p : List MemPlace} (hs : P.underlying t = some (.struct #[f0, f2, f3, f4])) (ho : f4.offset = 4) (hc : P.cellsOf f4.type = 1)
    (h4 : P.underlying f4.type = some (.slice e)) (h : DataW.Trod enc P w 0 (fun _ => true) true t (.agg #[v0, v1, v2, v3, .slice A len cap]) d p) : len ≤ Rows.uptoBulk d := by
  obtain ⟨fuel, hf⟩ := h
  obtain ⟨xs, n, _, hx, _, hlen, hg⟩ := DataW.trod_struct hs hf
  match xs, hlen with
  | [y0, y1, y2, y3], _ =>
    have t4 : DataW.trod enc P w 0 (fun _ => true) true n f4.type (([v0, v1, v2, v3, .slice A len cap].drop f4.offset).take (P.cellsOf f4.type)) = some y3 := hg 3 f4 rfl
    rw [ho, hc] at t4
    replace t4 : DataW.trod enc P w 0 (fun _ => true) true n f4.type [.slice A len cap] = some y3 := t4
    obtain ⟨rfl, -⟩ := Prod.mk.injEq .. ▸ hx
    rcases open_slice h4 t4 with ⟨hcs, _⟩ | ⟨a, len', cap', m, n', D, Pl, hcs, _, _, _, _, rfl, _⟩
    · simp only [List.cons.injEq, and_true, Value.slice.injEq] at hcs
      omega
    · simp only [List.cons.injEq, and_true, Value.slice.injEq] at hcs
      have := bulk_len ((List.range len').map D)
      simp only [List.length_map, List.length_range] at this
      simp only [Rows.uptoBulk, Rows.uptoBulkAll, List.map_cons, List.map_nil]
      omega

set_option maxRecDepth 100000 in
theorem logskOrder_lifted (os : Os) (started : os.Started) (H : Type) (enc : TypeId × Value → H) (F : Stop.Interp) :
    ReturnsInHanded {} Tryz.checked os 7 .any ((Rows.OpenSpec.upto Rows.logskOrderSpec).pre6 enc Tryz.prog Tryz.f7 Rows.logskOrderUptoRow.domain false) (((Rows.OpenSpec.upto Rows.logskOrderSpec).at F).post enc Tryz.prog Tryz.f7 false true false false) := by
  refine returnsInHanded_of_cond (C := Tryz.checked) (s := Rows.OpenSpec.upto Rows.logskOrderSpec) (k := Rows.uptoSmall) rfl own started (by kernel_rfl) Tryz.func7
    (OpenSpec.witness (enc := enc) (C := Tryz.checked) (s := Rows.OpenSpec.upto Rows.logskOrderSpec) (k := Rows.uptoSmall) rfl false ⟨#[], #[.agg #[.int .u64 0, .int .u64 0, .int .i64 0, .int .i64 0, .slice none 0 0], .int .i64 0, .agg #[.int .u64 0, .int .u64 0]], []⟩ 8 (by kernel_rfl) (by kernel_rfl) (by kernel_rfl)
      (x := ([.agg [.agg [.lit (.int .u64 0), .lit (.int .u64 0)], .lit (.int .i64 0), .lit (.int .i64 0), .nil], .lit (.int .i64 0), .agg [.lit (.int .u64 0), .lit (.int .u64 0)]], [], [])) (by kernel_rfl) rfl (by kernel_rfl)) ?_
  intro W base args ds gs before hval0 hW _ hk _
  have hval : ∀ (j : Nat) t v, Tryz.f7.params[j]? = some t → args[j]? = some v → Value.okWide Tryz.prog W .any base t v := hval0
  have hW' := hW
  obtain ⟨p, q, hA0, hV, rfl, _, _⟩ := hW
  have hA : DataW.TrodAll enc Tryz.prog W 0 (fun _ => true) true Tryz.f7.params.toList args.toList ds p := hA0
  rw [Tryz.params7] at hA hval
  have hAk := hA
  obtain ⟨v0, vs0, d0, ds0, p0, q0, hargs, rfl, rfl, h0, r0⟩ := trodAll_cons hA
  obtain ⟨v1, vs1, d1, ds1, p1, q1, rfl, rfl, rfl, h1, r1⟩ := trodAll_cons r0
  obtain ⟨v2, vs2, d2, ds2, p2, q2, rfl, rfl, rfl, h2, r2⟩ := trodAll_cons r1
  obtain ⟨rfl, rfl, rfl⟩ := trodAll_nil r2
  obtain rfl : args = #[v0, v1, v2] := by cases args; simp_all
  obtain ⟨rfl, rfl⟩ := trodVars_none hV
  obtain ⟨cu, cv, cs, cm, Ac, cc, c, rfl, wcu, wcv, wcs, wcm, rc, wc, lc⟩ := open_case Tryz.underlying27 (by kernel_rfl) (by kernel_rfl) (by kernel_rfl) Tryz.underlying24 (by kernel_rfl) Tryz.underlying22 Tryz.underlying22 Tryz.underlying3 Tryz.underlying3 Tryz.underlying25 Tryz.underlying48 (by kernel_rfl) (by kernel_rfl) Tryz.underlying2 Tryz.underlying22 (hval 0 27 v0 rfl rfl) h0
  obtain ⟨aa, rfl, rfl, rfl, waa⟩ := open_int Tryz.underlying3 (hval 1 3 v1 rfl rfl) h1
  obtain ⟨cp0, cp1, yp0, yp1, m2, rfl, _, _, tp0, tp1⟩ := Go.Joins.open_agg2 Tryz.underlying24 (by kernel_rfl) (by kernel_rfl) (hval 2 24 v2 rfl rfl) h2
  obtain ⟨p0, ep0, _, wp0⟩ := DataW.trod_int Tryz.underlying22 tp0
  obtain rfl : cp0 = .int .u64 p0 := by simpa using ep0
  obtain ⟨p1, ep1, _, wp1⟩ := DataW.trod_int Tryz.underlying22 tp1
  obtain rfl : cp1 = .int .u64 p1 := by simpa using ep1
  have h20 : c.length ≤ 1048576 := by
    have h1 := case_len Tryz.underlying27 (by kernel_rfl) (by kernel_rfl) Tryz.underlying25 h0
    have h2 : Rows.uptoBulkAll _ ≤ 1048576 := of_decide_eq_true hk
    simp only [List.append_nil, Rows.uptoBulkAll] at h2
    omega
  clear hA0 hval0
  have hR : ∀ t ∈ [27, 3, 24], Tryz.prog.readableRec t = true ∧ t < Tryz.prog.types.size := by
    intro t ht
    simp only [List.mem_cons, List.not_mem_nil, or_false] at ht
    rcases ht with rfl | rfl | rfl <;> exact ⟨by kernel_rfl, of_decide_eq_true (by kernel_rfl)⟩
  refine (logskOrder_walk W cu cv cs cm (wf_u64 wcu) (wf_u64 wcv) (wf_i64 wcs) (wf_i64 wcm) _ _ c rc (fun x hx => ⟨wf_i64 (wc x hx).1, wf_u64 (wc x hx).2⟩) lc h20 aa (wf_i64 waa) p0 p1 (wf_u64 wp0) (wf_u64 wp1)).mono fun e W' ⟨he, bel⟩ => ?_
  subst he
  exact ⟨_, rfl, _, _, _, [], _, [], hW', trodAll_mk1 (shut_bool Tryz.underlying4 _), trodAll_below laidOut bel hR hAk, rfl, bel.frame _, fun h => by cases h⟩

theorem logskOrder_holds : Rows.LogskOrderUptoSaid :=
  OpenClaim.holds_of_cond 7 Tryz.f7 rfl rfl rfl rfl rfl rfl rfl ⟨rfl, rfl, rfl, rfl, rfl⟩ rfl rfl rfl rfl rfl (by kernel_rfl) Tryz.func7 (by kernel_rfl)
    (of_decide_eq_true (by kernel_rfl)) (by unfold Func.isWrapper; rw [if_neg (of_decide_eq_false (by kernel_rfl))]; exact ⟨rfl, rfl⟩)
    (fun os started H enc _ F => logskOrder_lifted os started H enc F)
#print axioms logskOrder_holds
end Go.Proofs.YtondkkhagbcadaaGreat
