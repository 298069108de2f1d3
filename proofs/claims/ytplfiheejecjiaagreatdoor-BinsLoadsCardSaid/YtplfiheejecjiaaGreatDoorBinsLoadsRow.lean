/- The statement BinsLoads: every call returns true, and each argument reads behind the call as before it. No condition. -/
import Derived.Test.YtplfiheejecjiaaGreatDoorCards
import Derived.Test.YtplfiheejecjiaaGreatDoorTie
import Derived.Test.YtplfiheejecjiaaGreatDoorDoor
import Derived.SevenTiedAt
import Derived.ProofKit
import Derived.Test.YtplfiheejecjiaaGreatDoorOpen
import Derived.Test.YtplfiheejecjiaaGreatDoorBinsLoads
namespace Go.Proofs.YtplfiheejecjiaaGreatDoor
open Go.ChangeShapes Go.WideShapes Go.ChangeAt Go.RowKit

set_option maxRecDepth 100000 in
theorem binsLoads_lifted (os : Os) (started : os.Started) (H : Type) (enc : TypeId × Value → H) :
    ReturnsInHanded {} Tryz.checked os 6 .any (fun w args => (Rows.binsLoadsSpec.pre enc Tryz.prog Tryz.f6 [] false w args ∧ laidMetH Tryz.prog laidL w) ∧ sizedMet enc Tryz.prog Tryz.f6 (OpenSpec.ofChange Rows.binsLoadsSpec) false w args) (Rows.binsLoadsSpec.post enc Tryz.prog Tryz.f6 false true false false) := by
  refine returnsInHanded_of_change_and (C := Tryz.checked) (X := fun w _ => laidMetH Tryz.prog laidL w) (fun _ _ _ hh h => h.of_heap hh) own started (by kernel_rfl) Tryz.func6
    (ChangeSpec.witness_shaped (enc := enc) (C := Tryz.checked) (os := os) (X := fun w _ => laidMetH Tryz.prog laidL w) false (World.doorLaid Tryz.prog 400 os) #[.agg #[.int .u64 0, .int .u64 0, .int .i64 0, .int .i64 0, .int .i64 0, .slice none 0 0], .int .i64 0, .slice none 0 0, .int .u64 0, .int .u64 0] 8 rfl (World.shaped_of_RefB (by kernel_rfl) (by kernel_rfl)) (by kernel_rfl) (by kernel_rfl) (by kernel_rfl) (door_met os _)) ?_
  intro W base args ds gs before hval0 hW _ _ hL _
  have hval : ∀ (j : Nat) t v, Tryz.f6.params[j]? = some t → args[j]? = some v → Value.okWide Tryz.prog W .any base t v := hval0
  have hW' := hW
  obtain ⟨p, q, hA0, hV, rfl, _, _⟩ := hW
  have hA : DataW.TrodAll enc Tryz.prog W 0 (fun _ => true) true Tryz.f6.params.toList args.toList ds p := hA0
  rw [Tryz.params6] at hA hval
  have hAk := hA
  obtain ⟨v0, vs0, d0, ds0, p0, q0, hargs, rfl, rfl, h0, r0⟩ := trodAll_cons hA
  obtain ⟨v1, vs1, d1, ds1, p1, q1, rfl, rfl, rfl, h1, r1⟩ := trodAll_cons r0
  obtain ⟨v2, vs2, d2, ds2, p2, q2, rfl, rfl, rfl, h2, r2⟩ := trodAll_cons r1
  obtain ⟨v3, vs3, d3, ds3, p3, q3, rfl, rfl, rfl, h3, r3⟩ := trodAll_cons r2
  obtain ⟨v4, vs4, d4, ds4, p4, q4, rfl, rfl, rfl, h4, r4⟩ := trodAll_cons r3
  obtain ⟨rfl, rfl, rfl⟩ := trodAll_nil r4
  obtain rfl : args = #[v0, v1, v2, v3, v4] := by cases args; simp_all
  obtain ⟨rfl, rfl⟩ := trodVars_none hV
  obtain ⟨cu, cv, cd, cs, cm, Ac, cc, c, rfl, wcu, wcv, wcd, wcs, wcm, rc, wc, lc⟩ := open_case Tryz.underlying27 (by kernel_rfl) (by kernel_rfl) (by kernel_rfl) Tryz.underlying24 (by kernel_rfl) Tryz.underlying22 Tryz.underlying22 Tryz.underlying3 Tryz.underlying3 Tryz.underlying3 Tryz.underlying25 Tryz.underlying44 (by kernel_rfl) (by kernel_rfl) Tryz.underlying2 Tryz.underlying22 (hval 0 27 v0 rfl rfl) h0
  obtain ⟨x, rfl, rfl, rfl, wx⟩ := open_int Tryz.underlying2 (hval 1 2 v1 rfl rfl) h1
  obtain ⟨Arow, lenrow, crow, rfl⟩ := okWide_slice Tryz.underlying55 (hval 2 55 v2 rfl rfl)
  obtain ⟨row, rfl, rrow, wrow, lrow⟩ := open_two_rd Tryz.underlying55 Tryz.underlying107 (by kernel_rfl) (by kernel_rfl) Tryz.underlying3 Tryz.underlying22 h2
  obtain ⟨lost, rfl, rfl, rfl, wlost⟩ := open_int Tryz.underlying22 (hval 3 22 v3 rfl rfl) h3
  obtain ⟨zero, rfl, rfl, rfl, wzero⟩ := open_int Tryz.underlying22 (hval 4 22 v4 rfl rfl) h4
  clear hA0 hval0
  have hR : ∀ t ∈ [27, 2, 55, 22, 22], Tryz.prog.readableRec t = true ∧ t < Tryz.prog.types.size := by
    intro t ht
    simp only [List.mem_cons, List.not_mem_nil, or_false] at ht
    rcases ht with rfl | rfl | rfl | rfl | rfl <;> exact ⟨by kernel_rfl, of_decide_eq_true (by kernel_rfl)⟩
  refine (binsLoads_walk W (tens_of_laid hL) cu cv cd cs cm (wf_u64 wcu) (wf_u64 wcv) (wf_i64 wcd) (wf_i64 wcs) (wf_i64 wcm) _ _ c rc (fun x hx => ⟨wf_i64 (wc x hx).1, wf_u64 (wc x hx).2⟩) lc x (wf_i64 wx) _ _ row rrow (fun x hx => ⟨wf_i64 (wrow x hx).1, wf_u64 (wrow x hx).2⟩) lrow lost (wf_u64 wlost) zero (wf_u64 wzero)).mono fun e W' ⟨he, bel⟩ => ?_
  subst he
  exact ⟨_, rfl, _, _, _, [], _, [], hW', trodAll_mk1 (shut_bool Tryz.underlying4 _), trodAll_below laidOut bel hR hAk, rfl, bel.frame _, fun h => by cases h⟩

theorem binsLoads_row : Rows.BinsLoadsSaid :=
  OpenClaim.holds_of_wide 6 Tryz.f6 rfl rfl rfl rfl rfl rfl rfl ⟨rfl, rfl, rfl, rfl, rfl⟩ rfl rfl rfl rfl rfl (by kernel_rfl) Tryz.func6 (by kernel_rfl)
    (of_decide_eq_true (by kernel_rfl)) (by unfold Func.isWrapper; rw [if_neg (of_decide_eq_false (by kernel_rfl))]; exact ⟨rfl, rfl⟩)
    (fun os started H enc _ => binsLoads_lifted os started H enc)
theorem binsLoads_holds : Rows.BinsLoadsCardSaid :=
  Claim7.holds_tied_plain_at .later [] [.data] true (true, "ba509935f95d3e3644a1b61f74e6b74b0ea856c72452da1d35e3d80fbce9cb98") true
    binsLoads_row (fun _ h => by cases h) (by kernel_rfl) (fun _ h => by cases h) binsLoads_row_tie rfl ⟨rfl, rfl⟩ (by kernel_rfl) rfl
    (fun f fn hf hfn => by
      obtain rfl : f = 6 := Option.some.inj ((show Tryz.prog.funcNamed "ogive/ogivelaw13.BinsLoads" = some 6 by kernel_rfl).symm.trans hf) |>.symm
      obtain rfl : fn = Tryz.f6 := (Option.some.inj (Tryz.func6.symm.trans hfn)).symm
      exact ⟨by kernel_rfl, fun j t ht => by
        rw [Tryz.params6] at ht
        have hm : t ∈ [27, 2, 55, 22, 22] := by simpa using Array.mem_of_getElem? ht
        have hall : ([27, 2, 55, 22, 22].all fun u => !Tryz.prog.wantsStandIn u) = true := by kernel_rfl
        exact (show Tryz.prog.wantsStandIn t = false by simpa using List.all_eq_true.1 hall t hm)⟩)
    (by kernel_rfl)
#print axioms binsLoads_holds
end Go.Proofs.YtplfiheejecjiaaGreatDoor
