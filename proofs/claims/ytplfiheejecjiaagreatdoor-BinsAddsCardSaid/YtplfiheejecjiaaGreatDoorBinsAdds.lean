/- The walk of the statement BinsAdds. -/
import Derived.Test.YtplfiheejecjiaaGreatDoorProg
import Derived.Test.YtplfiheejecjiaaGreatDoorOpen
import Derived.Test.YtplfiheejecjiaaGreatDoorSame13
import Derived.Test.YtplfiheejecjiaaGreatDoorCase
import Derived.Test.YtplfiheejecjiaaGreatDoorBnLoad
namespace Go.Proofs.YtplfiheejecjiaaGreatDoor
open Go.RowKit

/-- What New answers of a side and a number of parts. -/
theorem bnew_says (pa : Nat) (cs cm : Int) (w : World) (hp : PAt w true pa (partD 1) (repD 1) [pa]) :
    Calls Tryz.prog 30 #[.iface 71 (.pointer (some ⟨pa, 0, none⟩)), .int .i64 cs, .int .i64 cm] w fun e w' => (∃ (v : Value) (f : Int), e = .returned (.tuple #[v, .int .i64 f]) ∧
      Hid ((f = 0 ∧ 0 ≤ cs ∧ cs ≤ 1 ∧ 1 ≤ cm ∧ cm ≤ 4096) ∨ (f = 1 ∧ ¬ (0 ≤ cs ∧ cs ≤ 1 ∧ 1 ≤ cm ∧ cm ≤ 4096)))) ∧ Below w.heap.size w w' := by
  by_cases hs : cs = 0 ∨ cs = 1
  · obtain ⟨s, hsz⟩ : ∃ s, sideZ s = cs := by
      rcases hs with h | h
      · exact ⟨true, h.symm⟩
      · exact ⟨false, h.symm⟩
    subst hsz
    by_cases hm : 1 ≤ cm ∧ cm ≤ 4096
    · refine (bnew_any [pa] true pa _ _ s cm w hp hm.1 hm.2).mono ?_
      rintro e w' ⟨⟨b, S, rfl, _⟩, hb⟩
      exact ⟨⟨_, 0, rfl, .inl ⟨rfl, by omega, by omega, hm.1, hm.2⟩⟩, hb⟩
    · refine (bnew_bad true pa s cm w (by omega)).mono ?_
      rintro e w' ⟨rfl, rfl⟩
      exact ⟨⟨_, 1, rfl, .inr ⟨rfl, fun h => hm h.2.2⟩⟩, Below.refl _ _⟩
  · refine (bnew_side true pa cs cm w (by omega)).mono ?_
    rintro e w' ⟨rfl, rfl⟩
    exact ⟨⟨_, 1, rfl, .inr ⟨rfl, fun h => by omega⟩⟩, Below.refl _ _⟩
set_option maxRecDepth 100000 in
set_option maxHeartbeats 4000000 in
theorem binsAdds_walk (w : World) (hTens : TensAt w) (cu cv cd cs cm : Int) (bdcu : 0 ≤ cu ∧ cu < 18446744073709551616) (bdcv : 0 ≤ cv ∧ cv < 18446744073709551616) (bdcd : -9223372036854775808 ≤ cd ∧ cd ≤ 9223372036854775807) (bdcs : -9223372036854775808 ≤ cs ∧ cs ≤ 9223372036854775807) (bdcm : -9223372036854775808 ≤ cm ∧ cm ≤ 9223372036854775807) (Ac : Option Addr) (cc : Nat) (c : List (Int × Int)) (rc : Rd w Ac (c.flatMap fun x => [.int .i64 x.1, .int .u64 x.2])) (bdc : ∀ x ∈ c, (-9223372036854775808 ≤ x.1 ∧ x.1 ≤ 9223372036854775807) ∧ (0 ≤ x.2 ∧ x.2 < 18446744073709551616)) (lc : c.length ≤ 9223372036854775807) :
    Calls Tryz.prog 7 #[.agg #[.int .u64 cu, .int .u64 cv, .int .i64 cd, .int .i64 cs, .int .i64 cm, .slice Ac c.length cc]] w fun e w' => e = .returned (.bool true) ∧ Below w.heap.size w w' := by
  have HTN := Lib.hid hTens
  have HC0 : Hid (okP c) := bdc
  have HRC0 : Hid (RdP w Ac c) := rc
  obtain ⟨n, hn⟩ : ∃ n, c.length = n := ⟨_, rfl⟩
  have HN := Lib.hid hn
  have HUV := Lib.hid (And.intro bdcu bdcv)
  rw [hn]
  have hba : Below w.heap.size w (w.alloc (.cells #[.int .u64 cu, .int .u64 cv, .int .i64 cd, .int .i64 cs, .int .i64 cm, .slice Ac n cc] 27)) := (Below.refl _ _).alloc (Nat.le_refl _) _
  have am : At (w.alloc (.cells #[.int .u64 cu, .int .u64 cv, .int .i64 cd, .int .i64 cs, .int .i64 cm, .slice Ac n cc] 27)) w.heap.size #[.int .u64 cu, .int .u64 cv, .int .i64 cd, .int .i64 cs, .int .i64 cm, .slice Ac n cc] 27 := At.new' _ _ _ rfl
  clear hTens bdcu bdcv bdcd bdcs bdcm rc bdc lc hn
  go_enter Tryz.func7, Tryz.ntmps7
  go_wp2_with fail
  obtain ⟨W1, hW1⟩ : ∃ W, w.alloc (.cells #[.int .u64 cu, .int .u64 cv, .int .i64 cd, .int .i64 cs, .int .i64 cm, .slice Ac n cc] 27) = W := ⟨_, rfl⟩
  obtain ⟨rb, hrb⟩ : ∃ r, w.heap.size = r := ⟨_, rfl⟩
  rw [hW1] at hba am
  rw [hrb] at am
  simp only [hW1, hrb]
  clear hW1 hrb
  refine (alive_any W1 (HTN.out.below hba)).mono ?_
  rintro e w2 ⟨rfl, hb⟩
  have HB2 := Lib.hid (keep1 hba hb)
  have a2 := am.below hb
  have HAM := Lib.hid a2
  have f2 := a2.six
  have l2 := a2.lt
  clear hba hb am a2
  go_wp2_with fail
  refine (bfind_nil 1 w2).mono ?_
  rintro e w3 ⟨rfl, rfl⟩
  go_wp2_with fail
  refine (brank_nil 1 w2).mono ?_
  rintro e w3 ⟨rfl, rfl⟩
  go_wp2_with fail
  refine (bnew_nil 0 1 w2).mono ?_
  rintro e w3 ⟨rfl, rfl⟩
  go_wp2_with fail
  refine (spnew_any 1 w2 (HTN.out.below HB2.out) (by omega) (by omega)).mono ?_
  rintro e w3 ⟨⟨pa, rfl, hpa, hsp⟩, hb⟩
  have HP : Hid (PAt w3 true pa (partD 1) (repD 1) [pa]) := ⟨1, hsp, rfl, rfl, rfl⟩
  have HB3 := Lib.hid (keep1 HB2.out hb)
  have HA3 := Lib.hid (HAM.out.below hb)
  have f3 := HA3.out.six
  have l3 := HA3.out.lt
  clear hpa hsp hb HB2 HAM f2 l2
  go_wp2_with fail
  refine (bnew_says pa cs cm w3 HP.out).mono ?_
  rintro e w4 ⟨⟨v, f, rfl, HF⟩, hb⟩
  have HB4 := Lib.hid (keep1 HB3.out hb)
  have HA4 := Lib.hid (HA3.out.below hb)
  clear hb HB3 HA3 f3 l3 HP
  go_wp2_with fail
  refine (btot_nil w4).mono ?_
  rintro e w5 ⟨rfl, rfl⟩
  go_wp2_with fail
  refine (bzero_nil w4).mono ?_
  rintro e w5 ⟨rfl, rfl⟩
  go_wp2_with fail
  refine (badd_nil 1 1 w4).mono ?_
  rintro e w5 ⟨rfl, rfl⟩
  go_wp2_with fail
  refine (bmerge_nil w4).mono ?_
  rintro e w5 ⟨rfl, rfl⟩
  go_wp2_with fail
  refine (bload_nil _ _ _ _ 0 w4).mono ?_
  rintro e w5 ⟨rfl, hb⟩
  have HB5 := Lib.hid (keep1 HB4.out hb)
  have HA5 := Lib.hid (HA4.out.below hb)
  clear hb HB4 HA4
  go_wp2_with fail
  refine (blike_nil w5).mono ?_
  rintro e w6 ⟨rfl, hb⟩
  have HB6 := Lib.hid (keep1 HB5.out hb)
  have HA6 := Lib.hid (HA5.out.below hb)
  clear hb HB5 HA5
  go_wp2_with fail
  refine (bmost_nil w6).mono ?_
  rintro e w7 ⟨rfl, rfl⟩
  have f6 := HA6.out.six
  have l6 := HA6.out.lt
  have HBUILD := Lib.hid (build_any cu cv cd cs cm Ac n cc c w6 (HTN.out.below HB6.out) HUV.out.1 HUV.out.2 HN.out (HRC0.out.below HB6.out) HC0.out)
  rcases HF.out with ⟨rfl, a1, a2, a3, a4⟩ | ⟨rfl, hbad⟩
  rotate_left
  · have HBD := Lib.hid hbad
    have HNO : Hid (∀ e w', BuildB cu cv cd cs cm Ac n cc c w6 e w' → e = .returned (.tuple #[.pointer none, .pointer none, .bool false]) ∧ Below w6.heap.size w6 w') := fun e w' h => by
      rcases h with h | ⟨hp, k, s, part, rep, stand, b, m, S, TB, hs, _⟩
      · exact h
      · exact absurd ⟨by cases s <;> simp [sideZ] at hs <;> omega, by cases s <;> simp [sideZ] at hs <;> omega, hp.m⟩ HBD.out
    have HBN := Lib.hid (HBUILD.out.mono HNO.out)
    clear HBUILD HNO HF hbad
    by_cases a1 : 0 ≤ cs
    · have d1 : decide (0 ≤ cs) = true := decide_eq_true a1
      have d1' : decide (cs ≥ 0) = true := decide_eq_true a1
      by_cases a2 : cs ≤ 1
      · have d2 : decide (cs ≤ 1) = true := decide_eq_true a2
        by_cases a3 : 1 ≤ cm
        · have d3 : decide (1 ≤ cm) = true := decide_eq_true a3
          have d3' : decide (cm ≥ 1) = true := decide_eq_true a3
          have d4 : decide (cm ≤ 4096) = false := decide_eq_false fun h => HBD.out ⟨a1, a2, a3, h⟩
          clear a1 a2 a3 HBD
          go_wp2_with fail
          refine HBN.out.mono ?_
          rintro e w8 ⟨rfl, hb⟩
          have HB8 := Lib.hid (keep1 HB6.out hb)
          clear hb HBN f6 l6
          go_wp2
          go_ret
          exact ⟨rfl, HB8.out⟩
        · have d3 : decide (1 ≤ cm) = false := decide_eq_false a3
          have d3' : decide (cm ≥ 1) = false := decide_eq_false a3
          clear a1 a2 a3 HBD
          go_wp2_with fail
          refine HBN.out.mono ?_
          rintro e w8 ⟨rfl, hb⟩
          have HB8 := Lib.hid (keep1 HB6.out hb)
          clear hb HBN f6 l6
          go_wp2
          go_ret
          exact ⟨rfl, HB8.out⟩
      · have d2 : decide (cs ≤ 1) = false := decide_eq_false a2
        clear a1 a2 HBD
        go_wp2_with fail
        refine HBN.out.mono ?_
        rintro e w8 ⟨rfl, hb⟩
        have HB8 := Lib.hid (keep1 HB6.out hb)
        clear hb HBN f6 l6
        go_wp2
        go_ret
        exact ⟨rfl, HB8.out⟩
    · have d1 : decide (0 ≤ cs) = false := decide_eq_false a1
      have d1' : decide (cs ≥ 0) = false := decide_eq_false a1
      clear a1 HBD
      go_wp2_with fail
      refine HBN.out.mono ?_
      rintro e w8 ⟨rfl, hb⟩
      have HB8 := Lib.hid (keep1 HB6.out hb)
      clear hb HBN f6 l6
      go_wp2
      go_ret
      exact ⟨rfl, HB8.out⟩
  have d1 : decide (0 ≤ cs) = true := decide_eq_true a1
  have d1' : decide (cs ≥ 0) = true := decide_eq_true a1
  have d2 : decide (cs ≤ 1) = true := decide_eq_true a2
  have d3 : decide (1 ≤ cm) = true := decide_eq_true a3
  have d3' : decide (cm ≥ 1) = true := decide_eq_true a3
  have d4 : decide (cm ≤ 4096) = true := decide_eq_true a4
  clear a1 a2 a3 a4 HF
  go_wp2_with fail
  refine HBUILD.out.mono ?_
  rintro e w8 (⟨rfl, hb⟩ | ⟨hp, k, s, part, rep, stand, b, m, S, TB, hsz, hc, rfl, hB⟩)
  · have HB8 := Lib.hid (keep1 HB6.out hb)
    clear hb HBUILD f6 l6
    go_wp2
    go_ret
    exact ⟨rfl, HB8.out⟩
  have hv := hp.vok HC0.out
  have HB8 := Lib.hid (keep1 HB6.out (Two.below hB))
  have s8 := HA6.out.below (Two.below hB)
  obtain ⟨lows, reps, hBI, hPO, _⟩ := DocAt.get (Two.y hB) hc
  have hX := Two.x hB
  have hR8 := HRC0.out.below HB8.out
  have h60 : n ≤ 60 := by have := hp.n; have := HN.out; omega
  have hs0 := hp.sum
  have HSA := Lib.hid fun W (hW : Below w8.heap.size w8 W) => bsame_any b S k s part rep cm c m lows reps cd Ac n cc W (hX.below hW) (hBI.below hW) (hPO.below hW) HN.out (by omega) (hR8.below hW) hv
  have HAZ := Lib.hid fun W (_ : Below w8.heap.size w8 W) => (badd_zero b 5 W).mono fun e w' (h : e = .returned (.int .i64 1) ∧ W = w') => (⟨h.1, by rw [← h.2]; exact Below.refl _ _⟩ : e = .returned (.int .i64 1) ∧ Below W.heap.size W w')
  have HTO := Lib.hid fun W (hW : Below w8.heap.size w8 W) => btot_v b S k part rep s cm c W (hX.below hW) hv
  have HMO := Lib.hid fun W (hW : Below w8.heap.size w8 W) => (bmost_v b S k part rep s cm c W (hX.below hW)).mono fun e w' (h : e = .returned (.int .i64 cm) ∧ W = w') => (⟨h.1, by rw [← h.2]; exact Below.refl _ _⟩ : e = .returned (.int .i64 cm) ∧ Below W.heap.size W w')
  obtain ⟨T, hT⟩ : ∃ T, sumP c = T := ⟨_, rfl⟩
  rw [hT] at HTO hs0
  obtain ⟨u, hu⟩ : ∃ u, 9223372036854775807 - T = u := ⟨_, rfl⟩
  obtain ⟨t, ht⟩ : ∃ t, u + 1 = t := ⟨_, rfl⟩
  have HFU := Lib.hid fun W (hW : Below w8.heap.size w8 W) => badd_vfull b S k part rep s cm 5 t c W (hX.below hW) hv (by omega) (by omega) (by omega)
  have v1 : IntKind.u64.wrap (9223372036854775807 - T) = u := by simp only [IntKind.wrap_u64]; omega
  have v2 : IntKind.u64.wrap (u + 1) = t := by simp only [IntKind.wrap_u64]; omega
  have hcc : (cm == cm) = true := beq_self_eq_true cm
  clear hT hu ht hp hv hX hR8 hBI hPO hB hc HBUILD hsz h60 hs0 HC0 HRC0 HN HUV HTN HA6 HB6 f6 l6
  go_wp2
  have hfar1 := fun x : Far w8 => (x.at s8).six
  refine wp_region_far (by kernel_rfl) (by kernel_rfl) ?_
  repeat (first | go_big_quiet_skip | (go_big_quiet_want; go_big_quiet_op; first | go_big_quiet_on | (apply Exists.intro; refine ⟨fun _ => ?_, ?_⟩; (focus (first | (with_reducible refine far_of (HSA.out _ (Far.below _))) | (with_reducible refine far_of (HAZ.out _ (Far.below _))) | (with_reducible refine far_of (HTO.out _ (Far.below _))) | (with_reducible refine far_of (HFU.out _ (Far.below _))) | (with_reducible refine far_of (HMO.out _ (Far.below _))))); go_big_quiet_on)))
  refine wpQuiet_nil ?_
  rintro _ ⟨xq, rfl⟩
  clear hfar1
  have hb := xq.below
  clear HSA HAZ HTO HFU HMO s8
  go_wp2
  go_ret
  exact ⟨rfl, keep1 HB8.out hb⟩
end Go.Proofs.YtplfiheejecjiaaGreatDoor
