/- The walk of the statement LogskSets. -/
import Derived.Test.YtondkkhagbcadaaGreatProg
import Derived.Test.YtondkkhagbcadaaGreatOpen
import Derived.Test.YtondkkhagbcadaaGreatLsBuild
import Derived.Test.YtondkkhagbcadaaGreatCase14
namespace Go.Proofs.YtondkkhagbcadaaGreat
open Go.RowKit

theorem quantL_bd {part : Nat → Int} {stand : Int → Int} {s : Bool} {most : Int} {l : List (Int × Int)} {lo hi a d : Int} (h : lo ≤ hi) : (quantL part stand s most l lo hi a d).2 = 0 → lo ≤ (quantL part stand s most l lo hi a d).1 ∧ (quantL part stand s most l lo hi a d).1 ≤ hi := by
  unfold quantL
  split
  · split
    · intro h0; exact absurd h0 (by decide)
    · intro _; dsimp only; omega
  · rename_i h1
    intro h0
    exact absurd h0 h1
set_option maxRecDepth 100000 in
set_option maxHeartbeats 4000000 in
theorem logskSets_walk (w : World) (cu cv cs cm : Int) (bdcu : 0 ≤ cu ∧ cu < 18446744073709551616) (bdcv : 0 ≤ cv ∧ cv < 18446744073709551616) (bdcs : -9223372036854775808 ≤ cs ∧ cs ≤ 9223372036854775807) (bdcm : -9223372036854775808 ≤ cm ∧ cm ≤ 9223372036854775807) (Ac : Option Addr) (cc : Nat) (c : List (Int × Int)) (rc : Rd w Ac (c.flatMap fun x => [.int .i64 x.1, .int .u64 x.2])) (bdc : ∀ x ∈ c, (-9223372036854775808 ≤ x.1 ∧ x.1 ≤ 9223372036854775807) ∧ (0 ≤ x.2 ∧ x.2 < 18446744073709551616)) (lc : c.length ≤ 9223372036854775807) (low : Int) (bdlow : -9223372036854775808 ≤ low ∧ low ≤ 9223372036854775807) (high : Int) (bdhigh : -9223372036854775808 ≤ high ∧ high ≤ 9223372036854775807) (p0 p1 : Int) (bdp0 : 0 ≤ p0 ∧ p0 < 18446744073709551616) (bdp1 : 0 ≤ p1 ∧ p1 < 18446744073709551616) :
    Calls Tryz.prog 5 #[.agg #[.int .u64 cu, .int .u64 cv, .int .i64 cs, .int .i64 cm, .slice Ac c.length cc], .int .i64 low, .int .i64 high, .agg #[.int .u64 p0, .int .u64 p1]] w fun e w' => e = .returned (.bool true) ∧ Below w.heap.size w w' := by
  have HPQ := Lib.hid (And.intro bdp0 bdp1)
  have HLW := Lib.hid (And.intro bdlow bdhigh)
  clear bdp0 bdp1 bdlow bdhigh
  have HC0 : Hid (okP c) := bdc
  have HRC0 : Hid (RdP w Ac c) := rc
  obtain ⟨n, hn⟩ : ∃ n, c.length = n := ⟨_, rfl⟩
  have HN := Lib.hid hn
  have HUV := Lib.hid (And.intro bdcu bdcv)
  rw [hn]
  have hba : Below w.heap.size w ((w.alloc (.cells #[.int .u64 cu, .int .u64 cv, .int .i64 cs, .int .i64 cm, .slice Ac n cc] 27)).alloc (.cells #[.int .u64 p0, .int .u64 p1] 24)) := (((Below.refl _ _).alloc (by first | omega | (simp; done) | (simp; omega)) _).alloc (by first | omega | (simp; done) | (simp; omega)) _)
  have am := ((At.new' w #[.int .u64 cu, .int .u64 cv, .int .i64 cs, .int .i64 cm, .slice Ac n cc] 27 (b := w.heap.size) (by simp)).alloc (.cells #[.int .u64 p0, .int .u64 p1] 24))
  have ap := (At.new' (w.alloc (.cells #[.int .u64 cu, .int .u64 cv, .int .i64 cs, .int .i64 cm, .slice Ac n cc] 27)) #[.int .u64 p0, .int .u64 p1] 24 (b := w.heap.size + 1) (by simp))
  clear bdcu bdcv bdcs bdcm rc bdc lc hn
  go_enter Tryz.func5, Tryz.ntmps5
  go_wp2_with fail
  obtain ⟨W1, hW1⟩ : ∃ W, ((w.alloc (.cells #[.int .u64 cu, .int .u64 cv, .int .i64 cs, .int .i64 cm, .slice Ac n cc] 27)).alloc (.cells #[.int .u64 p0, .int .u64 p1] 24)) = W := ⟨_, rfl⟩
  rw [hW1] at hba am ap
  simp only [hW1]
  clear hW1
  refine (alive_any W1).mono ?_
  rintro e w2 ⟨rfl, hb⟩
  have HB2 := Lib.hid (keep1 hba hb)
  have HAM := Lib.hid (am.below hb)
  have HRp := Lib.hid (ap.below hb)
  have f2 := HAM.out.five
  have l2 := HAM.out.lt
  clear hba hb am ap
  go_wp2_with fail
  refine (build_any cu cv cs cm Ac n cc c w2 HUV.out.1 HUV.out.2 HN.out (HRC0.out.below HB2.out) HC0.out).mono ?_
  rintro e w3 (⟨rfl, hb⟩ | ⟨hp, s, part, rep, stand, b, m, S, TB, rfl, hc, _, rfl, hB⟩)
  · have HB3 := Lib.hid (keep1 HB2.out hb)
    clear hb HB2 f2 l2 HAM HRp
    go_wp2
    go_ret
    exact ⟨rfl, HB3.out⟩
  have hv := hp.vok HC0.out
  have HV := Lib.hid hv
  have HPS := Lib.hid hc.ps
  have HB3 := Lib.hid (keep1 HB2.out (Two.below hB))
  have HX := Lib.hid (Two.x hB)
  have HSW : Hid (∀ j ∈ S, w.heap.size ≤ j) := fun j hj => Nat.le_trans HB2.out.size ((Two.ws hB) j hj).1
  have HAP : Hid (w.heap.size ∉ S ∧ w.heap.size + 1 ∉ S) := ⟨fun hm => by have := ((Two.ws hB) _ hm).1; have := HAM.out.lt; omega, fun hm => by have := ((Two.ws hB) _ hm).1; have := HRp.out.lt; omega⟩
  have HA3 := Lib.hid (HAM.out.below (Two.below hB))
  have HP3 := Lib.hid (HRp.out.below (Two.below hB))
  have HTN : Hid (sumP c = 0 ↔ n = 0) := by
    show _ ↔ _
    rw [hv.empty, ← HN.out]
    exact ⟨fun e => by rw [e]; rfl, List.eq_nil_of_length_eq_zero⟩
  have HEN := Lib.hid (lsends_v b S part rep cu cv s cm c w3 HX.out hv)
  obtain ⟨el, hel⟩ : ∃ z, eLow c = z := ⟨_, rfl⟩
  obtain ⟨eh, heh⟩ : ∃ z, eHigh c = z := ⟨_, rfl⟩
  obtain ⟨ei, hei⟩ : ∃ z, eIs c = z := ⟨_, rfl⟩
  have HE0 : Hid (sumP c = 0 → el = 0 ∧ eh = 0) := fun h0 => by
    have := hv.empty.1 h0
    subst this
    exact ⟨hel.symm, heh.symm⟩
  rw [hel, heh, hei] at HEN
  have HXV := Lib.hid HX.out
  unfold LsV at HXV
  rw [hel, heh] at HXV
  clear hp hv hB hc hel heh hei HB2 HAM HRp f2 l2 HC0 HRC0 HUV
  go_wp2_with fail
  refine HEN.out.mono ?_
  rintro e w4 ⟨rfl, hb⟩
  have HB4 := Lib.hid (keep1 HB3.out hb)
  have HX4 := Lib.hid (HXV.out.below hb)
  have HA4 := Lib.hid (HA3.out.below hb)
  have HP4 := Lib.hid (HP3.out.below hb)
  clear hb HEN HB3 HX HXV HA3 HP3
  have f4 := HA4.out.five
  have l4 := HA4.out.lt
  have HST := Lib.hid (lsset_k b S part rep cu cv s cm c el eh low high w4 HX4.out HV.out)
  have hnc : ((n : Int) == 0) = decide (n = 0) := by by_cases h : n = 0 <;> simp [h]
  by_cases hcan : low ≤ high ∧ (n = 0 → low = 0 ∧ high = 0)
  · have HCAN := Lib.hid hcan
    have HYES : Hid (∀ e w', LsSet b S part rep cu cv s cm c low high w4 e w' → e = .returned (.bool true) ∧ Ls w' b S part rep cu cv s cm c low high ∧ Frame S w4 w') := fun e w' h => by
      rcases h with ⟨_, he, hx, hf⟩ | ⟨hno, _⟩
      · exact ⟨he, hx, hf⟩
      · exact absurd ⟨hcan.1, fun h0 => hcan.2 (HTN.out.1 h0)⟩ hno
    have HSY := Lib.hid (HST.out.mono HYES.out)
    have d1 : decide (low ≤ high) = true := decide_eq_true hcan.1
    clear HYES HST
    by_cases hn0 : n = 0
    · obtain ⟨rfl, rfl⟩ := hcan.2 hn0
      have hE := HE0.out (HTN.out.2 hn0)
      obtain ⟨rfl, rfl⟩ := hE
      have HS0 := Lib.hid (HTN.out.2 hn0)
      subst hn0
      clear hcan hnc
      go_wp2_with fail
      refine HSY.out.mono ?_
      rintro e w5 ⟨rfl, hX, hF⟩
      have HX5 := Lib.hid hX
      have HW5 : Hid (Below w.heap.size w w5) := hF.below' HB4.out HB4.out.size fun j hj => ⟨HSW.out j hj, HX4.out.lt j hj⟩
      have HA5 := Lib.hid (hF.at HA4.out HAP.out.1)
      clear hX hF HSY HB4 f4 l4
      go_wp2_with fail
      refine (lsends_k b S part rep cu cv s cm c 0 0 w5 HX5.out HV.out).mono ?_
      rintro e w6 ⟨rfl, hb⟩
      rw [if_pos HS0.out]
      have HB6 := Lib.hid (keep1 HW5.out hb)
      have f6 := (HA5.out.below hb).five
      have l6 := (HA5.out.below hb).lt
      clear hb HX5 HW5 HA5
      go_wp2
      go_ret
      exact ⟨rfl, HB6.out⟩
    · have d2 : decide ((0 : Int) < n) = true := decide_eq_true (by omega)
      have d2' : decide (0 < n) = true := decide_eq_true (by omega)
      have d3 : ((n : Int) == 0) = false := beq_eq_false_iff_ne.2 (by omega)
      have d3' : (n == 0) = false := beq_eq_false_iff_ne.2 hn0
      have HS0 : Hid (¬ sumP c = 0) := fun h => hn0 (HTN.out.1 h)
      clear hcan hnc hn0
      go_wp2_with fail
      refine HSY.out.mono ?_
      rintro e w5 ⟨rfl, hX, hF⟩
      have HX5 := Lib.hid hX
      have HW5 : Hid (Below w.heap.size w w5) := hF.below' HB4.out HB4.out.size fun j hj => ⟨HSW.out j hj, HX4.out.lt j hj⟩
      have HA5 := Lib.hid (hF.at HA4.out HAP.out.1)
      have HP5 := Lib.hid (hF.at HP4.out HAP.out.2)
      clear hX hF HSY HB4 f4 l4
      go_wp2_with fail
      refine (lsends_k b S part rep cu cv s cm c low high w5 HX5.out HV.out).mono ?_
      rintro e w6 ⟨rfl, hb⟩
      rw [if_neg HS0.out, if_neg HS0.out, decide_eq_true HS0.out]
      have HB6 := Lib.hid (keep1 HW5.out hb)
      have HX6 := Lib.hid (HX5.out.below hb)
      have HP6 := Lib.hid (HP5.out.below hb)
      have f6 := (HA5.out.below hb).five
      have l6 := (HA5.out.below hb).lt
      have g6 := HP6.out.two
      have m6 := HP6.out.lt
      clear hb HX5 HW5 HA5 HP5
      have HQ := Lib.hid (lsquant_k b S part rep stand cu cv s cm c low high p0 p1 w6 HX6.out HPS.out HV.out HPQ.out.1.1 HPQ.out.1.2 HPQ.out.2.1 HPQ.out.2.2)
      have HQB := Lib.hid (quantL_bd (part := part) (stand := stand) (s := s) (most := cm) (l := c) (a := p0) (d := p1) HCAN.out.1)
      obtain ⟨q, hq⟩ : ∃ q, quantL part stand s cm c low high p0 p1 = q := ⟨_, rfl⟩
      rw [hq] at HQ HQB
      obtain ⟨⟨q1, q2⟩, hqq⟩ : ∃ r, q = r := ⟨_, rfl⟩
      rw [hqq] at HQ HQB
      dsimp only at HQ HQB
      have k1 : (low == low) = true := beq_self_eq_true low
      have k2 : (high == high) = true := beq_self_eq_true high
      clear hq hqq
      go_wp2_with fail
      refine HQ.out.mono ?_
      rintro e w7 ⟨rfl, hb⟩
      have HB7 := Lib.hid (keep1 HB6.out hb)
      clear hb HQ HB6 f6 l6 g6 m6
      by_cases hq2 : q2 = 0
      · have h1 : decide (low ≤ q1) = true := decide_eq_true (HQB.out hq2).1
        have h1' : decide (q1 ≥ low) = true := decide_eq_true (HQB.out hq2).1
        have h2 : decide (q1 ≤ high) = true := decide_eq_true (HQB.out hq2).2
        subst hq2
        clear HQB
        go_wp2
        go_ret
        exact ⟨rfl, HB7.out⟩
      · have h1 : (q2 != 0) = true := bne_iff_ne.2 hq2
        clear hq2 HQB
        go_wp2
        go_ret
        exact ⟨rfl, HB7.out⟩
  · have HYES : Hid (∀ e w', LsSet b S part rep cu cv s cm c low high w4 e w' → e = .returned (.bool false) ∧ Below w4.heap.size w4 w') := fun e w' h => by
      rcases h with ⟨hy, _⟩ | ⟨_, he, hb⟩
      · exact absurd ⟨hy.1, fun h0 => hy.2 (HTN.out.2 h0)⟩ hcan
      · exact ⟨he, hb⟩
    have HSY := Lib.hid (HST.out.mono HYES.out)
    have HFI : Hid (∀ w5, Below w4.heap.size w4 w5 → Calls Tryz.prog 20 #[.pointer (some ⟨b, 0, none⟩)] w5 fun e w' => e = .returned (.tuple #[.int .i64 el, .int .i64 eh, .bool (decide (sumP c ≠ 0))]) ∧ Below w5.heap.size w5 w') := fun w5 hb => by
      have k := lsends_k b S part rep cu cv s cm c el eh w5 (HX4.out.below hb) HV.out
      by_cases h0 : sumP c = 0
      · obtain ⟨z1, z2⟩ := HE0.out h0
        rw [if_pos h0, if_pos h0] at k
        rw [z1, z2]
        exact k
      · rw [if_neg h0, if_neg h0] at k
        exact k
    obtain ⟨bi, hbi⟩ : ∃ z, decide (sumP c ≠ 0) = z := ⟨_, rfl⟩
    rw [hbi] at HFI
    have k1 : (el == el) = true := beq_self_eq_true el
    have k2 : (eh == eh) = true := beq_self_eq_true eh
    have HNC := Lib.hid hcan
    clear HYES HST hbi hnc hcan
    by_cases h1 : low ≤ high
    · have d1 : decide (low ≤ high) = true := decide_eq_true h1
      have hn0 : n = 0 := by
        by_cases h : n = 0
        · exact h
        · exact absurd ⟨h1, fun e => absurd e h⟩ HNC.out
      subst hn0
      by_cases h2 : low = 0
      · have h3 : ¬ high = 0 := fun e => HNC.out ⟨h1, fun _ => ⟨h2, e⟩⟩
        have d2 : (low == 0) = true := beq_iff_eq.2 h2
        have d3 : (high == 0) = false := beq_eq_false_iff_ne.2 h3
        clear h1 h2 h3
        go_wp2_with fail
        refine HSY.out.mono ?_
        rintro e w5 ⟨rfl, hb⟩
        have HB5 := Lib.hid hb
        clear hb HSY f4 l4
        go_wp2_with fail
        refine (HFI.out w5 HB5.out).mono ?_
        rintro e w6 ⟨rfl, hb⟩
        have HB6 := Lib.hid (keep1 HB4.out (keep1 HB5.out hb))
        clear hb HFI HB5 HB4
        go_wp2
        go_ret
        exact ⟨rfl, HB6.out⟩
      · have d2 : (low == 0) = false := beq_eq_false_iff_ne.2 h2
        clear h1 h2
        go_wp2_with fail
        refine HSY.out.mono ?_
        rintro e w5 ⟨rfl, hb⟩
        have HB5 := Lib.hid hb
        clear hb HSY f4 l4
        go_wp2_with fail
        refine (HFI.out w5 HB5.out).mono ?_
        rintro e w6 ⟨rfl, hb⟩
        have HB6 := Lib.hid (keep1 HB4.out (keep1 HB5.out hb))
        clear hb HFI HB5 HB4
        go_wp2
        go_ret
        exact ⟨rfl, HB6.out⟩
    · have d1 : decide (low ≤ high) = false := decide_eq_false h1
      clear h1
      go_wp2_with fail
      refine HSY.out.mono ?_
      rintro e w5 ⟨rfl, hb⟩
      have HB5 := Lib.hid hb
      clear hb HSY f4 l4
      go_wp2_with fail
      refine (HFI.out w5 HB5.out).mono ?_
      rintro e w6 ⟨rfl, hb⟩
      have HB6 := Lib.hid (keep1 HB4.out (keep1 HB5.out hb))
      clear hb HFI HB5 HB4
      go_wp2
      go_ret
      exact ⟨rfl, HB6.out⟩
end Go.Proofs.YtondkkhagbcadaaGreat
