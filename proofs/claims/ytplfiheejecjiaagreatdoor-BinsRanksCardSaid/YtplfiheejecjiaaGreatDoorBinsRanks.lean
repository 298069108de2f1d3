/- The walk of the statement BinsRanks. -/
import Derived.Test.YtplfiheejecjiaaGreatDoorProg
import Derived.Test.YtplfiheejecjiaaGreatDoorOpen
import Derived.Test.YtplfiheejecjiaaGreatDoorSame13
import Derived.Test.YtplfiheejecjiaaGreatDoorCase
import Derived.Test.YtplfiheejecjiaaGreatDoorRankP13
import Derived.Test.YtplfiheejecjiaaGreatDoorVals
namespace Go.Proofs.YtplfiheejecjiaaGreatDoor
open Go.RowKit

set_option maxRecDepth 100000 in
set_option maxHeartbeats 4000000 in
theorem binsRanks_walk (w : World) (hTens : TensAt w) (cu cv cd cs cm : Int) (bdcu : 0 ≤ cu ∧ cu < 18446744073709551616) (bdcv : 0 ≤ cv ∧ cv < 18446744073709551616) (bdcd : -9223372036854775808 ≤ cd ∧ cd ≤ 9223372036854775807) (bdcs : -9223372036854775808 ≤ cs ∧ cs ≤ 9223372036854775807) (bdcm : -9223372036854775808 ≤ cm ∧ cm ≤ 9223372036854775807) (Ac : Option Addr) (cc : Nat) (c : List (Int × Int)) (rc : Rd w Ac (c.flatMap fun x => [.int .i64 x.1, .int .u64 x.2])) (bdc : ∀ x ∈ c, (-9223372036854775808 ≤ x.1 ∧ x.1 ≤ 9223372036854775807) ∧ (0 ≤ x.2 ∧ x.2 < 18446744073709551616)) (lc : c.length ≤ 9223372036854775807) (x : Int) (bdx : -9223372036854775808 ≤ x ∧ x ≤ 9223372036854775807) :
    Calls Tryz.prog 4 #[.agg #[.int .u64 cu, .int .u64 cv, .int .i64 cd, .int .i64 cs, .int .i64 cm, .slice Ac c.length cc], .int .i64 x] w fun e w' => e = .returned (.bool true) ∧ Below w.heap.size w w' := by
  have HTN := Lib.hid hTens
  have HC0 : Hid (okP c) := bdc
  have HRC0 : Hid (RdP w Ac c) := rc
  obtain ⟨n, hn⟩ : ∃ n, c.length = n := ⟨_, rfl⟩
  have HN := Lib.hid hn
  have HUV := Lib.hid (And.intro bdcu bdcv)
  rw [hn]
  have hba : Below w.heap.size w (w.alloc (.cells #[.int .u64 cu, .int .u64 cv, .int .i64 cd, .int .i64 cs, .int .i64 cm, .slice Ac n cc] 27)) := (Below.refl _ _).alloc (Nat.le_refl _) _
  have am : At (w.alloc (.cells #[.int .u64 cu, .int .u64 cv, .int .i64 cd, .int .i64 cs, .int .i64 cm, .slice Ac n cc] 27)) w.heap.size #[.int .u64 cu, .int .u64 cv, .int .i64 cd, .int .i64 cs, .int .i64 cm, .slice Ac n cc] 27 := At.new' _ _ _ rfl
  clear hTens bdcu bdcv bdcd bdcs bdcm rc bdc lc hn
  go_enter Tryz.func4, Tryz.ntmps4
  go_wp2_with fail
  obtain ⟨W1, hW1⟩ : ∃ W, w.alloc (.cells #[.int .u64 cu, .int .u64 cv, .int .i64 cd, .int .i64 cs, .int .i64 cm, .slice Ac n cc] 27) = W := ⟨_, rfl⟩
  obtain ⟨rb, hrb⟩ : ∃ r, w.heap.size = r := ⟨_, rfl⟩
  rw [hW1] at hba am
  rw [hrb] at am
  simp only [hW1, hrb]
  clear hW1 hrb
  refine (alive_any W1 (HTN.out.below hba)).mono ?_
  rintro e w2 ⟨rfl, hb⟩
  have HB2 := Lib.hid (keep1 hba hb)
  have a2 := am.below hb
  have HAM := Lib.hid a2
  have f2 := a2.six
  have l2 := a2.lt
  clear hba hb am a2
  go_wp2_with fail
  refine (build_any cu cv cd cs cm Ac n cc c w2 (HTN.out.below HB2.out) HUV.out.1 HUV.out.2 HN.out (HRC0.out.below HB2.out) HC0.out).mono ?_
  rintro e w3 (⟨rfl, hb⟩ | ⟨hp, k, s, part, rep, stand, b, m, S, TB, rfl, hc, rfl, hB⟩)
  · have HB3 := Lib.hid (keep1 HB2.out hb)
    clear hb HB2 f2 l2 HAM
    go_wp2
    go_ret
    exact ⟨rfl, HB3.out⟩
  · have hv := hp.vok HC0.out
    have hn60 : n ≤ 60 := by have := hp.n; have := HN.out; omega
    have HB3 := Lib.hid (keep1 HB2.out (Two.below hB))
    obtain ⟨lows, reps, hBI, hPO, hST⟩ := DocAt.get (Two.y hB) hc
    have hX := Two.x hB
    have HR3 := Lib.hid (HRC0.out.below HB3.out)
    have HX : Hid (-9223372036854775808 ≤ x ∧ x ≤ 9223372036854775807) := bdx
    have HV := Lib.hid hv
    have HF1 := Lib.hid (brank_v b S k part rep s cm x c w3 hX hv bdx.1 bdx.2)
    have HF2 := Lib.hid fun W (hW : Below w3.heap.size w3 W) => up_any Ac n cc c x W HN.out (by omega) (HR3.out.below hW) hv.pos hv.sum
    have HF3 := Lib.hid fun W (hW : Below w3.heap.size w3 W) => blost_v b S k part rep s cm c W (hX.below hW)
    have HD := rank_doc (s := s) hp.m.1 hc.ps.mono hv bdx.1 bdx.2 _ rfl
    obtain ⟨⟨rl, rh⟩, hr⟩ : ∃ r, binRank part s cm (keptP s cm (rowV part true c)) (keptP s cm (rowV part false c)) (negV c) (posV c) (zeroV c) x = r := ⟨_, rfl⟩
    rw [hr] at HF1 HD
    have k0 := (sumP_filter_le (rowV_gd (part := part) (below := true) hv.pos (by have := hv.sum; omega)).pos fun y => decide (gap s (endP s (rowV part true c)) y.1 < cm))
    have k1 := (sumP_filter_le (rowV_gd (part := part) (below := false) hv.pos (by have := hv.sum; omega)).pos fun y => decide (gap s (endP s (rowV part false c)) y.1 < cm))
    rw [negV_row hv.pos (by have := hv.sum; omega)] at k0
    rw [posV_row hv.pos (by have := hv.sum; omega)] at k1
    replace k0 : 0 ≤ sumP (keptP s cm (rowV part true c)) ∧ sumP (keptP s cm (rowV part true c)) ≤ negV c := k0
    replace k1 : 0 ≤ sumP (keptP s cm (rowV part false c)) ∧ sumP (keptP s cm (rowV part false c)) ≤ posV c := k1
    obtain ⟨t1, t2, t3, t4⟩ := hv.three
    have ht := hv.sum
    obtain ⟨p, hp0⟩ : ∃ p, negV c - sumP (keptP s cm (rowV part true c)) = p := ⟨_, rfl⟩
    obtain ⟨q, hq0⟩ : ∃ q, posV c - sumP (keptP s cm (rowV part false c)) = q := ⟨_, rfl⟩
    rw [hp0, hq0] at HF3 HD
    have hpq : 0 ≤ p ∧ 0 ≤ q ∧ p + q ≤ 9223372036854775807 := by omega
    have HP0 : Hid (0 ≤ p ∧ 0 ≤ q ∧ p + q ≤ 9223372036854775807) := hpq
    obtain ⟨un, hun⟩ : ∃ v, upV c x = v := ⟨_, rfl⟩
    rw [hun] at HF2 HD
    have q1 : decide (un < rl) = false := decide_eq_false (by have := HD.1; dsimp only at this; omega)
    have q2 : decide (rh < un) = false := decide_eq_false (by have := HD.1; dsimp only at this; omega)
    have HD2 := Lib.hid HD.2
    have wpq : IntKind.u64.wrap (p + q) = p + q := wrap_in (by omega)
    have hBI' := Lib.hid hBI
    have hPO' := Lib.hid hPO
    clear hPO
    have hPO := hPO'
    clear HB2 f2 l2 HAM hp hv hX hB hST hc hr hp0 hq0 hun HUV HTN t1 t2 t3 t4 ht k0 k1 hpq HD bdx hBI hPO' HRC0
    go_wp2_with fail
    refine HF1.out.mono ?_
    rintro e w4 ⟨rfl, hb⟩
    have HB4 := Lib.hid hb
    have f4 := At.six (hBI'.out.below hb)
    have l4 := At.lt (hBI'.out.below hb)
    clear hb HF1
    go_wp2_with fail
    refine (HF2.out w4 HB4.out).mono ?_
    rintro e w5 ⟨rfl, hb⟩
    have HB5 := Lib.hid (keep1 HB4.out hb)
    clear hb HB4 HF2 f4 l4
    go_wp2_with fail
    refine (HF3.out w5 HB5.out).mono ?_
    rintro e w6 ⟨rfl, hb⟩
    have HB6 := Lib.hid (keep1 HB5.out hb)
    have f6 := At.six (hBI'.out.below HB6.out)
    have l6 := At.lt (hBI'.out.below HB6.out)
    clear hb HB5 HF3 hBI' q1 q2

    by_cases hlost : 0 < p + q
    · have hd : decide (0 < p + q) = true := decide_eq_true hlost
      clear hlost f6 l6
      go_wp2
      go_ret
      exact ⟨rfl, keep1 HB3.out HB6.out⟩
    have hd : decide (0 < p + q) = false := decide_eq_false hlost
    have HD3 : Hid (if x = 0 then rl = aheadV part x c + ownV part x c ∧ rh = rl else rl = aheadV part x c ∧ rh = aheadV part x c + ownV part x c) := HD2.out (by have := HP0.out; omega)
    clear HD2 hlost
    go_wp2
    clear f6 l6 hd wpq
    go_loopw [13, 14, 16, 17, 62] (fun a o _ _ i wr => ∃ j : Nat, ∃ aa oo : Int, j ≤ n ∧ i = .int .i64 j ∧ a = .int .u64 aa ∧ o = .int .u64 oo ∧ Hid (aa = aheadV part x (c.take j)) ∧ Hid (oo = ownV part x (c.take j)) ∧ Below w3.heap.size w3 wr) (fun _ _ _ _ i _ => n - (intOf i).toNat)
    case atStart => exact ⟨0, 0, 0, by omega, rfl, rfl, rfl, rfl, rfl, HB6.out⟩
    case round =>
      obtain ⟨j, aa, oo, hj, rfl, rfl, rfl, HA, HO, hB⟩ := hrel
      clear HB6
      by_cases hlt : j < n
      · obtain ⟨g, o, rfl, hg, c1, c2⟩ := (HR3.out.below hB).at j (by have := HN.out; omega)
        have HOX := Lib.hid (HC0.out.at j (by have := HN.out; omega))
        have HA1 := Lib.hid (sumP_filter_take c (fun v => decide (¬ withX part x v.1 ∧ v.1 < x)) j (by have := HN.out; omega))
        have HO1 := Lib.hid (sumP_filter_take c (fun v => decide (withX part x v.1)) j (by have := HN.out; omega))
        have HNU : Hid (0 ≤ aa ∧ 0 ≤ oo ∧ aa + (c[j]'(by have := HN.out; omega)).2 ≤ 18446744073709551615 ∧ oo + (c[j]'(by have := HN.out; omega)).2 ≤ 18446744073709551615) := by
          have h1 := sumP_filter_le (ps := c.take j) (fun v hv' => HV.out.pos v (List.mem_of_mem_take hv')) (fun v => decide (¬ withX part x v.1 ∧ v.1 < x))
          have h2 := sumP_filter_le (ps := c.take j) (fun v hv' => HV.out.pos v (List.mem_of_mem_take hv')) (fun v => decide (withX part x v.1))
          have h3 := (vsum_take HV.out.pos (j + 1)).2
          have h4 := HV.out.sum
          have h5 := sumP_filter_take c (fun _ => true) j (by have := HN.out; omega)
          rw [List.filter_eq_self.2 (fun _ _ => rfl), List.filter_eq_self.2 (fun _ _ => rfl)] at h5
          have h6 := HA.out
          have h7 := HO.out
          unfold aheadV at h6
          unfold ownV at h7
          simp only [if_true] at h5
          show _ ∧ _
          omega
        rw [show sumP ((c.take j).filter fun v => decide (¬ withX part x v.1 ∧ v.1 < x)) = aa from HA.out.symm] at HA1
        rw [show sumP ((c.take j).filter fun v => decide (withX part x v.1)) = oo from HO.out.symm] at HO1
        have HNN : Hid (0 < (c[j]'(by have := HN.out; omega)).2) := HV.out.pos _ (List.getElem_mem (by have := HN.out; omega))
        obtain ⟨⟨y1, y2⟩, hy⟩ : ∃ y, c[j]'(by have := HN.out; omega) = y := ⟨_, rfl⟩
        rw [hy] at c1 c2 HOX HA1 HO1 HNU HNN
        dsimp only at c1 c2 HOX HA1 HO1 HNU HNN
        clear hy HA HO
        have HVB : Hid (At (wr.alloc (.cells #[.int .i64 y1, .int .u64 y2] 44)) wr.heap.size #[.int .i64 y1, .int .u64 y2] 44) := At.new' _ _ _ rfl
        have HBW : Hid (Below w3.heap.size w3 (wr.alloc (.cells #[.int .i64 y1, .int .u64 y2] 44))) := hB.alloc hB.size _
        clear hB
        rcases (show (x < 0 ∧ y1 < 0) ∨ (0 < x ∧ 0 < y1) ∨ (x = 0 ∧ y1 = 0) ∨ (x < 0 ∧ y1 = 0) ∨ (x < 0 ∧ 0 < y1) ∨ (x = 0 ∧ y1 < 0) ∨ (x = 0 ∧ 0 < y1) ∨ (0 < x ∧ y1 < 0) ∨ (0 < x ∧ y1 = 0) by omega) with ⟨s1, s2⟩ | ⟨s1, s2⟩ | ⟨s1, s2⟩ | ⟨s1, s2⟩ | ⟨s1, s2⟩ | ⟨s1, s2⟩ | ⟨s1, s2⟩ | ⟨s1, s2⟩ | ⟨s1, s2⟩
        · have q1 : decide (x < 0) = true := decide_eq_true (by omega)
          have q2 : (x == 0) = false := beq_eq_false_iff_ne.2 (by omega)
          have q3 : decide (y1 < 0) = true := decide_eq_true (by omega)
          have q4 : (y1 == 0) = false := beq_eq_false_iff_ne.2 (by omega)
          have HPX := Lib.hid fun W hW => hPO.out W hW x.natAbs (by omega) (by have := HX.out; omega)
          have HPY := Lib.hid fun W hW => hPO.out W hW y1.natAbs (by omega) (by have := HOX.out.1; omega)
          obtain ⟨px, hpx⟩ : ∃ p, part x.natAbs = p := ⟨_, rfl⟩
          obtain ⟨py, hpy⟩ : ∃ p, part y1.natAbs = p := ⟨_, rfl⟩
          have HWX : Hid (withX part x y1 ↔ py = px) := by show _ ↔ _; unfold withX; omega
          rw [hpx] at HPX
          rw [hpy] at HPY
          clear hpx hpy
          go_wp2_with fail
          refine (rsize_any y1 _ HOX.out.1.1 HOX.out.1.2).mono ?_
          rintro e w5 ⟨rfl, rfl⟩
          go_wp2_with fail
          refine (HPY.out _ HBW.out).mono ?_
          rintro e w6 ⟨rfl, hb6⟩
          have HB6 := Lib.hid (keep1 HBW.out hb6)
          have HV6 := Lib.hid (HVB.out.below hb6)
          clear hb6
          go_wp2_with fail
          refine (rsize_any x _ HX.out.1 HX.out.2).mono ?_
          rintro e w7 ⟨rfl, rfl⟩
          go_wp2_with fail
          refine (HPX.out _ HB6.out).mono ?_
          rintro e w8 ⟨rfl, hb8⟩
          have HB8 := Lib.hid (keep1 HB6.out hb8)
          have f8 := (HV6.out.below hb8).two
          have l8 := (HV6.out.below hb8).lt
          clear hb8 HB6 HV6 HVB HBW
          by_cases hpq : py = px
          · have hW : withX part x y1 := HWX.out.2 hpq
            have q5 : (py == px) = true := beq_iff_eq.2 hpq
            have h1 := HO1.out
            rw [if_pos (decide_eq_true hW)] at h1
            have h2 := HA1.out
            rw [if_neg (by simp [hW]), Int.add_zero] at h2
            have wo : IntKind.u64.wrap (oo + y2) = oo + y2 := by have := HNU.out; have := HNN.out; simp only [IntKind.wrap_u64]; omega
            have H1 := Lib.hid h1
            have H2 := Lib.hid h2
            clear h1 h2 hW s1 s2
            go_wp2
            go_roundw
            case rel => exact ⟨j + 1, aa, oo + y2, by omega, by simp, rfl, rfl, H2.out.symm, H1.out.symm, HB8.out⟩
            case measure => simp [intOf]; omega
          · have hW : ¬ withX part x y1 := fun h => hpq (HWX.out.1 h)
            have q5 : (py == px) = false := beq_eq_false_iff_ne.2 hpq
            by_cases hy : y1 < x
            · have h1 := HO1.out
              rw [if_neg (by simp [hW]), Int.add_zero] at h1
              have h2 := HA1.out
              rw [if_pos (decide_eq_true ⟨hW, hy⟩)] at h2
              have wo : IntKind.u64.wrap (aa + y2) = aa + y2 := by have := HNU.out; have := HNN.out; simp only [IntKind.wrap_u64]; omega
              have hd : decide (y1 < x) = true := decide_eq_true hy
              have H1 := Lib.hid h1
              have H2 := Lib.hid h2
              clear h1 h2 hW s1 s2 hy
              go_wp2
              go_roundw
              case rel => exact ⟨j + 1, aa + y2, oo, by omega, by simp, rfl, rfl, H2.out.symm, H1.out.symm, HB8.out⟩
              case measure => simp [intOf]; omega
            · have h1 := HO1.out
              rw [if_neg (by simp [hW]), Int.add_zero] at h1
              have h2 := HA1.out
              rw [if_neg (by simp [hy]), Int.add_zero] at h2
              have hd : decide (y1 < x) = false := decide_eq_false hy
              have H1 := Lib.hid h1
              have H2 := Lib.hid h2
              clear h1 h2 hW s1 s2 hy
              go_wp2
              go_roundw
              case rel => exact ⟨j + 1, aa, oo, by omega, by simp, rfl, rfl, H2.out.symm, H1.out.symm, HB8.out⟩
              case measure => simp [intOf]; omega
        · have q1 : decide (x < 0) = false := decide_eq_false (by omega)
          have q2 : (x == 0) = false := beq_eq_false_iff_ne.2 (by omega)
          have q3 : decide (y1 < 0) = false := decide_eq_false (by omega)
          have q4 : (y1 == 0) = false := beq_eq_false_iff_ne.2 (by omega)
          have HPX := Lib.hid fun W hW => hPO.out W hW x.natAbs (by omega) (by have := HX.out; omega)
          have HPY := Lib.hid fun W hW => hPO.out W hW y1.natAbs (by omega) (by have := HOX.out.1; omega)
          obtain ⟨px, hpx⟩ : ∃ p, part x.natAbs = p := ⟨_, rfl⟩
          obtain ⟨py, hpy⟩ : ∃ p, part y1.natAbs = p := ⟨_, rfl⟩
          have HWX : Hid (withX part x y1 ↔ py = px) := by show _ ↔ _; unfold withX; omega
          rw [hpx] at HPX
          rw [hpy] at HPY
          clear hpx hpy
          go_wp2_with fail
          refine (rsize_any y1 _ HOX.out.1.1 HOX.out.1.2).mono ?_
          rintro e w5 ⟨rfl, rfl⟩
          go_wp2_with fail
          refine (HPY.out _ HBW.out).mono ?_
          rintro e w6 ⟨rfl, hb6⟩
          have HB6 := Lib.hid (keep1 HBW.out hb6)
          have HV6 := Lib.hid (HVB.out.below hb6)
          clear hb6
          go_wp2_with fail
          refine (rsize_any x _ HX.out.1 HX.out.2).mono ?_
          rintro e w7 ⟨rfl, rfl⟩
          go_wp2_with fail
          refine (HPX.out _ HB6.out).mono ?_
          rintro e w8 ⟨rfl, hb8⟩
          have HB8 := Lib.hid (keep1 HB6.out hb8)
          have f8 := (HV6.out.below hb8).two
          have l8 := (HV6.out.below hb8).lt
          clear hb8 HB6 HV6 HVB HBW
          by_cases hpq : py = px
          · have hW : withX part x y1 := HWX.out.2 hpq
            have q5 : (py == px) = true := beq_iff_eq.2 hpq
            have h1 := HO1.out
            rw [if_pos (decide_eq_true hW)] at h1
            have h2 := HA1.out
            rw [if_neg (by simp [hW]), Int.add_zero] at h2
            have wo : IntKind.u64.wrap (oo + y2) = oo + y2 := by have := HNU.out; have := HNN.out; simp only [IntKind.wrap_u64]; omega
            have H1 := Lib.hid h1
            have H2 := Lib.hid h2
            clear h1 h2 hW s1 s2
            go_wp2
            go_roundw
            case rel => exact ⟨j + 1, aa, oo + y2, by omega, by simp, rfl, rfl, H2.out.symm, H1.out.symm, HB8.out⟩
            case measure => simp [intOf]; omega
          · have hW : ¬ withX part x y1 := fun h => hpq (HWX.out.1 h)
            have q5 : (py == px) = false := beq_eq_false_iff_ne.2 hpq
            by_cases hy : y1 < x
            · have h1 := HO1.out
              rw [if_neg (by simp [hW]), Int.add_zero] at h1
              have h2 := HA1.out
              rw [if_pos (decide_eq_true ⟨hW, hy⟩)] at h2
              have wo : IntKind.u64.wrap (aa + y2) = aa + y2 := by have := HNU.out; have := HNN.out; simp only [IntKind.wrap_u64]; omega
              have hd : decide (y1 < x) = true := decide_eq_true hy
              have H1 := Lib.hid h1
              have H2 := Lib.hid h2
              clear h1 h2 hW s1 s2 hy
              go_wp2
              go_roundw
              case rel => exact ⟨j + 1, aa + y2, oo, by omega, by simp, rfl, rfl, H2.out.symm, H1.out.symm, HB8.out⟩
              case measure => simp [intOf]; omega
            · have h1 := HO1.out
              rw [if_neg (by simp [hW]), Int.add_zero] at h1
              have h2 := HA1.out
              rw [if_neg (by simp [hy]), Int.add_zero] at h2
              have hd : decide (y1 < x) = false := decide_eq_false hy
              have H1 := Lib.hid h1
              have H2 := Lib.hid h2
              clear h1 h2 hW s1 s2 hy
              go_wp2
              go_roundw
              case rel => exact ⟨j + 1, aa, oo, by omega, by simp, rfl, rfl, H2.out.symm, H1.out.symm, HB8.out⟩
              case measure => simp [intOf]; omega
        · have q1 : decide (x < 0) = false := decide_eq_false (by omega)
          have q2 : (x == 0) = true := beq_iff_eq.2 (by omega)
          have q3 : decide (y1 < 0) = false := decide_eq_false (by omega)
          have q4 : (y1 == 0) = true := beq_iff_eq.2 (by omega)
          have hW : withX part x y1 := by unfold withX; omega
          have f8 := HVB.out.two
          have l8 := HVB.out.lt
          have h1 := HO1.out
          rw [if_pos (decide_eq_true hW)] at h1
          have h2 := HA1.out
          rw [if_neg (by simp [hW]), Int.add_zero] at h2
          have wo : IntKind.u64.wrap (oo + y2) = oo + y2 := by have := HNU.out; have := HNN.out; simp only [IntKind.wrap_u64]; omega
          have H1 := Lib.hid h1
          have H2 := Lib.hid h2
          clear h1 h2 hW s1 s2
          go_wp2
          go_roundw
          case rel => exact ⟨j + 1, aa, oo + y2, by omega, by simp, rfl, rfl, H2.out.symm, H1.out.symm, HBW.out⟩
          case measure => simp [intOf]; omega
        · have q1 : decide (x < 0) = true := decide_eq_true (by omega)
          have q2 : (x == 0) = false := beq_eq_false_iff_ne.2 (by omega)
          have q3 : decide (y1 < 0) = false := decide_eq_false (by omega)
          have q4 : (y1 == 0) = true := beq_iff_eq.2 (by omega)
          have hW : ¬ withX part x y1 := by unfold withX; omega
          have f8 := HVB.out.two
          have l8 := HVB.out.lt
          have hy : ¬ y1 < x := by omega
          have h1 := HO1.out
          rw [if_neg (by simp [hW]), Int.add_zero] at h1
          have h2 := HA1.out
          rw [if_neg (by simp [hy]), Int.add_zero] at h2
          have hd : decide (y1 < x) = false := decide_eq_false hy
          have H1 := Lib.hid h1
          have H2 := Lib.hid h2
          clear h1 h2 hW s1 s2 hy
          go_wp2
          go_roundw
          case rel => exact ⟨j + 1, aa, oo, by omega, by simp, rfl, rfl, H2.out.symm, H1.out.symm, HBW.out⟩
          case measure => simp [intOf]; omega
        · have q1 : decide (x < 0) = true := decide_eq_true (by omega)
          have q2 : (x == 0) = false := beq_eq_false_iff_ne.2 (by omega)
          have q3 : decide (y1 < 0) = false := decide_eq_false (by omega)
          have q4 : (y1 == 0) = false := beq_eq_false_iff_ne.2 (by omega)
          have hW : ¬ withX part x y1 := by unfold withX; omega
          have f8 := HVB.out.two
          have l8 := HVB.out.lt
          have hy : ¬ y1 < x := by omega
          have h1 := HO1.out
          rw [if_neg (by simp [hW]), Int.add_zero] at h1
          have h2 := HA1.out
          rw [if_neg (by simp [hy]), Int.add_zero] at h2
          have hd : decide (y1 < x) = false := decide_eq_false hy
          have H1 := Lib.hid h1
          have H2 := Lib.hid h2
          clear h1 h2 hW s1 s2 hy
          go_wp2
          go_roundw
          case rel => exact ⟨j + 1, aa, oo, by omega, by simp, rfl, rfl, H2.out.symm, H1.out.symm, HBW.out⟩
          case measure => simp [intOf]; omega
        · have q1 : decide (x < 0) = false := decide_eq_false (by omega)
          have q2 : (x == 0) = true := beq_iff_eq.2 (by omega)
          have q3 : decide (y1 < 0) = true := decide_eq_true (by omega)
          have q4 : (y1 == 0) = false := beq_eq_false_iff_ne.2 (by omega)
          have hW : ¬ withX part x y1 := by unfold withX; omega
          have f8 := HVB.out.two
          have l8 := HVB.out.lt
          have hy : y1 < x := by omega
          have h1 := HO1.out
          rw [if_neg (by simp [hW]), Int.add_zero] at h1
          have h2 := HA1.out
          rw [if_pos (decide_eq_true ⟨hW, hy⟩)] at h2
          have wo : IntKind.u64.wrap (aa + y2) = aa + y2 := by have := HNU.out; have := HNN.out; simp only [IntKind.wrap_u64]; omega
          have hd : decide (y1 < x) = true := decide_eq_true hy
          have H1 := Lib.hid h1
          have H2 := Lib.hid h2
          clear h1 h2 hW s1 s2 hy
          go_wp2
          go_roundw
          case rel => exact ⟨j + 1, aa + y2, oo, by omega, by simp, rfl, rfl, H2.out.symm, H1.out.symm, HBW.out⟩
          case measure => simp [intOf]; omega
        · have q1 : decide (x < 0) = false := decide_eq_false (by omega)
          have q2 : (x == 0) = true := beq_iff_eq.2 (by omega)
          have q3 : decide (y1 < 0) = false := decide_eq_false (by omega)
          have q4 : (y1 == 0) = false := beq_eq_false_iff_ne.2 (by omega)
          have hW : ¬ withX part x y1 := by unfold withX; omega
          have f8 := HVB.out.two
          have l8 := HVB.out.lt
          have hy : ¬ y1 < x := by omega
          have h1 := HO1.out
          rw [if_neg (by simp [hW]), Int.add_zero] at h1
          have h2 := HA1.out
          rw [if_neg (by simp [hy]), Int.add_zero] at h2
          have hd : decide (y1 < x) = false := decide_eq_false hy
          have H1 := Lib.hid h1
          have H2 := Lib.hid h2
          clear h1 h2 hW s1 s2 hy
          go_wp2
          go_roundw
          case rel => exact ⟨j + 1, aa, oo, by omega, by simp, rfl, rfl, H2.out.symm, H1.out.symm, HBW.out⟩
          case measure => simp [intOf]; omega
        · have q1 : decide (x < 0) = false := decide_eq_false (by omega)
          have q2 : (x == 0) = false := beq_eq_false_iff_ne.2 (by omega)
          have q3 : decide (y1 < 0) = true := decide_eq_true (by omega)
          have q4 : (y1 == 0) = false := beq_eq_false_iff_ne.2 (by omega)
          have hW : ¬ withX part x y1 := by unfold withX; omega
          have f8 := HVB.out.two
          have l8 := HVB.out.lt
          have hy : y1 < x := by omega
          have h1 := HO1.out
          rw [if_neg (by simp [hW]), Int.add_zero] at h1
          have h2 := HA1.out
          rw [if_pos (decide_eq_true ⟨hW, hy⟩)] at h2
          have wo : IntKind.u64.wrap (aa + y2) = aa + y2 := by have := HNU.out; have := HNN.out; simp only [IntKind.wrap_u64]; omega
          have hd : decide (y1 < x) = true := decide_eq_true hy
          have H1 := Lib.hid h1
          have H2 := Lib.hid h2
          clear h1 h2 hW s1 s2 hy
          go_wp2
          go_roundw
          case rel => exact ⟨j + 1, aa + y2, oo, by omega, by simp, rfl, rfl, H2.out.symm, H1.out.symm, HBW.out⟩
          case measure => simp [intOf]; omega
        · have q1 : decide (x < 0) = false := decide_eq_false (by omega)
          have q2 : (x == 0) = false := beq_eq_false_iff_ne.2 (by omega)
          have q3 : decide (y1 < 0) = false := decide_eq_false (by omega)
          have q4 : (y1 == 0) = true := beq_iff_eq.2 (by omega)
          have hW : ¬ withX part x y1 := by unfold withX; omega
          have f8 := HVB.out.two
          have l8 := HVB.out.lt
          have hy : y1 < x := by omega
          have h1 := HO1.out
          rw [if_neg (by simp [hW]), Int.add_zero] at h1
          have h2 := HA1.out
          rw [if_pos (decide_eq_true ⟨hW, hy⟩)] at h2
          have wo : IntKind.u64.wrap (aa + y2) = aa + y2 := by have := HNU.out; have := HNN.out; simp only [IntKind.wrap_u64]; omega
          have hd : decide (y1 < x) = true := decide_eq_true hy
          have H1 := Lib.hid h1
          have H2 := Lib.hid h2
          clear h1 h2 hW s1 s2 hy
          go_wp2
          go_roundw
          case rel => exact ⟨j + 1, aa + y2, oo, by omega, by simp, rfl, rfl, H2.out.symm, H1.out.symm, HBW.out⟩
          case measure => simp [intOf]; omega
      · obtain rfl : j = n := by omega
        have h1 := HA.out
        have h2 := HO.out
        rw [List.take_of_length_le (by have := HN.out; omega)] at h1 h2
        have hd := HD3.out
        rw [← h1, ← h2] at hd
        have HNU : 0 ≤ aa ∧ 0 ≤ oo ∧ aa + oo ≤ 18446744073709551615 := by
          have s1 := sumP_filter_le HV.out.pos (fun v => decide (¬ withX part x v.1 ∧ v.1 < x))
          have s2 := sumP_filter_le HV.out.pos (fun v => decide (withX part x v.1))
          have s4 := HV.out.sum
          unfold aheadV at h1
          unfold ownV at h2
          omega
        have wo : IntKind.u64.wrap (aa + oo) = aa + oo := wrap_in (by omega)
        have HFB := Lib.hid (keep1 HB3.out hB)
        clear h1 h2 HA HO HD3 HNU hB
        by_cases hx0 : x = 0
        · rw [if_pos hx0] at hd
          obtain ⟨rfl, rfl⟩ := hd
          subst hx0
          go_wp2
          go_ret
          exact ⟨rfl, HFB.out⟩
        · rw [if_neg hx0] at hd
          obtain ⟨rfl, rfl⟩ := hd
          have hx1 : (x == 0) = false := beq_eq_false_iff_ne.2 hx0
          clear hx0
          go_wp2
          go_ret
          exact ⟨rfl, HFB.out⟩
end Go.Proofs.YtplfiheejecjiaaGreatDoor
