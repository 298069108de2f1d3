/- The walk of the statement CoreKept. -/
import Derived.Test.YtlbnlmhcpephbaaGreatDoorProg
import Derived.Test.YtlbnlmhcpephbaaGreatDoorKb1
import Derived.Test.YtlbnlmhcpephbaaGreatDoorKb13
namespace Go.Proofs.YtlbnlmhcpephbaaGreatDoor
open Go.RowKit
set_option maxRecDepth 100000 in
set_option maxHeartbeats 4000000 in
theorem coreKept_walk (w : World) (hTens : TensAt w) (c : Cfg) (hok : c.Ok) (Al : Option Addr) (len cl : Nat) (ls : List Lf) (hl : ls.length = len) (hl' : len ≤ 9223372036854775807) (hR : RdL w Al ls) (Ap : Option Addr) (m cp : Nat) (ps : List Int) (hm : ps.length = m) (hm' : m ≤ 9223372036854775807) (hP : RdI w Ap ps) (hpb : ∀ p ∈ ps, -9223372036854775808 ≤ p ∧ p ≤ 9223372036854775807) (p0 p1 : Int) (bdp0 : 0 ≤ p0 ∧ p0 < 18446744073709551616) (bdp1 : 0 ≤ p1 ∧ p1 < 18446744073709551616) :
  Calls Tryz.prog 4 #[c.val, .slice Al len cl, .slice Ap m cp, .agg #[.int .u64 p0, .int .u64 p1]] w fun e w' => e = .returned (.bool true) ∧ Below w.heap.size w w' := by
 have HPQ := Lib.hid (And.intro bdp0 bdp1)
 have HOK := Lib.hid hok
 have HTN := Lib.hid hTens
 have HR := Lib.hid hR
 have HPS := Lib.hid hP
 have HPB := Lib.hid (And.intro hm hpb)
 have HLN := Lib.hid hl
 obtain ⟨kd, pn, pd, sd, mo, dg, li, de, fa, wi, wo⟩ := c
 have HGR : Hid (∀ W, RdL W Al ls → Calls Tryz.prog 8 #[.agg #[.int .i64 kd, .int .u64 pn, .int .u64 pd, .int .i64 sd, .int .i64 mo, .int .i64 dg, .int .u64 li, .int .i64 de, .int .i64 fa, .int .i64 wi, .int .u64 wo], .slice Al len cl] W fun e w' => GreatR (Cfg.mk kd pn pd sd mo dg li de fa wi wo) ls W e w') := fun W h => great_any (Cfg.mk kd pn pd sd mo dg li de fa wi wo) Al len cl ls W HLN.out hl' h
 have HTR : Hid (∀ W, (kd = 1 ∨ kd = 2) → TensAt W → RdL W Al ls → PlayC (Cfg.mk kd pn pd sd mo dg li de fa wi wo) ls → RdI W Ap ps → Calls Tryz.prog 10 #[.agg #[.int .i64 kd, .int .u64 pn, .int .u64 pd, .int .i64 sd, .int .i64 mo, .int .i64 dg, .int .u64 li, .int .i64 de, .int .i64 fa, .int .i64 wi, .int .u64 wo], .slice Al len cl, .slice Ap m cp] W fun e w' => TreeR (fun w b S l => SkV w b S (Cfg.mk kd pn pd sd mo dg li de fa wi wo) l) W e w') := fun W hk hT h hp hP => tree_any (kind_lh _ HOK.out hk) Al len cl ls Ap m cp ps W hT HLN.out h hp HPB.out.1 hm' hP HPB.out.2
 have HNR : Hid ((0 ≤ pn ∧ pn < 18446744073709551616) ∧ (0 ≤ pd ∧ pd < 18446744073709551616)) := ⟨HOK.out.pn, HOK.out.pd⟩
 have hba : Below w.heap.size w ((w.alloc (.cells #[.int .i64 kd, .int .u64 pn, .int .u64 pd, .int .i64 sd, .int .i64 mo, .int .i64 dg, .int .u64 li, .int .i64 de, .int .i64 fa, .int .i64 wi, .int .u64 wo] 28)).alloc (.cells #[.int .u64 p0, .int .u64 p1] 25)) := ((Below.refl _ _).alloc (Nat.le_refl _) _).alloc (by first | omega | (simp; done) | (simp; omega) | (simp [World.setCell]; omega)) _
 have ac := (At.new w #[.int .i64 kd, .int .u64 pn, .int .u64 pd, .int .i64 sd, .int .i64 mo, .int .i64 dg, .int .u64 li, .int .i64 de, .int .i64 fa, .int .i64 wi, .int .u64 wo] 28).alloc (.cells #[.int .u64 p0, .int .u64 p1] 25)
 have ap := At.new' (w.alloc (.cells #[.int .i64 kd, .int .u64 pn, .int .u64 pd, .int .i64 sd, .int .i64 mo, .int .i64 dg, .int .u64 li, .int .i64 de, .int .i64 fa, .int .i64 wi, .int .u64 wo] 28)) #[.int .u64 p0, .int .u64 p1] 25 (b := w.heap.size + 1) (by simp)
 show Calls _ _ #[.agg #[.int .i64 kd, .int .u64 pn, .int .u64 pd, .int .i64 sd, .int .i64 mo, .int .i64 dg, .int .u64 li, .int .i64 de, .int .i64 fa, .int .i64 wi, .int .u64 wo], .slice Al len cl, .slice Ap m cp, .agg #[.int .u64 p0, .int .u64 p1]] _ _
 clear hok hTens hR hP hm hpb hl bdp0 bdp1
 go_enter Tryz.func4, Tryz.ntmps4
 go_wp2_with fail
 obtain ⟨W1, hW1⟩ : ∃ W, ((w.alloc (.cells #[.int .i64 kd, .int .u64 pn, .int .u64 pd, .int .i64 sd, .int .i64 mo, .int .i64 dg, .int .u64 li, .int .i64 de, .int .i64 fa, .int .i64 wi, .int .u64 wo] 28)).alloc (.cells #[.int .u64 p0, .int .u64 p1] 25)) = W := ⟨_, rfl⟩
 obtain ⟨pb, hpb⟩ : ∃ r, w.heap.size + 1 = r := ⟨_, rfl⟩
 obtain ⟨cb, hcb⟩ : ∃ r, w.heap.size = r := ⟨_, rfl⟩
 rw [hW1] at hba ac ap
 rw [hpb] at ap
 rw [hcb] at ac
 simp only [hW1, hpb]
 simp only [hcb]
 have HB1 := Lib.hid hba
 have HC1 := Lib.hid ac
 have HP1 := Lib.hid ap
 have HL1 := Lib.hid (And.intro ac.lt ap.lt)
 clear hW1 hpb hcb hba ac ap
 refine (talive_any W1 (HTN.out.below HB1.out)).mono ?_
 rintro e w2 ⟨rfl, hb⟩
 have HB2 := Lib.hid hb
 have f2 := (HC1.out.below hb).el
 have l2 := (HC1.out.below hb).lt
 have g2 := (HP1.out.below hb).two
 have m2 := (HP1.out.below hb).lt
 clear hb
 go_wp2_with fail
 refine (HGR.out w2 (HR.out.below (keep1 HB1.out HB2.out))).mono ?_
 rintro e w3 ⟨bv, rfl, hpl, hb⟩
 have HB3 := Lib.hid (keep1 HB2.out hb)
 have HPL := Lib.hid hpl
 have f3 := (HC1.out.below HB3.out).el
 have l3 := (HC1.out.below HB3.out).lt
 have g3 := (HP1.out.below HB3.out).two
 have m3 := (HP1.out.below HB3.out).lt
 have HFB := Lib.hid (keep1 HB1.out HB3.out)
 clear hb hpl f2 l2 g2 m2 HGR HB2
 cases bv with
 | true =>
  go_wp2
  go_ret
  exact ⟨rfl, HFB.out⟩
 | false =>
 go_wp2_with fail
 refine (rgood_any p0 p1 w3 HPQ.out.1.1 HPQ.out.1.2 HPQ.out.2.1 HPQ.out.2.2).mono ?_
 rintro e w4 ⟨rfl, hb⟩
 have HB4 := Lib.hid (keep1 HB3.out hb)
 have HF4 := Lib.hid (keep1 HB1.out HB4.out)
 have f4 := (HC1.out.below HB4.out).el
 have l4 := (HC1.out.below HB4.out).lt
 clear hb f3 l3 g3 m3 HFB HB3
 obtain ⟨gp, hgp⟩ : ∃ g, goodF p0 p1 = g := ⟨_, rfl⟩
 have HGP : Hid (goodF p0 p1 = gp) := hgp
 rw [hgp]
 clear hgp
 cases gp with
 | false =>
  go_wp2
  go_ret
  exact ⟨rfl, HF4.out⟩
 | true =>
 by_cases hk : ¬ kd = 1
 ·have hk1 : (kd != 1) = true := bne_iff_ne.2 hk
  clear hk
  go_wp2
  go_ret
  exact ⟨rfl, HF4.out⟩
 obtain rfl : kd = 1 := Classical.not_not.1 hk
 have HTRE := Lib.hid (HTR.out w4 (.inl rfl) (HTN.out.below HF4.out) (HR.out.below HF4.out) (HPL.out trivial) (HPS.out.below HF4.out))
 clear hk HTR HR HPL HPS HTN HF4
 go_wp2_with fail
 refine HTRE.out.mono ?_
 have HNW : Hid ((∃ part rep stand, Cs pn pd 0 false part rep stand) ∨ CsNo pn pd 0) := by
  rcases cs_cases (u := pn) (v := pd) (d := 0) HNR.out.1.1 HNR.out.2.1 (by omega) (by omega) with ⟨k, part, rep, stand, hc⟩ | hc
  ·have hk : k = false := by
    rcases hc with ⟨_, h, _⟩ | ⟨h, _⟩
    ·omega
    ·exact h
   subst hk
   exact .inl ⟨part, rep, stand, hc⟩
  ·exact .inr hc
 rintro e w5 (⟨hb, v0, v1, rfl⟩ | ⟨b, S, Aa, ca, n, l, rfl, hJ⟩)
 ·have HB5 := Lib.hid (keep1 HB4.out hb)
  have f5 := (HC1.out.below HB5.out).el
  have l5 := (HC1.out.below HB5.out).lt
  clear hb f4 l4 HTRE HB4
  rcases HNW.out with ⟨part, rep, stand, hc⟩ | hc
  ·have HDN := Lib.hid fun W => dnew_yes pn pd 0 sd mo false part rep stand W hc
   clear hc HNW
   go_wp2_with fail
   refine (HDN.out w5).mono ?_
   rintro e w6 ⟨⟨m', rfl, _⟩, hb⟩
   have HF := Lib.hid (keep1 HB1.out (keep1 HB5.out hb))
   clear hb f5 l5 HDN
   go_wp2
   go_ret
   exact ⟨rfl, HF.out⟩
  ·have HDN := Lib.hid fun W => dnew_no pn pd 0 sd mo W HNR.out.1 HNR.out.2 hc
   clear hc HNW
   go_wp2_with fail
   refine (HDN.out w5).mono ?_
   rintro e w6 ⟨rfl, hb⟩
   have HF := Lib.hid (keep1 HB1.out (keep1 HB5.out hb))
   clear hb f5 l5 HDN
   go_wp2
   go_ret
   exact ⟨rfl, HF.out⟩
 have HJ := Lib.hid hJ
 have HB5 := Lib.hid (keep1 HB4.out hJ.bl)
 obtain ⟨s, part, rep, stand, hc, hsd, hmo⟩ : ∃ s part rep stand, Cs pn pd 0 false part rep stand ∧ sd = sideZ s ∧ (1 ≤ mo ∧ mo ≤ 4096) := by
  obtain ⟨_, q, Q, _, _, h⟩ := hJ.sk
  rcases h with ⟨_, _, s, part, rep, stand, h1, h2, h3, _⟩ | ⟨k, _⟩
  ·exact ⟨s, part, rep, stand, h1, h2, h3⟩
  ·cases k
 have HCS := Lib.hid hc
 have HMO := Lib.hid hmo
 have HSD := Lib.hid hsd
 have f5 := (HC1.out.below HB5.out).el
 have l5 := (HC1.out.below HB5.out).lt
 clear hJ f4 l4 HTRE HB4 HNW hc hsd hmo
 go_wp2_with fail
 refine (dnew_yes pn pd 0 sd mo false part rep stand w5 HCS.out).mono ?_
 rintro e w6 ⟨⟨m', rfl, TB, _, hD⟩, hb⟩
 have HB6 := Lib.hid hb
 obtain ⟨lows, reps, _, hPO, _⟩ := DocAt.get hD HCS.out
 have HPO := Lib.hid hPO
 clear hb hD hPO f5 l5
 by_cases hn0 : n = 0
 ·subst hn0
  have HF := Lib.hid (keep1 HB1.out (keep1 HB5.out HB6.out))
  go_wp2
  go_ret
  exact ⟨rfl, HF.out⟩
 have hn1 : ((n : Int) == 0) = false := beq_eq_false_iff_ne.2 (by omega)
 have hn2 : (n == 0) = false := beq_eq_false_iff_ne.2 hn0
 have HV : Hid (VOk l) := HJ.out.lok.vok
 have hln : l ≠ [] := fun e => hn0 (by rw [← HJ.out.len, e]; rfl)
 have HN3 : Hid (l.length = n ∧ n ≤ 360) := ⟨HJ.out.len, by have := HJ.out.lok.len; have := HJ.out.len; omega⟩
 have HRD := Lib.hid fun W (hW : Below w5.heap.size w5 W) => HJ.out.own.rd.below hW
 have HUP : Hid (∀ W, Below w5.heap.size w5 W → Calls Tryz.prog 11 #[.slice Aa n ca, .int .i64 9223372036854775807] W fun e w' => e = .returned (.int .u64 (sumP l)) ∧ Below W.heap.size W w') := fun W hW => by
  have := up_any Aa n ca l 9223372036854775807 W HN3.out.1 (by have := HN3.out.2; omega) (HRD.out W hW) HV.out.pos HV.out.sum
  rw [upV_all HV.out.ok] at this
  exact this
 have HPC := Lib.hid fun W => rplace_any p0 p1 (sumP l) W HPQ.out.1.1 HPQ.out.1.2 HPQ.out.2.1 HPQ.out.2.2 HV.out.sum0 (by have := HV.out.sum; omega)
 have HEX := Lib.hid fun W (hW : Below w5.heap.size w5 W) => exact_any Aa n ca l (placeT p0 p1 (sumP l)) W HN3.out.1 (by have := HN3.out.2; omega) (HRD.out W hW) HV.out.pos HV.out.sum
 obtain ⟨hE, x0, hx0, hxm, hq⟩ := quant_log (s := s) (most := mo) HCS.out HV.out hln HPQ.out.1.1 HGP.out
 rw [hE] at HPC
 rw [hx0] at HEX
 dsimp only [Option.getD_some, Option.isSome_some] at HEX
 have HXR : Hid (-9223372036854775808 ≤ x0 ∧ x0 ≤ 9223372036854775807) := by
  obtain ⟨y, hy, e⟩ := hxm
  rw [← e]; exact (HV.out.ok y hy).1
 have HXM := Lib.hid hxm
 have HQU : Hid (∀ W, Below w5.heap.size w5 W → Calls Tryz.prog 14 #[.pointer (some ⟨b, 0, none⟩), .agg #[.int .u64 p0, .int .u64 p1]] W fun e w' => ∃ x f, e = .returned (.tuple #[.int .i64 x, .int .i64 f]) ∧ (((x0 = 0 ∨ keptV part s mo l x0) ∧ f = 0) ∨ (x0 ≠ 0 ∧ ¬ keptV part s mo l x0 ∧ f = 9)) ∧ Below W.heap.size W w') := fun W hW =>
  (squant_any b S _ l p0 p1 W (SkV.below HJ.out.sk hW) HV.out ⟨HPQ.out.1, HPQ.out.2⟩).mono fun e w' h => by
   obtain ⟨x, f, he, hQ, hb⟩ := h
   refine ⟨x, f, he, ?_, hb⟩
   have h1 := hQ.1 rfl part rep stand s HCS.out HSD.out
   rcases hq with ⟨k1, k2⟩ | ⟨k1, k2, k3⟩
   ·rw [k2] at h1
    simp only [Prod.mk.injEq] at h1
    exact .inl ⟨k1, h1.2⟩
   ·rw [k3] at h1
    simp only [Prod.mk.injEq] at h1
    exact .inr ⟨k1, k2, h1.2⟩
 obtain ⟨T, hT⟩ : ∃ z, sumP l = z := ⟨_, rfl⟩
 rw [hT] at HUP HPC HEX
 obtain ⟨tp, htp⟩ : ∃ z, placeT p0 p1 T = z := ⟨_, rfl⟩
 rw [htp] at HPC HEX
 clear hn0 hln hE hx0 hxm hq hT htp
 have s6 := HP1.out.below (keep1 HB5.out HB6.out)
 have HU6 := Lib.hid fun W (hb : Below w6.heap.size w6 W) => HUP.out W (keep1 HB6.out hb)
 go_wp2_with fail
 have hfar1 := fun x : Far w6 => (x.at s6).two
 refine wp_region_far (by kernel_rfl) (by kernel_rfl) ?_
 repeat (first | go_big_quiet_skip | (go_big_quiet_want; go_big_quiet_op; first | go_big_quiet_on | (apply Exists.intro; refine ⟨fun _ => ?_, ?_⟩; (focus (first | (with_reducible refine far_of (HU6.out _ (Far.below _))) | (with_reducible refine far_of (HPC.out _)))); go_big_quiet_on)))
 refine wpQuiet_nil ?_
 rintro _ ⟨xq, rfl⟩
 clear hfar1
 have HB7 : Hid (Below w5.heap.size w5 xq.far) := keep1 HB6.out xq.below
 have HB67 : Hid (Below w6.heap.size w6 xq.far) := xq.below
 obtain ⟨W7, hW7⟩ : ∃ W, xq.far = W := ⟨_, rfl⟩
 rw [hW7] at HB7 HB67 ⊢
 clear hW7 s6 HU6 HUP HPC
 go_wp2_with fail
 refine (HEX.out W7 HB7.out).mono ?_
 rintro e w8 ⟨rfl, hb⟩
 have HB8 := Lib.hid (keep1 HB7.out hb)
 have HB68 := Lib.hid (keep1 HB67.out hb)
 have g8 := (HP1.out.below (keep1 HB5.out HB8.out)).two
 have m8 := (HP1.out.below (keep1 HB5.out HB8.out)).lt
 clear hb HEX HB7 HB67
 go_wp2_with fail
 refine (HQU.out w8 HB8.out).mono ?_
 rintro e w9 ⟨x, f, rfl, hff, hb⟩
 have HFF := Lib.hid hff
 have HB9 := Lib.hid (keep1 HB8.out hb)
 have HB69 := Lib.hid (keep1 HB68.out hb)
 have HF9 := Lib.hid (keep1 HB1.out (keep1 HB5.out HB9.out))
 clear hb hff HQU HB8 HB68 g8 m8 HJ
 by_cases hx00 : x0 = 0
 ·subst hx00
  obtain rfl : f = 0 := by
   rcases HFF.out with h | h
   ·exact h.2
   ·exact absurd rfl h.1
  go_wp2
  go_ret
  exact ⟨rfl, HF9.out⟩
 have hx01 : (x0 == 0) = false := beq_eq_false_iff_ne.2 hx00
 have HX0 := Lib.hid hx00
 have HSX := Lib.hid fun W => rsize_any x0 W HXR.out.1 HXR.out.2
 have HPX := Lib.hid (HPO.out w9 HB69.out x0.natAbs (by omega) (by have := HXR.out; omega))
 have HPR := Lib.hid HCS.out.ps.rng
 have HPXR := Lib.hid (HPR.out x0.natAbs (by omega) (by have := HXR.out; omega))
 obtain ⟨xa, hxa⟩ : ∃ a : Int, (x0.natAbs : Int) = a := ⟨_, rfl⟩
 rw [hxa] at HSX HPX
 obtain ⟨px, hpx⟩ : ∃ q, part x0.natAbs = q := ⟨_, rfl⟩
 have HPXE := Lib.hid hpx
 rw [hpx] at HPX HPXR
 clear hx00 hxa hpx
 go_wp2_with fail
 refine (HSX.out w9).mono ?_
 rintro e w' ⟨rfl, rfl⟩
 go_wp2_with fail
 refine HPX.out.mono ?_
 rintro e w10 ⟨rfl, hb⟩
 have HB10 := Lib.hid (keep1 HB9.out hb)
 have HB610 := Lib.hid (keep1 HB69.out hb)
 clear hb HPX HSX HB9 HB69 hx01
 have HI0 : Hid ((∃ y ∈ l, (y.1 ≠ 0 ∧ decide (y.1 < 0) = decide (x0 < 0)) ∧ part y.1.natAbs = px) ∧ ∀ y ∈ l.take 0, (y.1 ≠ 0 ∧ decide (y.1 < 0) = decide (x0 < 0)) → if s then part y.1.natAbs ≤ px else px ≤ part y.1.natAbs) := by
  obtain ⟨y, hy, e⟩ := HXM.out
  exact ⟨⟨y, hy, ⟨by rw [e]; exact HX0.out, by rw [e]⟩, by rw [e]; exact HPXE.out⟩, fun z hz => by simp at hz⟩
 have hn360 : n ≤ 360 := HN3.out.2
 go_wp2
 go_loopw [21, 99] (fun v i wr => ∃ k : Nat, k ≤ n ∧ i = .int .i64 k ∧ ∃ E, v = .int .i64 E ∧ (0 ≤ E ∧ E ≤ 1048576) ∧ Hid ((∃ y ∈ l, (y.1 ≠ 0 ∧ decide (y.1 < 0) = decide (x0 < 0)) ∧ part y.1.natAbs = E) ∧ ∀ y ∈ l.take k, (y.1 ≠ 0 ∧ decide (y.1 < 0) = decide (x0 < 0)) → if s then part y.1.natAbs ≤ E else E ≤ part y.1.natAbs) ∧ Hid (Below w10.heap.size w10 wr)) (fun _ i _ => n - (intOf i).toNat)
 case atStart => exact ⟨0, by omega, rfl, px, rfl, by have := HPXR.out; omega, HI0, Below.refl _ _⟩
 case round =>
  obtain ⟨k, hk, rfl, E, rfl, hEr, HI, HBR⟩ := hrel
  clear HI0
  by_cases hlt : k < n
  ·have HKL : Hid (k < l.length) := by have := HN3.out.1; show _ < _; omega
   obtain ⟨g, o, rfl, hg, c1, c2⟩ := (HRD.out wr (keep1 HB10.out HBR.out)).at k HKL.out
   have HVX := Lib.hid (And.intro (HV.out.ok _ (List.getElem_mem HKL.out)).1 (List.getElem_mem HKL.out))
   have HT : Hid (l.take (k + 1) = l.take k ++ [l[k]'HKL.out]) := List.take_succ_eq_append_getElem HKL.out
   obtain ⟨⟨v, y⟩, hvy⟩ : ∃ x, l[k]'HKL.out = x := ⟨_, rfl⟩
   rw [hvy] at c1 c2 HVX HT
   dsimp only at c1 c2 HVX
   have hbe : Below wr.heap.size wr (wr.alloc (.cells #[.int .i64 v, .int .u64 y] 54)) := (Below.refl _ _).alloc (Nat.le_refl _) _
   have HBR1 := Lib.hid (keep1 HBR.out hbe)
   have HSKIP : Hid (¬ (v ≠ 0 ∧ decide (v < 0) = decide (x0 < 0)) → (∃ y ∈ l, (y.1 ≠ 0 ∧ decide (y.1 < 0) = decide (x0 < 0)) ∧ part y.1.natAbs = E) ∧ ∀ y ∈ l.take (k + 1), (y.1 ≠ 0 ∧ decide (y.1 < 0) = decide (x0 < 0)) → if s then part y.1.natAbs ≤ E else E ≤ part y.1.natAbs) := fun hno => ⟨HI.out.1, fun z hz hs => by
    rw [HT.out] at hz
    rcases List.mem_append.1 hz with h | h
    ·exact HI.out.2 z h hs
    ·rw [List.mem_singleton] at h; subst h; exact absurd hs hno⟩
   clear hvy hbe
   by_cases hv0 : v = 0
   ·subst hv0
    have HN := Lib.hid (HSKIP.out fun h => h.1 rfl)
    clear HSKIP
    go_wp2
    go_roundw
    case rel => exact ⟨k + 1, by omega, by simp, E, rfl, hEr, HN, HBR1⟩
    case measure => simp [intOf]; omega
   have hv1 : (v != 0) = true := bne_iff_ne.2 hv0
   by_cases hsg : decide (v < 0) = decide (x0 < 0)
   rotate_left
   ·have hsg1 : (decide (v < 0) == decide (x0 < 0)) = false := beq_eq_false_iff_ne.2 hsg
    have HN := Lib.hid (HSKIP.out fun h => hsg h.2)
    clear HSKIP hsg hv0
    go_wp2
    go_roundw
    case rel => exact ⟨k + 1, by omega, by simp, E, rfl, hEr, HN, HBR1⟩
    case measure => simp [intOf]; omega
   have hsg1 : (decide (v < 0) == decide (x0 < 0)) = true := by rw [hsg]; exact beq_self_eq_true _
   have HSG := Lib.hid (And.intro hv0 hsg)
   have HSV := Lib.hid fun W => rsize_any v W HVX.out.1.1 HVX.out.1.2
   have HPV := Lib.hid (HPO.out _ (keep1 HB610.out HBR1.out) v.natAbs (by omega) (by have := HVX.out.1; omega))
   have HPVR := Lib.hid (HPR.out v.natAbs (by omega) (by have := HVX.out.1; omega))
   have HNEXT : Hid (∀ E', (E' = E ∨ E' = part v.natAbs) → (if s then E ≤ E' ∧ part v.natAbs ≤ E' else E' ≤ E ∧ E' ≤ part v.natAbs) → (∃ y ∈ l, (y.1 ≠ 0 ∧ decide (y.1 < 0) = decide (x0 < 0)) ∧ part y.1.natAbs = E') ∧ ∀ y ∈ l.take (k + 1), (y.1 ≠ 0 ∧ decide (y.1 < 0) = decide (x0 < 0)) → if s then part y.1.natAbs ≤ E' else E' ≤ part y.1.natAbs) := fun E' hE' hle => by
    refine ⟨?_, fun z hz hs => ?_⟩
    ·rcases hE' with rfl | rfl
     ·exact HI.out.1
     ·exact ⟨(v, y), HVX.out.2, ⟨HSG.out.1, HSG.out.2⟩, rfl⟩
    ·rw [HT.out] at hz
     rcases List.mem_append.1 hz with h | h
     ·have h1 := HI.out.2 z h hs
      cases s with
      | true => simp only [if_true] at h1 hle ⊢; omega
      | false => simp only [Bool.false_eq_true, if_false] at h1 hle ⊢; omega
     ·rw [List.mem_singleton] at h; subst h
      cases s with
      | true => simp only [if_true] at hle ⊢; omega
      | false => simp only [Bool.false_eq_true, if_false] at hle ⊢; omega
   obtain ⟨va, hva⟩ : ∃ a : Int, (v.natAbs : Int) = a := ⟨_, rfl⟩
   rw [hva] at HSV HPV
   obtain ⟨pv, hpv⟩ : ∃ q, part v.natAbs = q := ⟨_, rfl⟩
   rw [hpv] at HPV HPVR HNEXT
   clear hva hpv hv0 hsg HSKIP
   go_wp2_with fail
   obtain ⟨W1, hW1⟩ : ∃ W, wr.alloc (.cells #[.int .i64 v, .int .u64 y] 54) = W := ⟨_, rfl⟩
   rw [hW1] at HBR1 HPV
   simp only [hW1]
   clear hW1 c1 c2 hg
   refine (HSV.out W1).mono ?_
   rintro e w' ⟨rfl, rfl⟩
   go_wp2_with fail
   refine HPV.out.mono ?_
   rintro e w11 ⟨rfl, hb⟩
   have HB11 := Lib.hid (keep1 HBR1.out hb)
   have f11 := (HC1.out.below (keep1 HB5.out (keep1 HB10.out HB11.out))).el
   have l11 := (HC1.out.below (keep1 HB5.out (keep1 HB10.out HB11.out))).lt
   clear hb HPV HSV HBR1
   have hpvr := HPVR.out
   cases s with
   | true =>
    obtain rfl : sd = 0 := HSD.out
    have HN := Lib.hid (HNEXT.out (max E pv) (by omega) (by simp only [if_true]; omega))
    clear HNEXT
    go_wp2
    go_roundw
    case rel => exact ⟨k + 1, by omega, by simp, max E pv, rfl, by omega, HN, HB11⟩
    case measure => simp [intOf]; omega
   | false =>
    obtain rfl : sd = 1 := HSD.out
    have HN := Lib.hid (HNEXT.out (min E pv) (by omega) (by simp only [Bool.false_eq_true, if_false]; omega))
    clear HNEXT
    go_wp2
    go_roundw
    case rel => exact ⟨k + 1, by omega, by simp, min E pv, rfl, by omega, HN, HB11⟩
    case measure => simp [intOf]; omega
  ·obtain rfl : k = n := by omega
   have hI := HI.out
   rw [List.take_of_length_le (by have := HN3.out.1; omega)] at hI
   have hEP := endP_is HV.out HX0.out HXM.out hI.1 hI.2
   have hxE : if s then px ≤ E else E ≤ px := by
    obtain ⟨y, hy, e⟩ := HXM.out
    have := hI.2 y hy ⟨by rw [e]; exact HX0.out, by rw [e]⟩
    rw [e, HPXE.out] at this
    exact this
   have hkv : keptV part s mo l x0 ↔ max E px - min E px < mo := by
    unfold keptV gap
    rw [hEP, HPXE.out]
    cases s with
    | true => simp only [if_true] at hxE ⊢; omega
    | false => simp only [Bool.false_eq_true, if_false] at hxE ⊢; omega
   have hfin : (decide (max E px - min E px < mo) == (f == 0)) = true := by
    rcases HFF.out with ⟨h, rfl⟩ | ⟨_, h, rfl⟩
    ·have h' : keptV part s mo l x0 := h.elim (fun e => absurd e HX0.out) id
     rw [decide_eq_true (hkv.1 h')]
     rfl
    ·rw [decide_eq_false (fun hh => h (hkv.2 hh))]
     rfl
   have f11 := (HC1.out.below (keep1 HB5.out (keep1 HB10.out HBR.out))).el
   have l11 := (HC1.out.below (keep1 HB5.out (keep1 HB10.out HBR.out))).lt
   have hpxr := HPXR.out
   have hw : IntKind.i64.wrap (max E px - min E px) = max E px - min E px := by simp only [IntKind.wrap_i64]; omega
   have HF := Lib.hid (keep1 HB1.out (keep1 HB5.out (keep1 HB10.out HBR.out)))
   clear hI hEP hxE hkv hlt HI
   go_wp2
   go_ret
   exact ⟨rfl, HF.out⟩
end Go.Proofs.YtlbnlmhcpephbaaGreatDoor
