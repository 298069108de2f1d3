/- The walk of the statement CorePlaces. -/
import Derived.Test.YtlbnlmhcpephbaaGreatDoorProg
import Derived.Test.YtlbnlmhcpephbaaGreatDoorKc1
import Derived.Test.YtlbnlmhcpephbaaGreatDoorKc21
import Derived.Test.YtlbnlmhcpephbaaGreatDoorKc23
namespace Go.Proofs.YtlbnlmhcpephbaaGreatDoor
open Go.RowKit
theorem kind_no4 (pn pd sd mo dg li de fa wi wo : Int) (h : ¬ (sd = 0 ∧ mo = 0 ∧ dg = 0 ∧ li = 0 ∧ de = 0 ∧ fa = 0 ∧ wi = 0 ∧ wo = 0)) : KindC (Cfg.mk 4 pn pd sd mo dg li de fa wi wo) (fun _ _ _ _ => False) where
 frame h _ _ := h.elim
 lt h := h.elim
 mem h := h.elim
 new w _ := (sknew_not 4 pn pd sd mo dg li de fa wi wo pn pd 0 0 0 0 0 0 0 0 w (fun W => sbare_gr pn pd sd mo dg li de fa wi wo W) (fun W => sconf_gr pn pd sd mo dg li de fa wi wo W h)).mono fun e w' k => ⟨.inr ⟨1, by omega, k.1⟩, k.2⟩
 put _ _ _ _ _ _ h := h.elim
 code _ _ _ _ h := h.elim
 join _ _ _ _ _ _ _ h := h.elim
theorem kind_g4 (c : Cfg) (hok : c.Ok) (hk : c.kd = 4) : ∃ Sk : SkT, KindC c Sk ∧ ∀ w b S l, Sk w b S l → SkG c.pn c.pd w b S l := by
 obtain ⟨kd, pn, pd, sd, mo, dg, li, de, fa, wi, wo⟩ := c
 dsimp only at hk
 subst hk
 by_cases h : sd = 0 ∧ mo = 0 ∧ dg = 0 ∧ li = 0 ∧ de = 0 ∧ fa = 0 ∧ wi = 0 ∧ wo = 0
 ·obtain ⟨rfl, rfl, rfl, rfl, rfl, rfl, rfl, rfl⟩ := h
  exact ⟨_, kind_gr pn pd hok.pd, fun _ _ _ _ h => h⟩
 ·exact ⟨_, kind_no4 pn pd sd mo dg li de fa wi wo h, fun _ _ _ _ h => h.elim⟩
theorem rtimes_two (a b : Int) (w : World) (ha : 0 ≤ a) (ha' : a < 18446744073709551616) (hb : 0 ≤ b) (hb' : b < 18446744073709551616) :
  Calls Tryz.prog 21 #[.int .u64 a, .int .u64 b] w fun e w' => e = .returned (.agg #[.int .u64 (a * b / 18446744073709551616), .int .u64 (a * b % 18446744073709551616)]) ∧ Below w.heap.size w w' := by
 refine (rtimes_any a b w ha ha' hb hb').mono ?_
 rintro e w' ⟨hi, lo, h1, h2, h3, h4, hX, rfl, hB⟩
 have e1 : a * b / 18446744073709551616 = hi := by omega
 have e2 : a * b % 18446744073709551616 = lo := by omega
 rw [e1, e2]
 exact ⟨rfl, hB⟩
def GwP (cb : Nat) (cs : Array Value) (W : World) : Prop := At W cb cs 28
set_option maxRecDepth 100000 in
set_option maxHeartbeats 4000000 in
theorem corePlaces_walk (w : World) (hTens : TensAt w) (c : Cfg) (hok : c.Ok) (Al : Option Addr) (len cl : Nat) (ls : List Lf) (hl : ls.length = len) (hl' : len ≤ 9223372036854775807) (hR : RdL w Al ls) (Ap : Option Addr) (m cp : Nat) (ps : List Int) (hm : ps.length = m) (hm' : m ≤ 9223372036854775807) (hP : RdI w Ap ps) (hpb : ∀ p ∈ ps, -9223372036854775808 ≤ p ∧ p ≤ 9223372036854775807) (p0 p1 : Int) (bdp0 : 0 ≤ p0 ∧ p0 < 18446744073709551616) (bdp1 : 0 ≤ p1 ∧ p1 < 18446744073709551616) :
    Calls Tryz.prog 5 #[c.val, .slice Al len cl, .slice Ap m cp, .agg #[.int .u64 p0, .int .u64 p1]] w fun e w' => e = .returned (.bool true) ∧ Below w.heap.size w w' := by
  have HPQ := Lib.hid (And.intro bdp0 bdp1)
  have HOK := Lib.hid hok
  have HTN := Lib.hid hTens
  have HR := Lib.hid hR
  have HPS := Lib.hid hP
  have HPB := Lib.hid (And.intro hm hpb)
  have HLN := Lib.hid hl
  obtain ⟨kd, pn, pd, sd, mo, dg, li, de, fa, wi, wo⟩ := c
  have HGR : Hid (∀ W, RdL W Al ls → Calls Tryz.prog 8 #[.agg #[.int .i64 kd, .int .u64 pn, .int .u64 pd, .int .i64 sd, .int .i64 mo, .int .i64 dg, .int .u64 li, .int .i64 de, .int .i64 fa, .int .i64 wi, .int .u64 wo], .slice Al len cl] W fun e w' => GreatR (Cfg.mk kd pn pd sd mo dg li de fa wi wo) ls W e w') := fun W h => great_any (Cfg.mk kd pn pd sd mo dg li de fa wi wo) Al len cl ls W HLN.out hl' h
  have HTR : Hid (∀ W, kd = 4 → TensAt W → RdL W Al ls → PlayC (Cfg.mk kd pn pd sd mo dg li de fa wi wo) ls → RdI W Ap ps → ∃ Sk : SkT, (∀ w b S l, Sk w b S l → SkG pn pd w b S l) ∧ Calls Tryz.prog 10 #[.agg #[.int .i64 kd, .int .u64 pn, .int .u64 pd, .int .i64 sd, .int .i64 mo, .int .i64 dg, .int .u64 li, .int .i64 de, .int .i64 fa, .int .i64 wi, .int .u64 wo], .slice Al len cl, .slice Ap m cp] W fun e w' => TreeR Sk W e w') := fun W hk hT h hp hP => by
    obtain ⟨Sk, K, hsk⟩ := kind_g4 (Cfg.mk kd pn pd sd mo dg li de fa wi wo) HOK.out hk
    exact ⟨Sk, hsk, tree_any K Al len cl ls Ap m cp ps W hT HLN.out h hp HPB.out.1 hm' hP HPB.out.2⟩
  have HNR : Hid ((0 ≤ pn ∧ pn < 18446744073709551616) ∧ (0 ≤ pd ∧ pd < 18446744073709551616)) := ⟨HOK.out.pn, HOK.out.pd⟩
  have hba : Below w.heap.size w ((w.alloc (.cells #[.int .i64 kd, .int .u64 pn, .int .u64 pd, .int .i64 sd, .int .i64 mo, .int .i64 dg, .int .u64 li, .int .i64 de, .int .i64 fa, .int .i64 wi, .int .u64 wo] 28)).alloc (.cells #[.int .u64 p0, .int .u64 p1] 25)) := ((Below.refl _ _).alloc (Nat.le_refl _) _).alloc (by first | omega | (simp; done) | (simp; omega) | (simp [World.setCell]; omega)) _
  have ac := (At.new w #[.int .i64 kd, .int .u64 pn, .int .u64 pd, .int .i64 sd, .int .i64 mo, .int .i64 dg, .int .u64 li, .int .i64 de, .int .i64 fa, .int .i64 wi, .int .u64 wo] 28).alloc (.cells #[.int .u64 p0, .int .u64 p1] 25)
  have ap := At.new' (w.alloc (.cells #[.int .i64 kd, .int .u64 pn, .int .u64 pd, .int .i64 sd, .int .i64 mo, .int .i64 dg, .int .u64 li, .int .i64 de, .int .i64 fa, .int .i64 wi, .int .u64 wo] 28)) #[.int .u64 p0, .int .u64 p1] 25 (b := w.heap.size + 1) (by simp)
  show Calls _ _ #[.agg #[.int .i64 kd, .int .u64 pn, .int .u64 pd, .int .i64 sd, .int .i64 mo, .int .i64 dg, .int .u64 li, .int .i64 de, .int .i64 fa, .int .i64 wi, .int .u64 wo], .slice Al len cl, .slice Ap m cp, .agg #[.int .u64 p0, .int .u64 p1]] _ _
  clear hok hTens hR hP hm hpb hl bdp0 bdp1
  go_enter Tryz.func5, Tryz.ntmps5
  go_wp2_with fail
  obtain ⟨W1, hW1⟩ : ∃ W, ((w.alloc (.cells #[.int .i64 kd, .int .u64 pn, .int .u64 pd, .int .i64 sd, .int .i64 mo, .int .i64 dg, .int .u64 li, .int .i64 de, .int .i64 fa, .int .i64 wi, .int .u64 wo] 28)).alloc (.cells #[.int .u64 p0, .int .u64 p1] 25)) = W := ⟨_, rfl⟩
  obtain ⟨pb, hpb⟩ : ∃ r, w.heap.size + 1 = r := ⟨_, rfl⟩
  obtain ⟨cb, hcb⟩ : ∃ r, w.heap.size = r := ⟨_, rfl⟩
  rw [hW1] at hba ac ap
  rw [hpb] at ap
  rw [hcb] at ac
  simp only [hW1, hpb]
  simp only [hcb]
  have HB1 := Lib.hid hba
  have HC1 := Lib.hid ac
  have HP1 := Lib.hid ap
  have HL1 := Lib.hid (And.intro ac.lt ap.lt)
  clear hW1 hpb hcb hba ac ap
  refine (talive_any W1 (HTN.out.below HB1.out)).mono ?_
  rintro e w2 ⟨rfl, hb⟩
  have HB2 := Lib.hid hb
  have f2 := (HC1.out.below hb).el
  have l2 := (HC1.out.below hb).lt
  have g2 := (HP1.out.below hb).two
  have m2 := (HP1.out.below hb).lt
  clear hb
  go_wp2_with fail
  refine (HGR.out w2 (HR.out.below (keep1 HB1.out HB2.out))).mono ?_
  rintro e w3 ⟨bv, rfl, hpl, hb⟩
  have HB3 := Lib.hid (keep1 HB2.out hb)
  have HPL := Lib.hid hpl
  have f3 := (HC1.out.below HB3.out).el
  have l3 := (HC1.out.below HB3.out).lt
  have g3 := (HP1.out.below HB3.out).two
  have m3 := (HP1.out.below HB3.out).lt
  have HFB := Lib.hid (keep1 HB1.out HB3.out)
  clear hb hpl f2 l2 g2 m2 HGR HB2
  cases bv with
  | true =>
    go_wp2
    go_ret
    exact ⟨rfl, HFB.out⟩
  | false =>
  go_wp2_with fail
  refine (rgood_any p0 p1 w3 HPQ.out.1.1 HPQ.out.1.2 HPQ.out.2.1 HPQ.out.2.2).mono ?_
  rintro e w4 ⟨rfl, hb⟩
  have HB4 := Lib.hid (keep1 HB3.out hb)
  have HF4 := Lib.hid (keep1 HB1.out HB4.out)
  have f4 := (HC1.out.below HB4.out).el
  have l4 := (HC1.out.below HB4.out).lt
  clear hb f3 l3 g3 m3 HFB HB3
  obtain ⟨gp, hgp⟩ : ∃ g, goodF p0 p1 = g := ⟨_, rfl⟩
  have HGP := Lib.hid hgp
  rw [hgp]
  clear hgp
  cases gp with
  | false =>
    go_wp2
    go_ret
    exact ⟨rfl, HF4.out⟩
  | true =>
  by_cases hk : kd = 4
  rotate_left
  · have hk1 : (kd != 4) = true := bne_iff_ne.2 hk
    clear hk
    go_wp2
    go_ret
    exact ⟨rfl, HF4.out⟩
  subst hk
  obtain ⟨Sk, hsk, hct⟩ := HTR.out w4 rfl (HTN.out.below HF4.out) (HR.out.below HF4.out) (HPL.out trivial) (HPS.out.below HF4.out)
  have HTRE := Lib.hid hct
  have HSK := Lib.hid hsk
  clear HTR HR HPL HPS HTN HOK HF4 hsk hct
  go_wp2_with fail
  refine HTRE.out.mono ?_
  rintro e w5 (⟨hb, v0, v1, rfl⟩ | ⟨b, S, Aa, ca, n, l, rfl, hJ⟩)
  · have HF := Lib.hid (keep1 HB1.out (keep1 HB4.out hb))
    clear hb f4 l4 HTRE
    go_wp2
    go_ret
    exact ⟨rfl, HF.out⟩
  have HJ := Lib.hid hJ
  have HB5 := Lib.hid (keep1 HB4.out hJ.bl)
  clear hJ f4 l4 HTRE
  by_cases hn0 : n = 0
  · subst hn0
    have HF := Lib.hid (keep1 HB1.out HB5.out)
    go_wp2
    go_ret
    exact ⟨rfl, HF.out⟩
  have hn1 : ((n : Int) == 0) = false := beq_eq_false_iff_ne.2 (by omega)
  have hn2 : (n == 0) = false := beq_eq_false_iff_ne.2 hn0
  have HV : Hid (VOk l) := HJ.out.lok.vok
  have hln : l ≠ [] := fun e => hn0 (by rw [← HJ.out.len, e]; rfl)
  have HN3 : Hid (l.length = n ∧ n ≤ 360) := ⟨HJ.out.len, by have := HJ.out.lok.len; have := HJ.out.len; omega⟩
  have HUP : Hid (∀ W, Below w5.heap.size w5 W → Calls Tryz.prog 11 #[.slice Aa n ca, .int .i64 9223372036854775807] W fun e w' => e = .returned (.int .u64 (sumP l)) ∧ Below W.heap.size W w') := fun W hW => by
    have := up_any Aa n ca l 9223372036854775807 W HN3.out.1 (by have := HN3.out.2; omega) (HJ.out.own.rd.below hW) HV.out.pos HV.out.sum
    rw [upV_all HV.out.ok] at this
    exact this
  have HPC := Lib.hid fun W => rplace_any p0 p1 (sumP l) W HPQ.out.1.1 HPQ.out.1.2 HPQ.out.2.1 HPQ.out.2.2 HV.out.sum0 (by have := HV.out.sum; omega)
  have HSUM : Hid (0 < sumP l ∧ sumP l ≤ 7200) := by
    have h1 := HJ.out.lok.sum
    have h2 : 0 < sumP l := by
      cases l with
      | nil => exact absurd rfl hln
      | cons x l =>
        have h3 := HJ.out.lok.pos x (by simp)
        have h4 := vsum_filter (l := l) (fun y hy => (HJ.out.lok.pos y (by simp [hy])).1) (fun _ => true)
        rw [sumP_cons]
        omega
    exact ⟨h2, h1.2⟩
  have hE : placeE p0 p1 (sumP l) = 0 := by unfold placeE; rw [if_pos HGP.out, if_neg (by have := HSUM.out; omega)]
  have hPT := placeT_is (n := sumP l) HPQ.out.1.1 (by have := HSUM.out; omega) (by have := HSUM.out; omega) HGP.out
  have HTB : Hid (1 ≤ placeT p0 p1 (sumP l) ∧ placeT p0 p1 (sumP l) ≤ sumP l) := ⟨hPT.one, hPT.le⟩
  have HQU := Lib.hid fun W (hW : Below w5.heap.size w5 W) => squ_gr pn pd b S l p0 p1 W ((HSK.out _ _ _ _ HJ.out.sk).frame (T := []) (Frame.of_below hW) (fun _ _ => by simp)) (by have := HSUM.out; omega) ⟨HPQ.out.1, HPQ.out.2⟩
  rw [hE] at HPC HQU
  have HGW : Hid (gwOk pn pd = true) := by
    obtain ⟨q, Q, _, _, _, _, _, _, _, _, _, _, _, _, _, h⟩ := HSK.out _ _ _ _ HJ.out.sk
    exact h
  obtain ⟨T, hT⟩ : ∃ z, sumP l = z := ⟨_, rfl⟩
  have HTE := Lib.hid hT
  rw [hT] at HUP HPC HQU HTB HSUM
  obtain ⟨tp, htp⟩ : ∃ z, placeT p0 p1 T = z := ⟨_, rfl⟩
  rw [htp] at HPC HQU HTB
  clear hn0 hln hE hPT hT htp HV
  go_wp2_with fail
  refine (HUP.out w5 (Below.refl _ _)).mono ?_
  rintro e w6 ⟨rfl, hb⟩
  have HB6 := Lib.hid hb
  have g6 := (HP1.out.below (keep1 HB5.out hb)).two
  have m6 := (HP1.out.below (keep1 HB5.out hb)).lt
  clear hb HUP
  go_wp2_with fail
  refine (HPC.out w6).mono ?_
  rintro e w7 ⟨rfl, hb⟩
  have HB7 := Lib.hid (keep1 HB6.out hb)
  clear hb HPC g6 m6 HB6
  have g7 := (HP1.out.below (keep1 HB5.out HB7.out)).two
  have m7 := (HP1.out.below (keep1 HB5.out HB7.out)).lt
  go_wp2_with fail
  refine (HQU.out w7 HB7.out).mono ?_
  rintro e w8 ⟨x, f, rfl, rfl, hA, hF⟩
  have HA := Lib.hid (hA rfl)
  have hb47 : Below w4.heap.size w4 w8 := hF.below' (keep1 HJ.out.bl HB7.out) (keep1 HJ.out.bl HB7.out).size (HJ.out.ws.mono HB7.out.size)
  have HB8 := Lib.hid (keep1 HB4.out hb47)
  have HRV := Lib.hid ((HJ.out.own.below HB7.out).frame hF fun k hk hm => HJ.out.ap k hm hk).rd
  have HGAP := Lib.hid (tgap_any Aa n ca l x tp w8 HN3.out.1 (by have := HN3.out.2; omega) HRV.out (fun y hy => (HJ.out.lok.pos y hy).1) (by have := HTE.out; have := HSUM.out; omega) (by have := HTB.out; have := HSUM.out; omega))
  obtain ⟨gv, hgv⟩ : ∃ g, gapL l x tp = g := ⟨_, rfl⟩
  have HGV : Hid (0 ≤ gv ∧ gv ≤ 1000000 ∧ gv * pd ≤ pn * T) := by
    have h1 := HA.out.2.2
    rw [show (if tp < upV l (x - 1) + 1 then upV l (x - 1) + 1 - tp else if upV l x < tp then tp - upV l x else 0) = gv from hgv, HTE.out] at h1
    refine ⟨h1.1, ?_, h1.2⟩
    rw [← hgv]
    have h2 := vsum_filter (l := l) (fun y hy => (HJ.out.lok.pos y hy).1) (fun v => decide (v.1 ≤ x - 1))
    have h3 := vsum_filter (l := l) (fun y hy => (HJ.out.lok.pos y hy).1) (fun v => decide (v.1 ≤ x))
    have h4 := HTE.out
    have h5 := HSUM.out
    have h6 := HTB.out
    unfold gapL upV
    split
    · omega
    · split <;> omega
  have hdc : decide (upV l (x - 1) + 1 ≤ upV l x) = true := decide_eq_true (by have := HA.out.2.1; omega)
  rw [hgv, hdc] at HGAP
  clear hF hb47 hA hgv hdc HQU g7 m7 HRV HA HJ HSK HN3
  go_wp2_with fail
  refine HGAP.out.mono ?_
  rintro e w9 ⟨rfl, hb⟩
  have HB9 := Lib.hid (keep1 HB8.out hb)
  have ac := HC1.out.below HB9.out
  have HFIN := Lib.hid (keep1 HB1.out HB9.out)
  have HT1 := Lib.hid fun W => rtimes_two pn T W (by have := HNR.out; omega) (by have := HNR.out; omega) (by have := HSUM.out; omega) (by have := HSUM.out; omega)
  have HT2 := Lib.hid fun W => rtimes_two gv pd W (by have := HGV.out; omega) (by have := HGV.out; omega) (by have := HNR.out; omega) (by have := HNR.out; omega)
  have HLS : Hid (∀ W, Calls Tryz.prog 20 #[.agg #[.int .u64 (pn * T / 18446744073709551616), .int .u64 (pn * T % 18446744073709551616)], .agg #[.int .u64 (gv * pd / 18446744073709551616), .int .u64 (gv * pd % 18446744073709551616)]] W fun e w' => e = .returned (.bool false) ∧ Below W.heap.size W w') := fun W => by
    have h1 := HGV.out
    have h2 := HNR.out
    have h3 := HSUM.out
    have b1 : 0 ≤ pn * T := Int.mul_nonneg (by omega) (by omega)
    have b2 : pn * T ≤ 18446744073709551615 * 7200 := Int.mul_le_mul (by omega) (by omega) (by omega) (by omega)
    have b3 : 0 ≤ gv * pd := Int.mul_nonneg (by omega) (by omega)
    obtain ⟨X, hX⟩ : ∃ X, pn * T = X := ⟨_, rfl⟩
    obtain ⟨Y, hY⟩ : ∃ Y, gv * pd = Y := ⟨_, rfl⟩
    have h4 := HGV.out.2.2
    rw [hX, hY] at h4
    rw [hX] at b1 b2
    rw [hY] at b3
    rw [hX, hY]
    clear h1 hX hY
    refine (rless_any (X / 18446744073709551616) (X % 18446744073709551616) (Y / 18446744073709551616) (Y % 18446744073709551616) W (by omega) (by omega) (by omega) (by omega) (by omega) (by omega) (by omega) (by omega)).mono ?_
    rintro e w' ⟨rfl, hB⟩
    refine ⟨?_, hB⟩
    rw [show decide (X / 18446744073709551616 * 18446744073709551616 + X % 18446744073709551616 < Y / 18446744073709551616 * 18446744073709551616 + Y % 18446744073709551616) = false from decide_eq_false (by omega)]
  obtain ⟨x1, hx1⟩ : ∃ z, pn * T / 18446744073709551616 = z := ⟨_, rfl⟩
  obtain ⟨x2, hx2⟩ : ∃ z, pn * T % 18446744073709551616 = z := ⟨_, rfl⟩
  obtain ⟨x3, hx3⟩ : ∃ z, gv * pd / 18446744073709551616 = z := ⟨_, rfl⟩
  obtain ⟨x4, hx4⟩ : ∃ z, gv * pd % 18446744073709551616 = z := ⟨_, rfl⟩
  rw [hx1, hx2] at HT1 HLS
  rw [hx3, hx4] at HT2 HLS
  clear hb hx1 hx2 hx3 hx4 HGAP HB8
  go_wp2
  have hfar1 := fun x : Far w9 => (x.at ac).el
  refine wp_region_far (by kernel_rfl) (by kernel_rfl) ?_
  repeat (first | go_big_quiet_skip | (go_big_quiet_want; go_big_quiet_op; first | go_big_quiet_on | (apply Exists.intro; refine ⟨fun _ => ?_, ?_⟩; (focus (first | (with_reducible refine far_of (HT1.out _)) | (with_reducible refine far_of (HT2.out _)) | (with_reducible refine far_of (HLS.out _)))); go_big_quiet_on)))
  refine wpQuiet_nil ?_
  rintro _ ⟨xq, rfl⟩
  clear hfar1
  have HF := Lib.hid (keep1 HFIN.out xq.below)
  clear ac
  go_wp2
  go_ret
  exact ⟨rfl, HF.out⟩
end Go.Proofs.YtlbnlmhcpephbaaGreatDoor
