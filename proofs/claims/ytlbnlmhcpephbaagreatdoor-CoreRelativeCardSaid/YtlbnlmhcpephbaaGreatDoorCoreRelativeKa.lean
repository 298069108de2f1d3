/- The walk of the statement CoreRelative. -/
import Derived.Test.YtlbnlmhcpephbaaGreatDoorProg
import Derived.Test.YtlbnlmhcpephbaaGreatDoorKa1
import Derived.Test.YtlbnlmhcpephbaaGreatDoorKa14
namespace Go.Proofs.YtlbnlmhcpephbaaGreatDoor
open Go.RowKit
set_option maxRecDepth 100000 in
set_option maxHeartbeats 4000000 in
theorem coreRelative_walk (w : World) (hTens : TensAt w) (c : Cfg) (hok : c.Ok) (Al : Option Addr) (len cl : Nat) (ls : List Lf) (hl : ls.length = len) (hl' : len ≤ 9223372036854775807) (hR : RdL w Al ls) (Ap : Option Addr) (m cp : Nat) (ps : List Int) (hm : ps.length = m) (hm' : m ≤ 9223372036854775807) (hP : RdI w Ap ps) (hpb : ∀ p ∈ ps, -9223372036854775808 ≤ p ∧ p ≤ 9223372036854775807) (p0 p1 : Int) (bdp0 : 0 ≤ p0 ∧ p0 < 18446744073709551616) (bdp1 : 0 ≤ p1 ∧ p1 < 18446744073709551616) :
  Calls Tryz.prog 3 #[c.val, .slice Al len cl, .slice Ap m cp, .agg #[.int .u64 p0, .int .u64 p1]] w fun e w' => e = .returned (.bool true) ∧ Below w.heap.size w w' := by
 have HPQ := Lib.hid (And.intro bdp0 bdp1)
 have HOK := Lib.hid hok
 have HTN := Lib.hid hTens
 have HR := Lib.hid hR
 have HPS := Lib.hid hP
 have HPB := Lib.hid (And.intro hm hpb)
 have HLN := Lib.hid hl
 have HRP : Hid (∀ (w : World) (b : Nat) (S : List Nat) (l : List (Int × Int)), SkV w b S c l → VOk l → l ≠ [] → goodF p0 p1 = true → placeE p0 p1 (sumP l) = 0 ∧ ∃ x0, exactV l (placeT p0 p1 (sumP l)) = some x0 ∧ (-9223372036854775808 ≤ x0 ∧ x0 ≤ 9223372036854775807) ∧ ∀ x f, QuantR c l p0 p1 x f → RelR c x0 x f) := fun w b S l h hv hn hg => rel_says h hv hn HPQ.out.1.1 hg
 obtain ⟨kd, pn, pd, sd, mo, dg, li, de, fa, wi, wo⟩ := c
 have HGR : Hid (∀ W, RdL W Al ls → Calls Tryz.prog 8 #[.agg #[.int .i64 kd, .int .u64 pn, .int .u64 pd, .int .i64 sd, .int .i64 mo, .int .i64 dg, .int .u64 li, .int .i64 de, .int .i64 fa, .int .i64 wi, .int .u64 wo], .slice Al len cl] W fun e w' => GreatR (Cfg.mk kd pn pd sd mo dg li de fa wi wo) ls W e w') := fun W h => great_any (Cfg.mk kd pn pd sd mo dg li de fa wi wo) Al len cl ls W HLN.out hl' h
 have HTR : Hid (∀ W, (kd = 1 ∨ kd = 2) → TensAt W → RdL W Al ls → PlayC (Cfg.mk kd pn pd sd mo dg li de fa wi wo) ls → RdI W Ap ps → Calls Tryz.prog 10 #[.agg #[.int .i64 kd, .int .u64 pn, .int .u64 pd, .int .i64 sd, .int .i64 mo, .int .i64 dg, .int .u64 li, .int .i64 de, .int .i64 fa, .int .i64 wi, .int .u64 wo], .slice Al len cl, .slice Ap m cp] W fun e w' => TreeR (fun w b S l => SkV w b S (Cfg.mk kd pn pd sd mo dg li de fa wi wo) l) W e w') := fun W hk hT h hp hP => tree_any (kind_lh _ HOK.out hk) Al len cl ls Ap m cp ps W hT HLN.out h hp HPB.out.1 hm' hP HPB.out.2
 have HNR : Hid ((0 ≤ pn ∧ pn < 18446744073709551616) ∧ (0 ≤ pd ∧ pd < 18446744073709551616)) := ⟨HOK.out.pn, HOK.out.pd⟩
 have hba : Below w.heap.size w ((w.alloc (.cells #[.int .i64 kd, .int .u64 pn, .int .u64 pd, .int .i64 sd, .int .i64 mo, .int .i64 dg, .int .u64 li, .int .i64 de, .int .i64 fa, .int .i64 wi, .int .u64 wo] 28)).alloc (.cells #[.int .u64 p0, .int .u64 p1] 25)) := ((Below.refl _ _).alloc (Nat.le_refl _) _).alloc (by first | omega | (simp; done) | (simp; omega) | (simp [World.setCell]; omega)) _
 have ac := (At.new w #[.int .i64 kd, .int .u64 pn, .int .u64 pd, .int .i64 sd, .int .i64 mo, .int .i64 dg, .int .u64 li, .int .i64 de, .int .i64 fa, .int .i64 wi, .int .u64 wo] 28).alloc (.cells #[.int .u64 p0, .int .u64 p1] 25)
 have ap := At.new' (w.alloc (.cells #[.int .i64 kd, .int .u64 pn, .int .u64 pd, .int .i64 sd, .int .i64 mo, .int .i64 dg, .int .u64 li, .int .i64 de, .int .i64 fa, .int .i64 wi, .int .u64 wo] 28)) #[.int .u64 p0, .int .u64 p1] 25 (b := w.heap.size + 1) (by simp)
 show Calls _ _ #[.agg #[.int .i64 kd, .int .u64 pn, .int .u64 pd, .int .i64 sd, .int .i64 mo, .int .i64 dg, .int .u64 li, .int .i64 de, .int .i64 fa, .int .i64 wi, .int .u64 wo], .slice Al len cl, .slice Ap m cp, .agg #[.int .u64 p0, .int .u64 p1]] _ _
 clear hok hTens hR hP hm hpb hl bdp0 bdp1
 go_enter Tryz.func3, Tryz.ntmps3
 go_wp2_with fail
 obtain ⟨W1, hW1⟩ : ∃ W, ((w.alloc (.cells #[.int .i64 kd, .int .u64 pn, .int .u64 pd, .int .i64 sd, .int .i64 mo, .int .i64 dg, .int .u64 li, .int .i64 de, .int .i64 fa, .int .i64 wi, .int .u64 wo] 28)).alloc (.cells #[.int .u64 p0, .int .u64 p1] 25)) = W := ⟨_, rfl⟩
 obtain ⟨pb, hpb⟩ : ∃ r, w.heap.size + 1 = r := ⟨_, rfl⟩
 obtain ⟨cb, hcb⟩ : ∃ r, w.heap.size = r := ⟨_, rfl⟩
 rw [hW1] at hba ac ap
 rw [hpb] at ap
 rw [hcb] at ac
 simp only [hW1, hpb]
 simp only [hcb]
 have HB1 := Lib.hid hba
 have HC1 := Lib.hid ac
 have HP1 := Lib.hid ap
 have HL1 := Lib.hid (And.intro ac.lt ap.lt)
 clear hW1 hpb hcb hba ac ap
 refine (talive_any W1 (HTN.out.below HB1.out)).mono ?_
 rintro e w2 ⟨rfl, hb⟩
 have HB2 := Lib.hid hb
 have f2 := (HC1.out.below hb).el
 have l2 := (HC1.out.below hb).lt
 have g2 := (HP1.out.below hb).two
 have m2 := (HP1.out.below hb).lt
 clear hb
 go_wp2_with fail
 refine (HGR.out w2 (HR.out.below (keep1 HB1.out HB2.out))).mono ?_
 rintro e w3 ⟨bv, rfl, hpl, hb⟩
 have HB3 := Lib.hid (keep1 HB2.out hb)
 have HPL := Lib.hid hpl
 have f3 := (HC1.out.below HB3.out).el
 have l3 := (HC1.out.below HB3.out).lt
 have g3 := (HP1.out.below HB3.out).two
 have m3 := (HP1.out.below HB3.out).lt
 have HFB := Lib.hid (keep1 HB1.out HB3.out)
 clear hb hpl f2 l2 g2 m2 HGR HB2
 cases bv with
 | true =>
  go_wp2
  go_ret
  exact ⟨rfl, HFB.out⟩
 | false =>
 go_wp2_with fail
 refine (rgood_any p0 p1 w3 HPQ.out.1.1 HPQ.out.1.2 HPQ.out.2.1 HPQ.out.2.2).mono ?_
 rintro e w4 ⟨rfl, hb⟩
 have HB4 := Lib.hid (keep1 HB3.out hb)
 have HF4 := Lib.hid (keep1 HB1.out HB4.out)
 have f4 := (HC1.out.below HB4.out).el
 have l4 := (HC1.out.below HB4.out).lt
 clear hb f3 l3 g3 m3 HFB HB3
 obtain ⟨gp, hgp⟩ : ∃ g, goodF p0 p1 = g := ⟨_, rfl⟩
 rw [hgp] at HRP ⊢
 clear hgp
 cases gp with
 | false =>
  go_wp2
  go_ret
  exact ⟨rfl, HF4.out⟩
 | true =>
 by_cases hk : ¬ (kd = 1 ∨ kd = 2)
 ·have hk1 : (kd != 1) = true := bne_iff_ne.2 fun e => hk (.inl e)
  have hk2 : (kd != 2) = true := bne_iff_ne.2 fun e => hk (.inr e)
  clear hk
  go_wp2
  go_ret
  exact ⟨rfl, HF4.out⟩
 have hk' : kd = 1 ∨ kd = 2 := Classical.not_not.1 hk
 have HTRE := Lib.hid (HTR.out w4 hk' (HTN.out.below HF4.out) (HR.out.below HF4.out) (HPL.out trivial) (HPS.out.below HF4.out))
 clear hk HTR HR HPL HPS HTN HOK HF4
 rcases hk' with rfl | rfl
 all_goals
  go_wp2_with fail
  refine HTRE.out.mono ?_
  rintro e w5 (⟨hb, v0, v1, rfl⟩ | ⟨b, S, Aa, ca, n, l, rfl, hJ⟩)
  ·have HF := Lib.hid (keep1 HB1.out (keep1 HB4.out hb))
   clear hb f4 l4 HTRE HRP
   go_wp2
   go_ret
   exact ⟨rfl, HF.out⟩
  have HJ := Lib.hid hJ
  have HB5 := Lib.hid (keep1 HB4.out hJ.bl)
  clear hJ f4 l4 HTRE HB4
  by_cases hn0 : n = 0
  ·subst hn0
   have HF := Lib.hid (keep1 HB1.out HB5.out)
   clear HRP
   go_wp2
   go_ret
   exact ⟨rfl, HF.out⟩
  have hn1 : ((n : Int) == 0) = false := beq_eq_false_iff_ne.2 (by omega)
  have hn2 : (n == 0) = false := beq_eq_false_iff_ne.2 hn0
  have HV : Hid (VOk l) := HJ.out.lok.vok
  have hln : l ≠ [] := fun e => hn0 (by rw [← HJ.out.len, e]; rfl)
  have HREL := Lib.hid (HRP.out w5 b S l HJ.out.sk HV.out hln trivial)
  have HN3 : Hid (l.length = n ∧ n ≤ 360) := ⟨HJ.out.len, by have := HJ.out.lok.len; have := HJ.out.len; omega⟩
  have HUP : Hid (∀ W, Below w5.heap.size w5 W → Calls Tryz.prog 11 #[.slice Aa n ca, .int .i64 9223372036854775807] W fun e w' => e = .returned (.int .u64 (sumP l)) ∧ Below W.heap.size W w') := fun W hW => by
   have := up_any Aa n ca l 9223372036854775807 W HN3.out.1 (by have := HN3.out.2; omega) (HJ.out.own.rd.below hW) HV.out.pos HV.out.sum
   rw [upV_all HV.out.ok] at this
   exact this
  have HPC := Lib.hid fun W => rplace_any p0 p1 (sumP l) W HPQ.out.1.1 HPQ.out.1.2 HPQ.out.2.1 HPQ.out.2.2 HV.out.sum0 (by have := HV.out.sum; omega)
  have HEX := Lib.hid fun W (hW : Below w5.heap.size w5 W) => exact_any Aa n ca l (placeT p0 p1 (sumP l)) W HN3.out.1 (by have := HN3.out.2; omega) (HJ.out.own.rd.below hW) HV.out.pos HV.out.sum
  obtain ⟨hE, x0, hx0, hxr, hrel⟩ := HREL.out
  rw [hE] at HPC
  rw [hx0] at HEX
  dsimp only [Option.getD_some, Option.isSome_some] at HEX
  have HXR := Lib.hid hxr
  have HRR := Lib.hid hrel
  have HQU := Lib.hid fun W (hW : Below w5.heap.size w5 W) => squant_any b S _ l p0 p1 W (SkV.below HJ.out.sk hW) HV.out ⟨HPQ.out.1, HPQ.out.2⟩
  obtain ⟨T, hT⟩ : ∃ z, sumP l = z := ⟨_, rfl⟩
  rw [hT] at HUP HPC HEX
  obtain ⟨tp, htp⟩ : ∃ z, placeT p0 p1 T = z := ⟨_, rfl⟩
  rw [htp] at HPC HEX
  clear hn0 hln hE hx0 hxr hrel hT htp HREL HRP HN3 HV
  go_wp2_with fail
  refine (HUP.out w5 (Below.refl _ _)).mono ?_
  rintro e w6 ⟨rfl, hb⟩
  have HB6 := Lib.hid hb
  have g6 := (HP1.out.below (keep1 HB5.out hb)).two
  have m6 := (HP1.out.below (keep1 HB5.out hb)).lt
  clear hb HUP
  go_wp2_with fail
  refine (HPC.out w6).mono ?_
  rintro e w7 ⟨rfl, hb⟩
  have HB7 := Lib.hid (keep1 HB6.out hb)
  clear hb HPC g6 m6 HB6
  go_wp2_with fail
  refine (HEX.out w7 HB7.out).mono ?_
  rintro e w8 ⟨rfl, hb⟩
  have HB8 := Lib.hid (keep1 HB7.out hb)
  have g8 := (HP1.out.below (keep1 HB5.out HB8.out)).two
  have m8 := (HP1.out.below (keep1 HB5.out HB8.out)).lt
  clear hb HEX HB7
  go_wp2_with fail
  refine (HQU.out w8 HB8.out).mono ?_
  rintro e w9 ⟨x, f, rfl, hQ, hb⟩
  have HRL := Lib.hid (HRR.out x f hQ)
  have HB9 := Lib.hid (keep1 HB8.out hb)
  have f9 := (HC1.out.below (keep1 HB5.out HB9.out)).el
  have l9 := (HC1.out.below (keep1 HB5.out HB9.out)).lt
  have HF9 := Lib.hid (keep1 HB1.out (keep1 HB5.out HB9.out))
  clear hb hQ HQU HRR HB8 g8 m8 HJ
 · -- a Log
  rcases HRL.out with ⟨_, ⟨rfl, hxr, hcl⟩ | rfl⟩ | ⟨hk2, _⟩
  ·have HWI := Lib.hid fun W => rwithin_any x x0 pn pd W hxr.1 hxr.2 HXR.out.1 HXR.out.2 HNR.out.1.1 HNR.out.1.2 HNR.out.2.1 HNR.out.2.2 hcl
   clear hxr hcl HRL
   go_wp2_with fail
   refine (HWI.out _).mono ?_
   rintro e w10 ⟨rfl, hb⟩
   have HF := Lib.hid (keep1 (HF9.out.alloc (by have := HF9.out.size; omega) (.cells #[.int .u64 pn, .int .u64 pd] 25)) hb)
   clear hb HWI f9 l9
   go_wp2
   go_ret
   exact ⟨rfl, HF.out⟩
  ·have HF := Lib.hid (HF9.out.alloc (by have := HF9.out.size; omega) (.cells #[.int .u64 pn, .int .u64 pd] 25))
   clear HRL
   go_wp2
   go_ret
   exact ⟨rfl, HF.out⟩
  ·exact absurd hk2 (by simp)
 · -- a Hdr
  rcases HRL.out with ⟨hk1, _⟩ | ⟨_, rfl, hxr, hdg, hcl⟩
  ·exact absurd hk1 (by simp)
  have HWI : Hid (∀ W, Calls Tryz.prog 15 #[.int .i64 x, .int .i64 x0, .agg #[.int .u64 1, .int .u64 (Hh.tenD dg : Nat)]] W fun e w' => e = .returned (.bool true) ∧ Below W.heap.size W w') := fun W => rwithin_any x x0 1 (Hh.tenD dg : Nat) W hxr.1 hxr.2 HXR.out.1 HXR.out.2 (by omega) (by omega) (by omega) (by unfold Hh.tenD; (repeat' split) <;> omega) (by rw [Int.mul_one, ← Int.natCast_mul]; have h1 : gapZ x x0 * Hh.tenD dg ≤ x0.natAbs := hcl; omega)
  have HDG : Hid (1 ≤ dg ∧ dg ≤ 4) := hdg
  clear hxr hcl hdg HRL
  have av := At.new w9 #[.int .u64 pn, .int .u64 pd] 25
  have ac := (HC1.out.below (keep1 HB5.out HB9.out)).below ((Below.refl _ _).alloc (Nat.le_refl _) (.cells #[.int .u64 pn, .int .u64 pd] 25))
  have hbv : Below w9.heap.size w9 (w9.alloc (.cells #[.int .u64 pn, .int .u64 pd] 25)) := (Below.refl _ _).alloc (Nat.le_refl _) _
  have lv := av.lt
  have lc := ac.lt
  have fc := ac.el
  have fv := av.two
  go_wp2_with fail
  obtain ⟨vb, hvb⟩ : ∃ r, w9.heap.size = r := ⟨_, rfl⟩
  have HVB : Hid (w9.heap.size = vb) := hvb
  have hbw : Below w9.heap.size w9 (w9.alloc (.cells #[.int .u64 1, .int .u64 1] 25)) := (Below.refl _ _).alloc (Nat.le_refl _) _
  have HC2 : Hid (At (w9.alloc (.cells #[.int .u64 1, .int .u64 1] 25)) cb #[.int .i64 2, .int .u64 pn, .int .u64 pd, .int .i64 sd, .int .i64 mo, .int .i64 dg, .int .u64 li, .int .i64 de, .int .i64 fa, .int .i64 wi, .int .u64 wo] 28) := (HC1.out.below (keep1 HB5.out HB9.out)).below hbw
  have HV2 : Hid (At (w9.alloc (.cells #[.int .u64 1, .int .u64 1] 25)) vb #[.int .u64 1, .int .u64 ((10 ^ 0 : Nat) : Int)] 25) := At.new' _ _ _ hvb.symm
  have HB2 : Hid (Below vb w9 (w9.alloc (.cells #[.int .u64 1, .int .u64 1] 25))) := by rw [hvb] at hbw; exact hbw
  simp only [hvb]
  generalize w9.alloc (.cells #[.int .u64 1, .int .u64 1] 25) = W10 at HC2 HV2 HB2 ⊢
  clear hbw
  clear hvb av ac hbv lv lc fc fv f9 l9
  go_loopw [20] (fun i wr => ∃ k : Nat, k ≤ 4 ∧ (k : Int) ≤ dg ∧ i = .int .i64 k ∧ Hid (At wr vb #[.int .u64 1, .int .u64 ((10 ^ k : Nat) : Int)] 25) ∧ Hid (At wr cb #[.int .i64 2, .int .u64 pn, .int .u64 pd, .int .i64 sd, .int .i64 mo, .int .i64 dg, .int .u64 li, .int .i64 de, .int .i64 fa, .int .i64 wi, .int .u64 wo] 28) ∧ Hid (Below vb w9 wr)) (fun i _ => 4 - (intOf i).toNat)
  case atStart => exact ⟨0, by omega, by have := HDG.out; omega, rfl, HV2, HC2, HB2⟩
  case round =>
   obtain ⟨k, hk4, hkd, rfl, HVK, HCK, HBK⟩ := hrel
   clear HV2 HC2 HB2
   have fv := HVK.out.two
   have lv := HVK.out.lt
   have fc := HCK.out.el
   have lc := HCK.out.lt
   by_cases hlt : (k : Int) < dg
   ·have hne : cb ≠ vb := by have := (HC1.out.below (keep1 HB5.out HB9.out)).lt; have := HVB.out; omega
    have HCK1 : Hid (∀ v, At (wr.setCell ⟨vb, 1, none⟩ v) cb #[.int .i64 2, .int .u64 pn, .int .u64 pd, .int .i64 sd, .int .i64 mo, .int .i64 dg, .int .u64 li, .int .i64 de, .int .i64 fa, .int .i64 wi, .int .u64 wo] 28) := fun v => HCK.out.set_other (p := ⟨vb, 1, none⟩) hne v
    have HBK1 : Hid (∀ v, Below vb w9 (wr.setCell ⟨vb, 1, none⟩ v)) := fun v => HBK.out.setCell (p := ⟨vb, 1, none⟩) (Nat.le_refl _) v
    have HVK1 : Hid (∀ v, At (wr.setCell ⟨vb, 1, none⟩ v) vb #[.int .u64 1, v] 25) := fun v => HVK.out.set_any 1 v rfl
    have hw : IntKind.u64.wrap (10 * ((10 ^ k : Nat) : Int)) = ((10 ^ (k + 1) : Nat) : Int) := by
     rcases (by have := HDG.out; omega : k = 0 ∨ k = 1 ∨ k = 2 ∨ k = 3) with rfl | rfl | rfl | rfl <;> rfl
    obtain ⟨t, ht⟩ : ∃ t : Int, ((10 ^ k : Nat) : Int) = t := ⟨_, rfl⟩
    rw [ht] at fv hw
    clear ht hne
    go_wp2
    go_roundw
    case rel => exact ⟨k + 1, by have := HDG.out; omega, by omega, by simp, HVK1.out _, HCK1.out _, HBK1.out _⟩
    case measure => simp [intOf]; have := HDG.out; omega
   ·have HTE : Hid (((10 ^ k : Nat) : Int) = (Hh.tenD dg : Nat)) := by
     have hdk : dg = k := by omega
     show _ = _
     rw [hdk]
     rcases (by have := HDG.out; omega : k = 1 ∨ k = 2 ∨ k = 3 ∨ k = 4) with rfl | rfl | rfl | rfl <;> rfl
    rw [HTE.out] at fv
    obtain ⟨tn, htn⟩ : ∃ t : Int, ((Hh.tenD dg : Nat) : Int) = t := ⟨_, rfl⟩
    rw [htn] at HWI fv
    have HFK : Hid (Below w.heap.size w wr) := HF9.out.trans (by have := HBK.out; rw [← HVB.out] at this; exact this.mono HF9.out.size)
    clear htn HTE
    go_wp2_with fail
    refine (HWI.out wr).mono ?_
    rintro e w11 ⟨rfl, hb⟩
    have HF := Lib.hid (keep1 HFK.out hb)
    clear hb HWI hlt fv lv fc lc
    go_wp2
    go_ret
    exact ⟨rfl, HF.out⟩
end Go.Proofs.YtlbnlmhcpephbaaGreatDoor
