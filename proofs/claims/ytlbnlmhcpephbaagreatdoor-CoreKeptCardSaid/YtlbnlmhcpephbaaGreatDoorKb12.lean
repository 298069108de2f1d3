/- Texts of this claim, joined, indents halved: Suite7, Suite8, Suite9, SuiteA, SuiteB, SuiteC, SuiteD, TopArgs. -/
import Derived.Test.YtlbnlmhcpephbaaGreatDoorProg
import Derived.Lib.SmallJoins
import Derived.Test.YtlbnlmhcpephbaaGreatDoorKb11
namespace Go.Proofs.YtlbnlmhcpephbaaGreatDoor
open Go.RowKit
theorem rdU_list (W : World) (us : List Nat) (vs : Array Value) (g : Nat) (hg : g = W.heap.size) (hv : vs = (us.map fun u : Nat => Value.int .u64 (u : Int)).toArray) : RdU (W.alloc (.cells vs 23)) (some ⟨g, 0, none⟩) (us.map fun u : Nat => (u : Int)) := by
 subst hg hv
 intro j u hj
 have a := At.new W (us.map fun u : Nat => Value.int .u64 (u : Int)).toArray 23
 refine ⟨W.heap.size, 0, rfl, a.lt, ?_⟩
 rw [Nat.zero_add]
 refine a.cell ?_
 rw [List.map_map] at hj
 simpa using hj
theorem rdI_list (W : World) (xs : List Int) (vs : Array Value) (g : Nat) (hg : g = W.heap.size) (hv : vs = (xs.map (Value.int .i64)).toArray) : RdI (W.alloc (.cells vs 2)) (some ⟨g, 0, none⟩) xs := by
 subst hg hv
 intro j u hj
 have a := At.new W (xs.map (Value.int .i64)).toArray 2
 refine ⟨W.heap.size, 0, rfl, a.lt, ?_⟩
 rw [Nat.zero_add]
 refine a.cell ?_
 simpa using hj
theorem putOk_row {part : Nat → Int} {below : Bool} {l : List (Int × Int)} (hp : ∀ m : Nat, 0 < m → m ≤ 9223372036854775808 → 0 ≤ part m ∧ part m ≤ 1048576) (hv : VOk l) : PutOk (rowV part below l) := by
 have hs := hv.sum
 have gd := rowV_gd (part := part) (below := below) hv.pos (by omega)
 refine ⟨gd, fun x hx => ?_, fun x hx => ?_⟩
 ·refine rowV_all (P := fun i => 0 ≤ i ∧ i ≤ 9223372036854775807) (fun v hv1 hs1 => ?_) x hx
  have v3 := (hv.ok v hv1).1
  have v4 : v.1 ≠ 0 := fun e => by unfold sgn at hs1; rw [e] at hs1; simp at hs1
  have := hp v.1.natAbs (by omega) (by omega)
  omega
 ·have h1 := mem_le_sum gd.pos hx
  have h2 := rowV_sum (part := part) (below := below) hv.pos (by omega)
  have h3 := (sumP_filter_le hv.pos fun v => sgn below v.1).2
  omega
theorem PutOk.filter {ps : List (Int × Int)} (h : PutOk ps) (f : Int × Int → Bool) : PutOk (ps.filter f) := ⟨h.gd.filter _, fun x hx => h.nn x (List.mem_filter.1 hx).1, fun x hx => h.up x (List.mem_filter.1 hx).1⟩
theorem At.fo {w : World} {b : Nat} {T : TypeId} {v0 v1 v2 v3 : Value} (h : At w b #[v0, v1, v2, v3] T) : (w.cell? ⟨b, 0, none⟩ = some v0 ∧ w.cell? ⟨b, 1, none⟩ = some v1 ∧ w.cell? ⟨b, 2, none⟩ = some v2 ∧ w.cell? ⟨b, 3, none⟩ = some v3) := ⟨h.cell rfl, h.cell rfl, h.cell rfl, h.cell rfl⟩
theorem keptP_len2 {s : Bool} {most : Int} {ps : List (Int × Int)} : (keptP s most ps).length ≤ ps.length := List.length_filter_le _ _
theorem eLow_bd' {l : List (Int × Int)} (h : VOk l) : (-9223372036854775808 ≤ eLow l ∧ eLow l ≤ 9223372036854775807) ∧ (-9223372036854775808 ≤ eHigh l ∧ eHigh l ≤ 9223372036854775807) ∧ eLow l ≤ eHigh l := by
 by_cases h0 : l = []
 ·subst h0
  have e1 : eLow [] = 0 := rfl
  have e2 : eHigh [] = 0 := rfl
  rw [e1, e2]
  omega
 ·obtain ⟨⟨v, mv, ev⟩, ⟨v', mv', ev'⟩⟩ := eLow_mem h0
  have r1 := (h.ok v mv).1
  have r2 := (h.ok v' mv').1
  have r3 := eLow_le mv
  rw [ev] at r1 r3
  rw [ev'] at r2
  omega
theorem row_apart {w W : World} {qb len cap : Nat} {A0 A : Option Addr} {ps : List (Int × Int)} {l0 : List UInt8} (h : QuI w W qb none A len cap l0) (hR : RdP w A0 ps) (hq : At w qb #[.slice none 0 0] 193) (hps : 0 < ps.length) : ∀ g, A0 = some g → g.block ∉ qb :: blk A := fun g hg => by
 subst hg
 obtain ⟨g', o, e, hlt, hc, _⟩ := hR.at 0 hps
 cases e
 refine h.notin hlt fun hm => ?_
 rcases List.mem_cons.1 hm with h1 | h1
 ·have e : g' = qb := h1
  subst e
  unfold At at hq
  rw [World.cell?] at hc
  simp [hq] at hc
  cases o with
  | zero => simp at hc
  | succ o => simp at hc
 ·simp [blk] at h1
set_option maxRecDepth 100000 in
set_option maxHeartbeats 4000000 in
theorem swrite_log (q qb : Nat) (Q : List Nat) (part : Nat → Int) (rep : Int → Int) (un vn mn : Nat) (s : Bool) (l : List (Int × Int)) (w : World) (h : LsV w q Q part rep un vn s mn l) (hv : VOk l) (hq : Qu w qb none 0 0 []) (hqb : qb ∉ Q) (hl : l.length ≤ 1000) (hu : un < 18446744073709551616) (hw : vn < 18446744073709551616) :
  Calls Tryz.prog 197 #[.agg #[.pointer (some ⟨q, 0, none⟩)], .pointer (some ⟨qb, 0, none⟩)] w fun e w' => e = .returned (.tuple #[]) ∧ ∃ W A len cap, Below w.heap.size w W ∧ QuI W w' qb none A len cap (natsB [un, vn, (sideZ s).toNat, mn] ++ intsB [eLow l, eHigh l] ++ natsB [(zeroV l).toNat, (negV l - sumP (keptP s mn (rowV part true l))).toNat, (posV l - sumP (keptP s mn (rowV part false l))).toNat] ++ rowB (keptP s mn (rowV part true l)) ++ rowB (keptP s mn (rowV part false l))) := by
 have hm14 := h.m14
 have hba : Below w.heap.size w (w.alloc (.cells #[.pointer (some ⟨q, 0, none⟩)] 105)) := (Below.refl _ _).alloc (Nat.le_refl _) _
 have a1 := At.new w #[.pointer (some ⟨q, 0, none⟩)] 105
 have f1 := a1.one
 have l1 := a1.lt
 have HLS := Lib.hid h
 have HV := Lib.hid hv
 have HQ0 := Lib.hid hq
 have HQB := Lib.hid hqb
 obtain ⟨bb, B, rfl, hB⟩ := h
 have HB0 := Lib.hid hB
 have HRW := Lib.hid fun W (hb : Below w.heap.size w W) => brows_v bb B false part rep s mn l W (hB.bn.below hb)
 have HLO := Lib.hid fun W (hb : Below w.heap.size w W) => blost_v bb B false part rep s mn l W (hB.bn.below hb)
 have HEN := Lib.hid fun W (hb : Below w.heap.size w W) => lsends_v q _ part rep un vn s mn l W (Ls.below HLS.out hb) hv
 have HRNG := Lib.hid hB.bn.rng
 have HBI := Lib.hid fun W (hb : Below w.heap.size w W) => lsbins_at q _ _ _ _ _ _ _ W (hB.below hb).at'
 have HCF := Lib.hid fun W (hb : Below w.heap.size w W) => lsconf_at q _ _ _ _ _ _ _ W (hB.below hb).at'
 have hzz : ∃ n : Nat, sideZ s = (n : Int) ∧ n ≤ 1 := by
  cases s
  ·exact ⟨1, rfl, by omega⟩
  ·exact ⟨0, rfl, by omega⟩
 obtain ⟨zn, hzn, hz1⟩ := hzz
 have HZN : Hid ((sideZ s).toNat = zn) := by show _ = _; rw [hzn]; rfl
 have hs := hv.sum
 have g0 := rowV_gd (part := part) (below := true) hv.pos (by omega)
 have g1 := rowV_gd (part := part) (below := false) hv.pos (by omega)
 have HP0 : Hid (PutOk (keptP s mn (rowV part true l))) := (putOk_row HRNG.out hv).filter _
 have HP1 : Hid (PutOk (keptP s mn (rowV part false l))) := (putOk_row HRNG.out hv).filter _
 have hn0 : (keptP s mn (rowV part true l)).length ≤ 1000 := Nat.le_trans keptP_len2 (Nat.le_trans rowV_len hl)
 have hn1 : (keptP s mn (rowV part false l)).length ≤ 1000 := Nat.le_trans keptP_len2 (Nat.le_trans rowV_len hl)
 obtain ⟨t1, t2⟩ := hv.total (part := part)
 have hl0 : 0 ≤ negV l - sumP (keptP s mn (rowV part true l)) ∧ negV l - sumP (keptP s mn (rowV part true l)) ≤ 9223372036854775807 := by
  have a := sumP_filter_le g0.pos fun x : Int × Int => decide (gap s (endP s (rowV part true l)) x.1 < mn)
  have b := sumP_nonneg g1.pos
  rw [negV_row hv.pos (by omega)] at a t1
  have : sumP (keptP s mn (rowV part true l)) = sumP ((rowV part true l).filter fun x : Int × Int => decide (gap s (endP s (rowV part true l)) x.1 < mn)) := rfl
  omega
 have hl1 : 0 ≤ posV l - sumP (keptP s mn (rowV part false l)) ∧ posV l - sumP (keptP s mn (rowV part false l)) ≤ 9223372036854775807 := by
  have a := sumP_filter_le g1.pos fun x : Int × Int => decide (gap s (endP s (rowV part false l)) x.1 < mn)
  have b := sumP_nonneg g0.pos
  rw [posV_row hv.pos (by omega)] at a t1
  have : sumP (keptP s mn (rowV part false l)) = sumP ((rowV part false l).filter fun x : Int × Int => decide (gap s (endP s (rowV part false l)) x.1 < mn)) := rfl
  omega
 have hz0 : zeroV l ≤ 9223372036854775807 := by
  have b := sumP_nonneg g0.pos
  have b' := sumP_nonneg g1.pos
  omega
 have hbd := eLow_bd' hv
 obtain ⟨ze, hze⟩ : ∃ n : Nat, zeroV l = (n : Int) := ⟨(zeroV l).toNat, by omega⟩
 obtain ⟨lo0, hlo0⟩ : ∃ n : Nat, negV l - sumP (keptP s mn (rowV part true l)) = (n : Int) := ⟨(negV l - sumP (keptP s mn (rowV part true l))).toNat, by omega⟩
 obtain ⟨lo1, hlo1⟩ : ∃ n : Nat, posV l - sumP (keptP s mn (rowV part false l)) = (n : Int) := ⟨(posV l - sumP (keptP s mn (rowV part false l))).toNat, by omega⟩
 rw [hze] at hz0
 rw [hlo0] at hl0
 rw [hlo1] at hl1
 have HZE : Hid ((zeroV l).toNat = ze ∧ (negV l - sumP (keptP s mn (rowV part true l))).toNat = lo0 ∧ (posV l - sumP (keptP s mn (rowV part false l))).toNat = lo1) := ⟨by rw [hze]; rfl, by rw [hlo0]; rfl, by rw [hlo1]; rfl⟩
 have HZER := Lib.hid fun W (hW : BnV W bb B false part rep s mn l) => bzero_v bb B false part rep s mn l W hW
 rw [hzn] at HCF
 rw [hze] at HZER
 rw [hlo0, hlo1] at HLO
 rw [HZN.out, HZE.out.1, HZE.out.2.1, HZE.out.2.2]
 obtain ⟨K0, hK0⟩ : ∃ k, keptP s mn (rowV part true l) = k := ⟨_, rfl⟩
 obtain ⟨K1, hK1⟩ : ∃ k, keptP s mn (rowV part false l) = k := ⟨_, rfl⟩
 rw [hK0] at HP0 hn0 HRW ⊢
 rw [hK1] at HP1 hn1 HRW ⊢
 obtain ⟨el, hel⟩ : ∃ z, eLow l = z := ⟨_, rfl⟩
 obtain ⟨eh, heh⟩ : ∃ z, eHigh l = z := ⟨_, rfl⟩
 obtain ⟨ei, hei⟩ : ∃ z, eIs l = z := ⟨_, rfl⟩
 rw [hel, heh] at HEN hbd ⊢
 rw [hei] at HEN
 have HBD := Lib.hid hbd
 have HCB : Hid (qb < w.heap.size) := hq.at'.lt
 unfold RowsR at HRW
 obtain ⟨n0, hk0⟩ : ∃ n, K0.length = n := ⟨_, rfl⟩
 obtain ⟨n1, hk1⟩ : ∃ n, K1.length = n := ⟨_, rfl⟩
 have HK := Lib.hid (And.intro hk0 hk1)
 rw [hk0] at hn0 HRW
 rw [hk1] at hn1 HRW
 clear hzn hs g0 g1 t1 t2 hbd hze hlo0 hlo1 hK0 hK1 hel heh hei hB hv hq hqb hk0 hk1 HRNG
 go_enter Tryz.func197, Tryz.ntmps197
 go_wp2_with fail
 obtain ⟨W1, hW1⟩ : ∃ W, w.alloc (.cells #[.pointer (some ⟨q, 0, none⟩)] 105) = W := ⟨_, rfl⟩
 obtain ⟨cb, hcb⟩ : ∃ r, w.heap.size = r := ⟨_, rfl⟩
 have HCBE := Lib.hid hcb
 rw [hW1] at hba a1
 rw [hcb] at a1
 simp only [hW1, hcb]
 clear hW1 hcb f1 l1
 refine (HCF.out W1 hba).mono ?_
 rintro e w1 ⟨rfl, hb⟩
 have hb2 := keep1 hba hb
 have a2 := a1.below hb
 have aF := At.new w1 #[.int .u64 (un : Int), .int .u64 (vn : Int), .int .i64 (zn : Int), .int .i64 (mn : Int)] 103
 have hbe : Below w1.heap.size w1 (w1.alloc (.cells #[.int .u64 (un : Int), .int .u64 (vn : Int), .int .i64 (zn : Int), .int .i64 (mn : Int)] 103)) := (Below.refl _ _).alloc (Nat.le_refl _) _
 have a3 := a2.below hbe
 have f3 := a3.one
 have l3 := a3.lt
 clear hb hba a1 HCF
 go_wp2_with fail
 obtain ⟨W2, hW2⟩ : ∃ W, w1.alloc (.cells #[.int .u64 (un : Int), .int .u64 (vn : Int), .int .i64 (zn : Int), .int .i64 (mn : Int)] 103) = W := ⟨_, rfl⟩
 obtain ⟨fb, hfb⟩ : ∃ r, w1.heap.size = r := ⟨_, rfl⟩
 have HB2 := Lib.hid (keep1 hb2 hbe)
 rw [hW2] at a3 aF HB2
 rw [hfb] at aF
 simp only [hW2, hfb]
 clear hW2 hfb f3 l3 hbe hb2 a2
 refine (HEN.out W2 HB2.out).mono ?_
 rintro e w3 ⟨rfl, hb⟩
 have HB3 := Lib.hid (keep1 HB2.out hb)
 have a4 := a3.below hb
 have aF4 := aF.below hb
 have f4 := a4.one
 have l4 := a4.lt
 clear hb a3 aF HEN HB2
 go_wp2_with fail
 refine (HBI.out w3 HB3.out).mono ?_
 rintro e w4 ⟨rfl, rfl⟩
 go_wp2_with fail
 refine (HRW.out w3 HB3.out).mono ?_
 rintro e w4 ⟨A0, c0, A1, c1, rfl, hr0, hr1, hb⟩
 have HB4 := Lib.hid (keep1 HB3.out hb)
 have HR0 := Lib.hid hr0
 have HR1 := Lib.hid hr1
 have a5 := a4.below hb
 have aF5 := aF4.below hb
 have f5 := a5.one
 have l5 := a5.lt
 clear hb hr0 hr1 a4 aF4 f4 l4 HRW HB3
 go_wp2_with fail
 refine (HBI.out w4 HB4.out).mono ?_
 rintro e w5 ⟨rfl, rfl⟩
 go_wp2_with fail
 refine (HLO.out w4 HB4.out).mono ?_
 rintro e w5 ⟨rfl, hb⟩
 have HB5 := Lib.hid (keep1 HB4.out hb)
 have HR05 := Lib.hid (HR0.out.below hb)
 have HR15 := Lib.hid (HR1.out.below hb)
 have a6 := a5.below hb
 have aF6 := aF5.below hb
 have f6 := a6.one
 have l6 := a6.lt
 have g6 := aF6.fo
 have m6 := aF6.lt
 clear hb a5 aF5 f5 l5 HLO HBI HR0 HR1 HB4
 have HQ5 := Lib.hid (QuI.start (HQ0.out.below HB5.out))
 have HA5 := Lib.hid a6
 have HAPT : Hid (∀ (A : Option Addr) (len cap : Nat) (l0 : List UInt8) (W : World), QuI w5 W qb none A len cap l0 → (0 < n0 → ∀ g, A0 = some g → g.block ∉ qb :: blk A) ∧ (0 < n1 → ∀ g, A1 = some g → g.block ∉ qb :: blk A)) := fun A len cap l0 W hQ =>
  ⟨fun hp => row_apart hQ HR05.out ((HQ0.out.below HB5.out).at') (by rw [HK.out.1]; exact hp), fun hp => row_apart hQ HR15.out ((HQ0.out.below HB5.out).at') (by rw [HK.out.2]; exact hp)⟩
 have HCQ : Hid (cb ≠ qb) := fun e => by have := HCB.out; have := HCBE.out; omega
 have hbe : Below w5.heap.size w5 (w5.alloc (.cells #[.int .u64 (un : Int), .int .u64 (vn : Int), .int .u64 (zn : Int), .int .u64 (mn : Int)] 23)) := (Below.refl _ _).alloc (Nat.le_refl _) _
 have H6 := Lib.hid (HQ5.out.below hbe)
 have HRU := Lib.hid (rdU_list w5 [un, vn, zn, mn] #[.int .u64 (un : Int), .int .u64 (vn : Int), .int .u64 (zn : Int), .int .u64 (mn : Int)] w5.heap.size rfl rfl)
 have HFR := Lib.hid (QuB.fresh HQ5.out.qu w5.heap.size (Nat.le_refl _))
 have a7 := a6.below hbe
 clear hbe a6 aF6
 go_wp2_with fail
 refine (qnat_any qb none 0 0 [] (some ⟨w5.heap.size, 0, none⟩) 4 4 [un, vn, zn, mn] _ H6.out.qu rfl (by omega) (by omega) HRU.out (fun u hu => by simp only [List.mem_cons, List.not_mem_nil, or_false] at hu; omega) HFR.out).mono ?_
 rintro e w7 ⟨rfl, A7, len7, cap7, hQ⟩
 have H7 := Lib.hid (H6.out.trans hQ)
 have HL7 : Hid (len7 ≤ 40) := by
  have h1 := H7.out.qu.len
  have h2 := natsB_len (l := [un, vn, zn, mn]) fun u hu => by simp only [List.mem_cons, List.not_mem_nil, or_false] at hu; omega
  rw [List.nil_append] at h1
  show _ ≤ _
  simp at h2
  omega
 have a8 := hQ.fr.at a7 (by simp only [blk, List.mem_cons, List.not_mem_nil, or_false]; exact HCQ.out)
 clear hQ H6 HRU HFR a7 HQ5
 have hbe : Below w7.heap.size w7 (w7.alloc (.cells #[.int .i64 el, .int .i64 eh] 2)) := (Below.refl _ _).alloc (Nat.le_refl _) _
 have H8 := Lib.hid (H7.out.below hbe)
 have HRI := Lib.hid (rdI_list w7 [el, eh] #[.int .i64 el, .int .i64 eh] w7.heap.size rfl rfl)
 have HFR := Lib.hid (QuB.fresh H7.out.qu w7.heap.size (Nat.le_refl _))
 have a9 := a8.below hbe
 clear hbe a8 f6 l6 g6 m6
 go_wp2_with fail
 refine (qint_any qb A7 len7 cap7 _ (some ⟨w7.heap.size, 0, none⟩) 2 2 [el, eh] _ H8.out.qu rfl (by omega) (by have := HL7.out; omega) HRI.out (fun u hu => by simp only [List.mem_cons, List.not_mem_nil, or_false] at hu; have := HBD.out; rcases hu with rfl | rfl <;> omega) HFR.out).mono ?_
 rintro e w9 ⟨rfl, A9, len9, cap9, hQ⟩
 have H9 := Lib.hid (H8.out.trans hQ)
 have HL9 : Hid (len9 ≤ 60) := by
  have h1 := H9.out.qu.len
  have h2 := H8.out.qu.len
  have h3 := intsB_len (l := [el, eh]) fun u hu => by simp only [List.mem_cons, List.not_mem_nil, or_false] at hu; have := HBD.out; rcases hu with rfl | rfl <;> omega
  rw [List.length_append, h2] at h1
  have := HL7.out
  show _ ≤ _
  simp at h3
  omega
 have a10 := H9.out.fr.at HA5.out (by simp only [blk, List.mem_cons, List.not_mem_nil, or_false]; exact HCQ.out)
 have HLS9 : Hid (LsB w9 q bb B part rep un vn s mn l (eLow l) (eHigh l)) := (HB0.out.below HB5.out).frame H9.out.fr (by have := HQB.out; simp only [blk, List.mem_cons, List.not_mem_nil, or_false]; exact fun e => this (by simp [e])) (fun j hj hm => by simp only [blk, List.mem_cons, List.not_mem_nil, or_false] at hm; subst hm; exact HQB.out (by simp [hj]))
 have f10 := a10.one
 have l10 := a10.lt
 clear hQ H8 HRI HFR a9
 go_wp2_with fail
 refine (lsbins_at q _ _ _ _ _ _ _ w9 HLS9.out.at').mono ?_
 rintro e w10 ⟨rfl, rfl⟩
 go_wp2_with fail
 refine (HZER.out w9 HLS9.out.bn).mono ?_
 rintro e w10 ⟨rfl, rfl⟩
 have hbe : Below w9.heap.size w9 (w9.alloc (.cells #[.int .u64 (ze : Int), .int .u64 (lo0 : Int), .int .u64 (lo1 : Int)] 23)) := (Below.refl _ _).alloc (Nat.le_refl _) _
 have H10 := Lib.hid (H9.out.below hbe)
 have HRU := Lib.hid (rdU_list w9 [ze, lo0, lo1] #[.int .u64 (ze : Int), .int .u64 (lo0 : Int), .int .u64 (lo1 : Int)] w9.heap.size rfl rfl)
 have HFR := Lib.hid (QuB.fresh H9.out.qu w9.heap.size (Nat.le_refl _))
 clear hbe HLS9 HZER a10
 go_wp2_with fail
 refine (qnat_any qb A9 len9 cap9 _ (some ⟨w9.heap.size, 0, none⟩) 3 3 [ze, lo0, lo1] _ H10.out.qu rfl (by omega) (by have := HL9.out; omega) HRU.out (fun u hu => by simp only [List.mem_cons, List.not_mem_nil, or_false] at hu; omega) HFR.out).mono ?_
 rintro e w11 ⟨rfl, A11, len11, cap11, hQ⟩
 have H11 := Lib.hid (H10.out.trans hQ)
 have HL11 : Hid (len11 ≤ 90) := by
  have h1 := H11.out.qu.len
  have h2 := H10.out.qu.len
  have h3 := natsB_len (l := [ze, lo0, lo1]) fun u hu => by simp only [List.mem_cons, List.not_mem_nil, or_false] at hu; omega
  rw [List.length_append, h2] at h1
  have := HL9.out
  show _ ≤ _
  simp at h3
  omega
 clear hQ H10 HRU HFR f10 l10
 go_wp2_with fail
 have HF0 := Lib.hid (HAPT.out _ _ _ _ _ H11.out)
 have HR0 : Hid (RdP w11 A0 K0) := by
  by_cases hz : n0 = 0
  ·have : K0 = [] := List.eq_nil_of_length_eq_zero (by rw [HK.out.1]; exact hz)
   rw [this]; exact RdP.nil _ _
  ·refine Frame.rd H11.out.fr HR05.out fun g hg hm => (HF0.out.1 (by omega) g hg) ?_
   simp only [blk, List.mem_cons, List.not_mem_nil, or_false] at hm
   simp [hm]
 refine (rput_any qb A11 len11 cap11 _ A0 n0 c0 K0 w11 H11.out.qu HK.out.1 (by omega) (by have := HL11.out; omega) HR0.out HP0.out HF0.out.1).mono ?_
 rintro e w12 ⟨rfl, A12, len12, cap12, hQ⟩
 have H12 := Lib.hid (H11.out.trans hQ)
 have HL12 : Hid (len12 ≤ 100000) := by
  have h1 := H12.out.qu.len
  have h2 := H11.out.qu.len
  have h3 := HP0.out.len n0
  rw [List.take_of_length_le (by have := HK.out.1; omega)] at h3
  have h4 := natB_len (u := K0.length) (by have := HK.out.1; omega)
  rw [List.length_append, h2] at h1
  unfold rowB at h1
  rw [List.length_append] at h1
  have := HL11.out
  have := HK.out.1
  show _ ≤ _
  omega
 clear hQ HR0 HF0
 go_wp2_with fail
 have HF1 := Lib.hid (HAPT.out _ _ _ _ _ H12.out)
 have HR1 : Hid (RdP w12 A1 K1) := by
  by_cases hz : n1 = 0
  ·have : K1 = [] := List.eq_nil_of_length_eq_zero (by rw [HK.out.2]; exact hz)
   rw [this]; exact RdP.nil _ _
  ·refine Frame.rd H12.out.fr HR15.out fun g hg hm => (HF1.out.2 (by omega) g hg) ?_
   simp only [blk, List.mem_cons, List.not_mem_nil, or_false] at hm
   simp [hm]
 refine (rput_any qb A12 len12 cap12 _ A1 n1 c1 K1 w12 H12.out.qu HK.out.2 (by omega) (by have := HL12.out; omega) HR1.out HP1.out HF1.out.2).mono ?_
 rintro e w13 ⟨rfl, A13, len13, cap13, hQ⟩
 have h13 := H12.out.trans hQ
 rw [List.nil_append] at h13
 have H13 := Lib.hid h13
 clear hQ HR1 HF1 h13
 go_wp2
 exact bodyPost_end (results_none rfl _ _ _) rfl ⟨rfl, w5, A13, len13, cap13, HB5.out, H13.out⟩
end Go.Proofs.YtlbnlmhcpephbaaGreatDoor

namespace Go.Proofs.YtlbnlmhcpephbaaGreatDoor
open Go.RowKit
def HwW (cb q : Nat) (cs : Array Value) (W : World) : Prop := At W cb #[.pointer (some ⟨q, 0, none⟩)] 112 ∧ At W q cs 161
theorem HwW.at {cb q : Nat} {cs : Array Value} {W : World} (h : HwW cb q cs W) : At W cb #[.pointer (some ⟨q, 0, none⟩)] 112 ∧ At W q cs 161 := h
theorem HwW.below {cb q : Nat} {cs : Array Value} {W W' : World} (h : HwW cb q cs W) (hb : Below W.heap.size W W') : HwW cb q cs W' := ⟨h.1.below hb, h.2.below hb⟩
set_option maxRecDepth 100000 in
set_option maxHeartbeats 4000000 in
theorem swrite_hdr (q qb : Nat) (Q : List Nat) (dn ln : Nat) (l : List (Int × Int)) (w : World) (h : Hh.HdV w q Q dn ln l) (hv : VOk l) (hq : Qu w qb none 0 0 []) (hqb : qb ∉ Q) (hl : l.length ≤ 1000) (hd : 1 ≤ dn ∧ dn ≤ 4) (hln : ln < 18446744073709551616) :
  Calls Tryz.prog 224 #[.agg #[.pointer (some ⟨q, 0, none⟩)], .pointer (some ⟨qb, 0, none⟩)] w fun e w' => e = .returned (.tuple #[]) ∧ ∃ W A len cap, Below w.heap.size w W ∧ QuI W w' qb none A len cap (natsB [dn, ln] ++ intsB [eLow l, eHigh l] ++ natsB [(zeroV l).toNat] ++ rowB (rowV (partD dn) true l) ++ rowB (rowV (partD dn) false l)) := by
 have hba : Below w.heap.size w (w.alloc (.cells #[.pointer (some ⟨q, 0, none⟩)] 112)) := (Below.refl _ _).alloc (Nat.le_refl _) _
 have a1 := At.new w #[.pointer (some ⟨q, 0, none⟩)] 112
 have f1 := a1.one
 have l1 := a1.lt
 have HH := Lib.hid h
 have HQ0 := Lib.hid hq
 have HQB := Lib.hid hqb
 have hv' := hvok hv
 have HEN := Lib.hid fun W (hb : Below w.heap.size w W) => Hh.hends_v q Q dn ln l W (h.below hb) hv'
 have HRW := Lib.hid fun W (hb : Below w.heap.size w W) => Hh.hrows_v q Q dn ln _ _ _ _ _ W (h.below hb)
 have HCF := Lib.hid fun W (hb : Below w.heap.size w W) => Hh.hconf_any q Q dn ln _ _ _ _ _ W (h.below hb)
 have HZER := Lib.hid fun W (hW : Hh.HdV W q Q dn ln l) => Hh.hzero_any q Q dn ln _ _ _ _ _ W hW
 have HAQ : Hid (∃ cs, At w q cs 161) := by
  obtain ⟨sp, b0, b1, S0, S1, _, hh⟩ := h
  exact ⟨_, hh.at'⟩
 have hs := hv.sum
 have g0 := rowV_gd (part := partD dn) (below := true) hv.pos (by omega)
 have g1 := rowV_gd (part := partD dn) (below := false) hv.pos (by omega)
 have hprn : ∀ m : Nat, 0 < m → m ≤ 9223372036854775808 → 0 ≤ partD dn m ∧ partD dn m ≤ 1048576 := fun m h1 h2 => by have := partD_rng (d := dn) h1 h2; omega
 have HP0 : Hid (PutOk (rowV (partD dn) true l)) := putOk_row hprn hv
 have HP1 : Hid (PutOk (rowV (partD dn) false l)) := putOk_row hprn hv
 have hn0 : (rowV (partD dn) true l).length ≤ 1000 := Nat.le_trans rowV_len hl
 have hn1 : (rowV (partD dn) false l).length ≤ 1000 := Nat.le_trans rowV_len hl
 obtain ⟨t1, t2⟩ := hv.total (part := partD dn)
 have hz0 : zeroV l ≤ 9223372036854775807 := by
  have b := sumP_nonneg g0.pos
  have b' := sumP_nonneg g1.pos
  omega
 have hbd := eLow_bd' hv
 obtain ⟨ze, hze⟩ : ∃ n : Nat, zeroV l = (n : Int) := ⟨(zeroV l).toNat, by omega⟩
 rw [hze] at hz0
 have HZE : Hid ((zeroV l).toNat = ze) := by show _ = _; rw [hze]; rfl
 rw [hze] at HZER
 rw [HZE.out]
 obtain ⟨K0, hK0⟩ : ∃ k, rowV (partD dn) true l = k := ⟨_, rfl⟩
 obtain ⟨K1, hK1⟩ : ∃ k, rowV (partD dn) false l = k := ⟨_, rfl⟩
 rw [hK0] at HP0 hn0 HRW ⊢
 rw [hK1] at HP1 hn1 HRW ⊢
 obtain ⟨el, hel⟩ : ∃ z, eLow l = z := ⟨_, rfl⟩
 obtain ⟨eh, heh⟩ : ∃ z, eHigh l = z := ⟨_, rfl⟩
 obtain ⟨ei, hei⟩ : ∃ z, eIs l = z := ⟨_, rfl⟩
 rw [hel, heh] at HEN hbd ⊢
 rw [hei] at HEN
 have HBD := Lib.hid hbd
 have HCB : Hid (qb < w.heap.size) := hq.at'.lt
 unfold Hh.RowsR at HRW
 obtain ⟨n0, hk0⟩ : ∃ n, K0.length = n := ⟨_, rfl⟩
 obtain ⟨n1, hk1⟩ : ∃ n, K1.length = n := ⟨_, rfl⟩
 have HK := Lib.hid (And.intro hk0 hk1)
 rw [hk0] at hn0 HRW
 rw [hk1] at hn1 HRW
 obtain ⟨csq, haq⟩ := HAQ.out
 have HAQ1 := Lib.hid haq
 clear hs g0 g1 t1 t2 hbd hze hK0 hK1 hel heh hei hv hv' hq hqb hk0 hk1 hprn h haq HAQ
 go_enter Tryz.func224, Tryz.ntmps224
 go_wp2_with fail
 obtain ⟨W1, hW1⟩ : ∃ W, w.alloc (.cells #[.pointer (some ⟨q, 0, none⟩)] 112) = W := ⟨_, rfl⟩
 obtain ⟨cb, hcb⟩ : ∃ r, w.heap.size = r := ⟨_, rfl⟩
 have HCBE := Lib.hid hcb
 rw [hW1] at hba a1
 rw [hcb] at a1
 simp only [hW1, hcb]
 clear hW1 hcb f1 l1
 refine (HEN.out W1 hba).mono ?_
 rintro e w3 ⟨rfl, hb⟩
 have HB3 := Lib.hid (keep1 hba hb)
 have a4 := a1.below hb
 have f4 := a4.one
 have l4 := a4.lt
 clear hb a1 HEN hba
 go_wp2_with fail
 refine (HRW.out w3 HB3.out).mono ?_
 rintro e w5 ⟨A0, c0, A1, c1, rfl, hr0, hr1, hb⟩
 have HB5 := Lib.hid (keep1 HB3.out hb)
 have HR05 := Lib.hid hr0
 have HR15 := Lib.hid hr1
 have a6 := a4.below hb
 clear hb hr0 hr1 a4 f4 l4 HRW HB3
 go_wp2_with fail
 have hc0 : ∀ W : World, (Instr.field 110 (.agg #[.int .i64 (dn : Int), .int .u64 (ln : Int)]) 0).run Tryz.prog W = .ok (.int .i64 (dn : Int)) W := fun W => by kernel_rfl
 have hc1 : ∀ W : World, (Instr.field 110 (.agg #[.int .i64 (dn : Int), .int .u64 (ln : Int)]) 1).run Tryz.prog W = .ok (.int .u64 (ln : Int)) W := fun W => by kernel_rfl
 have hbd : Below w5.heap.size w5 w5.drew := (Below.refl _ _).drew
 obtain ⟨W6, hW6⟩ : ∃ W, w5.drew = W := ⟨_, rfl⟩
 rw [hW6] at hbd
 have hK6 : HwW cb q csq W6 := ⟨a6.below hbd, (HAQ1.out.below HB5.out).below hbd⟩
 have HB56 := Lib.hid hbd
 have HB6 := Lib.hid (keep1 HB5.out hbd)
 haveI hne : Nonempty (Held (HwW cb q csq)) := ⟨⟨W6, hK6⟩⟩
 have hfar1 := fun v : Held (HwW cb q csq) => v.held.at.1.one
 refine wp_region_noPanic ?_
 refine wp_region_held_drew (S := HeldS (HwW cb q csq)) (by kernel_rfl) (by rw [hW6]; exact HeldS.mk' hK6) (fun hHeld => ?_)
 rw [hW6] at hHeld ⊢
 have HK6 := Lib.hid hK6
 clear hW6 hK6 hbd
 refine wpAnyH_run0 [true, true, true, false, false, false, true, true] 7 (by kernel_rfl) (by kernel_rfl) (fun _ _ _ _ h => h) (by kernel_rfl) hHeld ?_
 simp only [runOps_true, runOps_false, runOps_nil]
 repeat (first | go_big_quiet_skip | (go_big_quiet_want; go_big_quiet_op; go_big_quiet_on))
 refine wpQuiet_nil ?_
 clear hfar1
 refine wpAnyH_ready (rs := [3]) (by kernel_rfl) (by simp) ?_
 refine AllReadyH.cons rfl (fun K hK => ?_) AllReadyH.nil
 go_simp
 go_wp2_with (go_at_call 227; refine (HCF.out W6 HB6.out).mono ?_; rintro e w7 ⟨rfl, hb⟩)
 refine hK.out _ _ ?_ (fun hHeld => ?_)
 clear hK K
 ·exact HeldS.mk' (HK6.out.below hb)
 have HB7 := Lib.hid (keep1 HB6.out hb)
 have HB57 := Lib.hid (keep1 HB56.out hb)
 have HK7 := Lib.hid (HK6.out.below hb)
 clear hb HK6 HB6 HB56
 refine wpAnyH_run0 [false, false, false, false, true, true] 4 (by kernel_rfl) (by kernel_rfl) (fun _ _ _ _ h => h) (by kernel_rfl) hHeld ?_
 simp only [runOps_true, runOps_false, runOps_nil]
 repeat (first | go_big_quiet_skip | (go_big_quiet_want; go_big_quiet_op; go_big_quiet_on))
 refine wpQuiet_nil ?_
 refine wpAnyH_ready (rs := [8]) (by kernel_rfl) (by simp) ?_
 refine AllReadyH.cons rfl (fun K hK => ?_) AllReadyH.nil
 go_simp
 go_wp2_with (go_at_call 227; refine (HCF.out w7 HB7.out).mono ?_; rintro e w8 ⟨rfl, hb⟩)
 refine hK.out _ _ ?_ (fun hHeld => ?_)
 clear hK K
 ·exact HeldS.mk' (HK7.out.below hb)
 have HB8 := Lib.hid (keep1 HB7.out hb)
 have HB58 := Lib.hid (keep1 HB57.out hb)
 have HK8 := Lib.hid (HK7.out.below hb)
 clear hb HK7 HB7 HB57
 refine wpAnyH_run0 [false, false, false, false, false, false, false, false, false, true] 2 (by kernel_rfl) (by kernel_rfl) (fun _ _ _ _ h => h) (by kernel_rfl) hHeld ?_
 simp only [runOps_true, runOps_false, runOps_nil]
 repeat (first | go_big_quiet_skip | (go_big_quiet_want; go_big_quiet_op; go_big_quiet_on))
 refine wpQuiet_nil ?_
 clear hc0 hc1
 have hba : Below w8.heap.size w8 (w8.alloc (.cells #[.int .u64 (dn : Int), .int .u64 (ln : Int)] 23)) := (Below.refl _ _).alloc (Nat.le_refl _) _
 have HQ5 := Lib.hid (QuI.start (Qu.below HQ0.out HB5.out))
 have HAPT : Hid (∀ (A : Option Addr) (len cap : Nat) (l0 : List UInt8) (W : World), QuI w5 W qb none A len cap l0 → (0 < n0 → ∀ g, A0 = some g → g.block ∉ qb :: blk A) ∧ (0 < n1 → ∀ g, A1 = some g → g.block ∉ qb :: blk A)) := fun A len cap l0 W hQ =>
  ⟨fun hp => row_apart hQ HR05.out ((Qu.below HQ0.out HB5.out).at') (by rw [HK.out.1]; exact hp), fun hp => row_apart hQ HR15.out ((Qu.below HQ0.out HB5.out).at') (by rw [HK.out.2]; exact hp)⟩
 have HCQ : Hid (cb ≠ qb) := fun e => by have := HCB.out; have := HCBE.out; omega
 have HA5 := Lib.hid a6
 have HH5 := Lib.hid (HH.out.below HB5.out)
 have HQN : Hid (q ∈ Q) := by
  obtain ⟨sp, b0, b1, S0, S1, e, _⟩ := HH.out
  subst e
  show _ ∈ _
  simp
 have HQQ : Hid (q ≠ qb) := fun e => HQB.out (e ▸ HQN.out)
 have H6 := Lib.hid ((HQ5.out.below HB58.out).below hba)
 have HRU := Lib.hid (rdU_list w8 [dn, ln] #[.int .u64 (dn : Int), .int .u64 (ln : Int)] w8.heap.size rfl rfl)
 have HFR := Lib.hid (QuB.fresh (HQ5.out.below HB58.out).qu w8.heap.size (Nat.le_refl _))
 have hK9 : HwW cb q csq (w8.alloc (.cells #[.int .u64 (dn : Int), .int .u64 (ln : Int)] 23)) := HK8.out.below hba
 have HK9 := Lib.hid hK9
 clear hba a6
 refine wpAnyH_ready (rs := [10]) (by kernel_rfl) (by simp) ?_
 refine AllReadyH.cons rfl (fun K hK => ?_) (AllReadyH.nil)
 go_simp
 go_wp2
 refine hK.out _ _ (HeldS.mk' hK9) (fun hHeld => ?_)
 clear hK K hK9
 refine wpAnyH_ready (rs := [11]) (by kernel_rfl) (by simp) ?_
 refine AllReadyH.cons rfl (fun K hK => ?_) AllReadyH.nil
 go_simp
 go_wp2_with (go_at_call 96; refine (qnat_any qb none 0 0 [] (some ⟨w8.heap.size, 0, none⟩) 2 2 [dn, ln] _ H6.out.qu rfl (by omega) (by omega) HRU.out (fun u hu => by simp only [List.mem_cons, List.not_mem_nil, or_false] at hu; omega) HFR.out).mono ?_; rintro e w9 ⟨rfl, A7, len7, cap7, hQ⟩)
 refine hK.out _ _ ?_ (fun hHeld => ?_)
 clear hK K
 ·exact HeldS.mk' ⟨hQ.fr.at HK9.out.1 (by simp only [blk, List.mem_cons, List.not_mem_nil, or_false]; exact HCQ.out), hQ.fr.at HK9.out.2 (by simp only [blk, List.mem_cons, List.not_mem_nil, or_false]; exact HQQ.out)⟩
 refine wpAnyH_done (by kernel_rfl) ?_ _
 refine NoPanic.normal ?_
 clear hne hHeld HRU HFR HK9 HK8
 have H7 := Lib.hid (H6.out.trans hQ)
 have HL7 : Hid (len7 ≤ 40) := by
  have h1 := H7.out.qu.len
  have h2 := natsB_len (l := [dn, ln]) fun u hu => by simp only [List.mem_cons, List.not_mem_nil, or_false] at hu; omega
  rw [List.nil_append] at h1
  show _ ≤ _
  simp at h2
  omega
 have a8 := H7.out.fr.at HA5.out (by simp only [blk, List.mem_cons, List.not_mem_nil, or_false]; exact HCQ.out)
 clear hQ H6 HQ5
 have hbe : Below w9.heap.size w9 (w9.alloc (.cells #[.int .i64 el, .int .i64 eh] 2)) := (Below.refl _ _).alloc (Nat.le_refl _) _
 have H8 := Lib.hid (H7.out.below hbe)
 have HRI := Lib.hid (rdI_list w9 [el, eh] #[.int .i64 el, .int .i64 eh] w9.heap.size rfl rfl)
 have HFR := Lib.hid (QuB.fresh H7.out.qu w9.heap.size (Nat.le_refl _))
 clear hbe a8
 go_wp2_with fail
 refine (qint_any qb A7 len7 cap7 _ (some ⟨w9.heap.size, 0, none⟩) 2 2 [el, eh] _ H8.out.qu rfl (by omega) (by have := HL7.out; omega) HRI.out (fun u hu => by simp only [List.mem_cons, List.not_mem_nil, or_false] at hu; have := HBD.out; rcases hu with rfl | rfl <;> omega) HFR.out).mono ?_
 rintro e w10 ⟨rfl, A9, len9, cap9, hQ⟩
 have H9 := Lib.hid (H8.out.trans hQ)
 have HL9 : Hid (len9 ≤ 60) := by
  have h1 := H9.out.qu.len
  have h2 := H8.out.qu.len
  have h3 := intsB_len (l := [el, eh]) fun u hu => by simp only [List.mem_cons, List.not_mem_nil, or_false] at hu; have := HBD.out; rcases hu with rfl | rfl <;> omega
  rw [List.length_append, h2] at h1
  have := HL7.out
  show _ ≤ _
  simp at h3
  omega
 have a10 := H9.out.fr.at HA5.out (by simp only [blk, List.mem_cons, List.not_mem_nil, or_false]; exact HCQ.out)
 have HH9 : Hid (Hh.HdV w10 q Q dn ln l) := HH5.out.frame H9.out.fr (fun j hj hm => by simp only [blk, List.mem_cons, List.not_mem_nil, or_false] at hm; subst hm; exact HQB.out hj)
 have f10 := a10.one
 have l10 := a10.lt
 clear hQ H8 HRI HFR
 go_wp2_with fail
 refine (HZER.out w10 HH9.out).mono ?_
 rintro e w11 ⟨rfl, rfl⟩
 have hbe : Below w10.heap.size w10 (w10.alloc (.cells #[.int .u64 (ze : Int)] 23)) := (Below.refl _ _).alloc (Nat.le_refl _) _
 have H10 := Lib.hid (H9.out.below hbe)
 have HRU := Lib.hid (rdU_list w10 [ze] #[.int .u64 (ze : Int)] w10.heap.size rfl rfl)
 have HFR := Lib.hid (QuB.fresh H9.out.qu w10.heap.size (Nat.le_refl _))
 clear hbe HH9 HZER a10
 go_wp2_with fail
 refine (qnat_any qb A9 len9 cap9 _ (some ⟨w10.heap.size, 0, none⟩) 1 1 [ze] _ H10.out.qu rfl (by omega) (by have := HL9.out; omega) HRU.out (fun u hu => by simp only [List.mem_cons, List.not_mem_nil, or_false] at hu; omega) HFR.out).mono ?_
 rintro e w11 ⟨rfl, A11, len11, cap11, hQ⟩
 have H11 := Lib.hid (H10.out.trans hQ)
 have HL11 : Hid (len11 ≤ 90) := by
  have h1 := H11.out.qu.len
  have h2 := H10.out.qu.len
  have h3 := natsB_len (l := [ze]) fun u hu => by simp only [List.mem_cons, List.not_mem_nil, or_false] at hu; omega
  rw [List.length_append, h2] at h1
  have := HL9.out
  show _ ≤ _
  simp at h3
  omega
 clear hQ H10 HRU HFR f10 l10
 go_wp2_with fail
 have HF0 := Lib.hid (HAPT.out _ _ _ _ _ H11.out)
 have HR0 : Hid (RdP w11 A0 K0) := by
  by_cases hz : n0 = 0
  ·have : K0 = [] := List.eq_nil_of_length_eq_zero (by rw [HK.out.1]; exact hz)
   rw [this]; exact RdP.nil _ _
  ·refine Frame.rd H11.out.fr HR05.out fun g hg hm => (HF0.out.1 (by omega) g hg) ?_
   simp only [blk, List.mem_cons, List.not_mem_nil, or_false] at hm
   simp [hm]
 refine (rput_any qb A11 len11 cap11 _ A0 n0 c0 K0 w11 H11.out.qu HK.out.1 (by omega) (by have := HL11.out; omega) HR0.out HP0.out HF0.out.1).mono ?_
 rintro e w12 ⟨rfl, A12, len12, cap12, hQ⟩
 have H12 := Lib.hid (H11.out.trans hQ)
 have HL12 : Hid (len12 ≤ 100000) := by
  have h1 := H12.out.qu.len
  have h2 := H11.out.qu.len
  have h3 := HP0.out.len n0
  rw [List.take_of_length_le (by have := HK.out.1; omega)] at h3
  have h4 := natB_len (u := K0.length) (by have := HK.out.1; omega)
  rw [List.length_append, h2] at h1
  unfold rowB at h1
  rw [List.length_append] at h1
  have := HL11.out
  have := HK.out.1
  show _ ≤ _
  omega
 clear hQ HR0 HF0
 go_wp2_with fail
 have HF1 := Lib.hid (HAPT.out _ _ _ _ _ H12.out)
 have HR1 : Hid (RdP w12 A1 K1) := by
  by_cases hz : n1 = 0
  ·have : K1 = [] := List.eq_nil_of_length_eq_zero (by rw [HK.out.2]; exact hz)
   rw [this]; exact RdP.nil _ _
  ·refine Frame.rd H12.out.fr HR15.out fun g hg hm => (HF1.out.2 (by omega) g hg) ?_
   simp only [blk, List.mem_cons, List.not_mem_nil, or_false] at hm
   simp [hm]
 refine (rput_any qb A12 len12 cap12 _ A1 n1 c1 K1 w12 H12.out.qu HK.out.2 (by omega) (by have := HL12.out; omega) HR1.out HP1.out HF1.out.2).mono ?_
 rintro e w13 ⟨rfl, A13, len13, cap13, hQ⟩
 have h13 := H12.out.trans hQ
 rw [List.nil_append] at h13
 have H13 := Lib.hid h13
 clear hQ HR1 HF1 h13
 go_wp2
 exact bodyPost_end (results_none rfl _ _ _) rfl ⟨rfl, w5, A13, len13, cap13, HB5.out, H13.out⟩
end Go.Proofs.YtlbnlmhcpephbaaGreatDoor

namespace Go.Proofs.YtlbnlmhcpephbaaGreatDoor
open Go.RowKit
set_option maxRecDepth 100000 in
set_option maxHeartbeats 2000000 in
theorem sencode_at (b kn : Nat) (T : TypeId) (v : Value) (fn : FuncId) (load : List UInt8) (k1 k2 k3 k4 k5 k6 k7 k8 k9 k10 : Value) (w : World)
  (ha : At w b #[.int .i64 (kn : Int), k1, k2, k3, k4, k5, k6, k7, k8, k9, k10, .iface T v] 79) (m : MethC T v "ogive/suite.write" fn v) (hl : load.length ≤ 262144) (h0 : load ≠ []) (hk : kn < 256)
  (hW : ∀ W qb, Below w.heap.size w W → Qu W qb none 0 0 [] → w.heap.size ≤ qb → Calls Tryz.prog fn #[v, .pointer (some ⟨qb, 0, none⟩)] W fun e w' => e = .returned (.tuple #[]) ∧ ∃ W1 A len cap, Below W.heap.size W W1 ∧ QuI W1 w' qb none A len cap load) :
  Calls Tryz.prog 52 #[.pointer (some ⟨b, 0, none⟩)] w fun e w' => e = .returned (.tuple #[.string (txt (frameY kn load)), .int .i64 0]) ∧ Below w.heap.size w w' := by
 have hQ0 := QuB.new w
 have ha1 := ha.below (w' := w.alloc (.cells #[.slice none 0 0] 193)) ((Below.refl _ _).alloc (Nat.le_refl _) _)
 have f1 := ha1.tw
 have l1 := ha1.lt
 obtain ⟨m1, m2⟩ := m
 have HL := Lib.hid (And.intro hl (And.intro h0 hk))
 have HA := Lib.hid fun W (hb : Below w.heap.size w W) => ha.below hb
 have HW := Lib.hid hW
 clear hl h0 hk ha hW
 go_enter Tryz.func52, Tryz.ntmps52
 go_wp2_with fail
 obtain ⟨W1, hW1⟩ : ∃ W, w.alloc (.cells #[.slice none 0 0] 193) = W := ⟨_, rfl⟩
 obtain ⟨qb, hqb⟩ : ∃ r, w.heap.size = r := ⟨_, rfl⟩
 have HQB : Hid (w.heap.size = qb) := hqb
 rw [hW1] at hQ0 ha1 f1 l1
 rw [hqb] at hQ0
 simp only [hW1, hqb]
 have HQ0 := Lib.hid hQ0
 have HB1 : Hid (Below w.heap.size w W1) := by rw [← hW1]; exact (Below.refl _ _).alloc (Nat.le_refl _) _
 clear hW1 hqb hQ0
 refine (HW.out W1 qb HB1.out HQ0.out.qu (by have := HQB.out; omega)).mono ?_
 rintro e w2 ⟨rfl, W2, A, len, cap, hb, hq⟩
 have HQ2 : Hid (QuB w w2 qb A len cap load) := (HQ0.out.below hb).stepI (by
  have := hq
  exact this)
 have HB2 : Hid (Below w.heap.size w w2) := by
  have := HQ2.out.bl
  rw [← HQB.out] at this
  exact this
 have a2 := HA.out w2 HB2.out
 clear hb hq f1 l1 ha1 HW HB1 HQ0 m1 m2
 go_wp2_with fail
 have HTX := Lib.hid fun W (hb : Below w2.heap.size w2 W) => (qtext_any qb A len cap load W (HQ2.out.qu.below hb) HL.out.2.1).mono (R' := fun e w' => e = .returned (.string (txt load)) ∧ Below W.heap.size W w') (fun e w' h => ⟨h.1, h.2 ▸ Below.refl _ _⟩)
 have HCL := Lib.hid fun W => fclose_any kn load (txt load) W HL.out.2.2 rfl HL.out.1
 have hcv : IntKind.u8.wrap (kn : Int) = (kn : Int) := by
  have := HL.out.2.2
  simp only [IntKind.wrap_u8]
  omega
 have hfar1 := fun x : Far w2 => (x.at a2).tw
 refine wp_region_far (by kernel_rfl) (by kernel_rfl) ?_
 repeat (first | go_big_quiet_skip | (go_big_quiet_want; go_big_quiet_op; first | go_big_quiet_on | (apply Exists.intro; refine ⟨fun _ => ?_, ?_⟩; (focus (first | (with_reducible refine far_of (HTX.out _ (Far.below _))) | (with_reducible refine far_of (HCL.out _)))); go_big_quiet_on)))
 refine wpQuiet_nil ?_
 rintro _ ⟨xq, rfl⟩
 clear hfar1
 have HFIN := Lib.hid (keep1 HB2.out xq.below)
 clear a2 HTX HCL HA HQ2 HB2
 go_wp2
 go_ret2
 exact ⟨rfl, HFIN.out⟩
end Go.Proofs.YtlbnlmhcpephbaaGreatDoor

namespace Go.Proofs.YtlbnlmhcpephbaaGreatDoor
open Go.RowKit
structure EyJ (w W : World) (b : Nat) (l : List UInt8) : Prop where
 eye : Eye W b l
 fr : Frame [b] w W
 lt : b < w.heap.size
section
variable {w W W' : World} {b : Nat} {l l' : List UInt8}
theorem EyJ.start (h : Eye w b l) : EyJ w w b l := ⟨h, Frame.refl _ _, At.lt h⟩
theorem EyJ.read (h : EyJ w W b l) (hE : Eye W' b l') (hF : Frame [b] W W') : EyJ w W' b l' := ⟨hE, h.fr.trans hF, h.lt⟩
theorem EyJ.below (h : EyJ w W b l) (hb : Below W.heap.size W W') : EyJ w W' b l := ⟨h.eye.below hb, h.fr.trans (Frame.of_below hb), h.lt⟩
theorem EyJ.at {k : Nat} {cs : Array Value} {T : TypeId} (h : EyJ w W b l) (ha : At W k cs T) (hF : Frame [b] W W') (hk : w.heap.size ≤ k) : At W' k cs T := hF.at ha (by have := h.lt; simp only [List.mem_singleton]; omega)
theorem EyJ.own {k : Nat} (h : EyJ w W b l) (hF : Frame [k] W W') (hk : w.heap.size ≤ k) : EyJ w W' b l :=
 ⟨h.eye.frame hF (by have := h.lt; simp only [List.mem_singleton]; omega), ⟨hF.os.trans h.fr.os, hF.tape.trans h.fr.tape, hF.output.trans h.fr.output, Nat.le_trans h.fr.size hF.size, fun j hj hn => (hF.block j (Nat.lt_of_lt_of_le hj h.fr.size) (by simp only [List.mem_singleton]; omega)).trans (h.fr.block j hj hn)⟩, h.lt⟩
theorem rd_eye {A : Option Addr} {ps : List (Int × Int)} (hE : Eye W b l) (hR : RdP W A ps) (hF : Frame [b] W W') : RdP W' A ps := by
 by_cases h0 : ps = []
 ·subst h0; exact RdP.nil _ _
 ·refine hF.rd hR fun g hg hm => ?_
  obtain ⟨g', o, e, hlt, hc, _⟩ := hR.at 0 (by cases ps with | nil => exact absurd rfl h0 | cons _ _ => simp)
  rw [hg] at e
  cases e
  simp only [List.mem_singleton] at hm
  subst hm
  have h1 : At W g' #[.string (txt l), .bool false] 188 := hE
  unfold At at h1
  simp only [Nat.zero_mul, Nat.add_zero] at hc
  rw [World.cell?] at hc
  simp [h1] at hc
  match o, hc with
  | 0, hc => simp at hc
  | 1, hc => simp at hc
  | o + 2, hc => simp at hc
theorem tens_eye (hT : TensAt w) (hE : Eye w b l) (hF : Frame [b] w W') : TensAt W' := by
 have hne : 0 ∉ [b] := fun hm => by
  simp only [List.mem_singleton] at hm
  have h1 : At w b #[.string (txt l), .bool false] 188 := hE
  have h2 := h1.cell (i := 0) rfl
  rw [← hm, hT.c0] at h2
  cases h2
 have hc : ∀ o, W'.cell? ⟨0, o, none⟩ = w.cell? ⟨0, o, none⟩ := fun o => World.cell?_of_block (w := w) (hF.block _ hT.lt hne)
 exact ⟨Nat.lt_of_lt_of_le hT.lt hF.size, (hc _).trans hT.c0, (hc _).trans hT.c1, (hc _).trans hT.c2, (hc _).trans hT.c3, (hc _).trans hT.c4⟩
end
theorem Frame.set11 (w : World) (b : Nat) (v0 v1 v2 v3 v4 v5 v6 v7 v8 v9 v10 : Value) :
  Frame [b] w (((((((((((w.setCell ⟨b, 0, none⟩ v0).setCell ⟨b, 1, none⟩ v1).setCell ⟨b, 2, none⟩ v2).setCell ⟨b, 3, none⟩ v3).setCell ⟨b, 4, none⟩ v4).setCell ⟨b, 5, none⟩ v5).setCell ⟨b, 6, none⟩ v6).setCell ⟨b, 7, none⟩ v7).setCell ⟨b, 8, none⟩ v8).setCell ⟨b, 9, none⟩ v9).setCell ⟨b, 10, none⟩ v10) := by
 have hm : b ∈ [b] ∨ w.heap.size ≤ b := .inl (by simp)
 have k0 := Frame.setc (Frame.refl [b] w) hm 0 v0
 have k1 := Frame.setc k0 hm 1 v1
 have k2 := Frame.setc k1 hm 2 v2
 have k3 := Frame.setc k2 hm 3 v3
 have k4 := Frame.setc k3 hm 4 v4
 have k5 := Frame.setc k4 hm 5 v5
 have k6 := Frame.setc k5 hm 6 v6
 have k7 := Frame.setc k6 hm 7 v7
 have k8 := Frame.setc k7 hm 8 v8
 have k9 := Frame.setc k8 hm 9 v9
 have k10 := Frame.setc k9 hm 10 v10
 exact k10
theorem hload_okv {d : Int} {l : List (Int × Int)} (h : VOk l) : Hh.HloadOk d (rowV (partD d) true l) (rowV (partD d) false l) (zeroV l) (eLow l) (eHigh l) := by
 have ht := (h.total (part := partD d)).1
 have hs := h.sum
 refine ⟨Hh.rowV_load (hvok h) true, Hh.rowV_load (hvok h) false, by omega, (eLow_bd' h).2.2, fun h0 => ?_⟩
 have : l = [] := h.empty.1 (by omega)
 subst this
 exact ⟨rfl, rfl⟩
set_option maxRecDepth 100000 in
set_option maxHeartbeats 4000000 in
theorem sread_hdr (eb dn ln : Nat) (l : List (Int × Int)) (w : World) (hT : TensAt w)
  (hE : Eye w eb (natsB [dn, ln] ++ intsB [eLow l, eHigh l] ++ natsB [(zeroV l).toNat] ++ rowB (rowV (partD dn) true l) ++ rowB (rowV (partD dn) false l)))
  (hlen : (natsB [dn, ln] ++ intsB [eLow l, eHigh l] ++ natsB [(zeroV l).toNat] ++ rowB (rowV (partD dn) true l) ++ rowB (rowV (partD dn) false l)).length ≤ 262144) (hv : VOk l) (hl : l.length ≤ 1000) (hd : 1 ≤ dn ∧ dn ≤ 4) (hln : ln ≤ 9223372036854775808) :
  Calls Tryz.prog 68 #[.pointer (some ⟨eb, 0, none⟩)] w fun e w' => ∃ q Q, e = .returned (.tuple #[.agg #[.int .i64 2, .int .u64 0, .int .u64 0, .int .i64 0, .int .i64 0, .int .i64 (dn : Int), .int .u64 (ln : Int), .int .i64 0, .int .i64 0, .int .i64 0, .int .u64 0], coreHdr (some ⟨q, 0, none⟩), .bool true]) ∧
   Within Q w.heap.size w'.heap.size ∧ Hh.HdV w' q Q dn ln l ∧ Eye w' eb [] ∧ Frame [eb] w w' := by
 have hs := hv.sum
 have g0 := rowV_gd (part := partD dn) (below := true) hv.pos (by omega)
 have g1 := rowV_gd (part := partD dn) (below := false) hv.pos (by omega)
 have hprn : ∀ m : Nat, 0 < m → m ≤ 9223372036854775808 → 0 ≤ partD dn m ∧ partD dn m ≤ 1048576 := fun m h1 h2 => by have := partD_rng (d := dn) h1 h2; omega
 have HP0 : Hid (PutOk (rowV (partD dn) true l)) := putOk_row hprn hv
 have HP1 : Hid (PutOk (rowV (partD dn) false l)) := putOk_row hprn hv
 have hn0 : (rowV (partD dn) true l).length ≤ 1000 := Nat.le_trans rowV_len hl
 have hn1 : (rowV (partD dn) false l).length ≤ 1000 := Nat.le_trans rowV_len hl
 obtain ⟨t1, t2⟩ := hv.total (part := partD dn)
 have hz0 : zeroV l ≤ 9223372036854775807 := by
  have b := sumP_nonneg g0.pos
  have b' := sumP_nonneg g1.pos
  omega
 have hbd := eLow_bd' hv
 have HLO := Lib.hid (hload_okv (d := dn) hv)
 have hpr : ∀ a, 0 < a → a ≤ 9223372036854775808 → -9223372036854775808 ≤ partD dn a ∧ partD dn a ≤ 9223372036854775807 := fun a h0 h1 => by
  have := partD_rng (d := dn) h0 h1
  omega
 have HO0 : Hid (okP (rowV (partD dn) true l)) := rowV_ok hpr hv.ok
 have HO1 : Hid (okP (rowV (partD dn) false l)) := rowV_ok hpr hv.ok
 have HHV : Hid (∀ W b S, Hh.Hd W b S dn ln (rowV (partD dn) true l) (rowV (partD dn) false l) (zeroV l) (eLow l) (eHigh l) → Hh.HdV W b S dn ln l) := fun W b S h => h
 obtain ⟨ze, hze⟩ : ∃ n : Nat, zeroV l = (n : Int) := ⟨(zeroV l).toNat, by omega⟩
 rw [hze] at hz0 HLO HHV
 have HZE : (zeroV l).toNat = ze := by rw [hze]; rfl
 rw [HZE] at hE hlen
 obtain ⟨K0, hK0⟩ : ∃ k, rowV (partD dn) true l = k := ⟨_, rfl⟩
 obtain ⟨K1, hK1⟩ : ∃ k, rowV (partD dn) false l = k := ⟨_, rfl⟩
 rw [hK0] at HP0 hn0 HO0 HLO HHV hE hlen
 rw [hK1] at HP1 hn1 HO1 HLO HHV hE hlen
 obtain ⟨el, hel⟩ : ∃ z, eLow l = z := ⟨_, rfl⟩
 obtain ⟨eh, heh⟩ : ∃ z, eHigh l = z := ⟨_, rfl⟩
 rw [hel, heh] at hbd hE hlen HLO HHV
 have HBD := Lib.hid hbd
 have hsp : natsB [dn, ln] ++ intsB [el, eh] ++ natsB [ze] ++ rowB K0 ++ rowB K1 = natB dn ++ (natB ln ++ (natB (zigN el) ++ (natB (zigN eh) ++ (natB ze ++ (rowB K0 ++ (rowB K1 ++ [])))))) := by
  simp [natsB, intsB]
 rw [hsp] at hE hlen
 obtain ⟨r6, hr6⟩ : ∃ r, rowB K1 ++ [] = r := ⟨_, rfl⟩
 have HR6 := Lib.hid hr6
 rw [hr6] at hE hlen
 obtain ⟨r5, hr5⟩ : ∃ r, rowB K0 ++ r6 = r := ⟨_, rfl⟩
 have HR5 := Lib.hid hr5
 rw [hr5] at hE hlen
 have HLEN : Hid ((natB ze ++ r5).length ≤ 262144 ∧ (natB (zigN eh) ++ (natB ze ++ r5)).length ≤ 262144 ∧ (natB (zigN el) ++ (natB (zigN eh) ++ (natB ze ++ r5))).length ≤ 262144 ∧ (natB ln ++ (natB (zigN el) ++ (natB (zigN eh) ++ (natB ze ++ r5)))).length ≤ 262144 ∧ r5.length ≤ 262144 ∧ r6.length ≤ 262144) := by
  have e5 : r5.length = (rowB K0).length + r6.length := by rw [← hr5, List.length_append]
  simp only [List.length_append] at hlen ⊢
  refine ⟨?_, ?_, ?_, ?_, ?_, ?_⟩ <;> omega
 have hba : Below w.heap.size w (w.alloc (.cells #[.int .i64 0, .int .u64 0, .int .u64 0, .int .i64 0, .int .i64 0, .int .i64 0, .int .u64 0, .int .i64 0, .int .i64 0, .int .i64 0, .int .u64 0] 28)) := (Below.refl _ _).alloc (Nat.le_refl _) _
 have ar := At.new w #[.int .i64 0, .int .u64 0, .int .u64 0, .int .i64 0, .int .i64 0, .int .i64 0, .int .u64 0, .int .i64 0, .int .i64 0, .int .i64 0, .int .u64 0] 28
 have J0 := (EyJ.start hE).below hba
 have HTE : Hid (∀ W l', EyJ w W eb l' → TensAt W) := fun W l' h => tens_eye hT hE h.fr
 obtain ⟨n0, hk0⟩ : ∃ n, K0.length = n := ⟨_, rfl⟩
 obtain ⟨n1, hk1⟩ : ∃ n, K1.length = n := ⟨_, rfl⟩
 have HK := Lib.hid (And.intro hk0 hk1)
 rw [hk0] at hn0
 rw [hk1] at hn1
 clear hT hE hlen hsp hr5 hr6 hK0 hK1 hel heh hze hbd HZE hv hs g0 g1 hprn hpr t1 t2 hk0 hk1
 go_enter Tryz.func68, Tryz.ntmps68
 go_wp2_with fail
 obtain ⟨W0, hW0⟩ : ∃ W, w.alloc (.cells #[.int .i64 0, .int .u64 0, .int .u64 0, .int .i64 0, .int .i64 0, .int .i64 0, .int .u64 0, .int .i64 0, .int .i64 0, .int .i64 0, .int .u64 0] 28) = W := ⟨_, rfl⟩
 obtain ⟨rb, hrb⟩ : ∃ r, w.heap.size = r := ⟨_, rfl⟩
 have HRB : Hid (w.heap.size = rb) := hrb
 rw [hW0] at J0 ar
 rw [hrb] at ar
 simp only [hW0, hrb]
 have HJ0 := Lib.hid J0
 have HA0 := Lib.hid ar
 clear hW0 hrb J0 ar hba
 refine (esmall_any eb dn 4 _ W0 HJ0.out.eye (by omega) (by omega) (by have := HLEN.out; omega)).mono ?_
 rintro e w1 ⟨rfl, hE, hF⟩
 have HJ1 := Lib.hid (HJ0.out.read hE hF)
 have HA1 := Lib.hid (HJ0.out.at HA0.out hF (by have := HRB.out; omega))
 clear hE hF HJ0 HA0
 go_wp2_with fail
 refine (enat_any eb ln 9223372036854775808 _ w1 HJ1.out.eye (by omega) (by omega) (by have := HLEN.out; omega)).mono ?_
 rintro e w2 ⟨rfl, hE, hF⟩
 have HJ2 := Lib.hid (HJ1.out.read hE hF)
 have HA2 := Lib.hid (HJ1.out.at HA1.out hF (by have := HRB.out; omega))
 clear hE hF HJ1 HA1
 have hbe : Below w2.heap.size w2 (w2.alloc (.cells #[.int .i64 2, .int .u64 0, .int .u64 0, .int .i64 0, .int .i64 0, .int .i64 (dn : Int), .int .u64 (ln : Int), .int .i64 0, .int .i64 0, .int .i64 0, .int .u64 0] 28)) := (Below.refl _ _).alloc (Nat.le_refl _) _
 have HC3 := Lib.hid (At.new w2 #[.int .i64 2, .int .u64 0, .int .u64 0, .int .i64 0, .int .i64 0, .int .i64 (dn : Int), .int .u64 (ln : Int), .int .i64 0, .int .i64 0, .int .i64 0, .int .u64 0] 28)
 have HJ3 := Lib.hid (HJ2.out.below hbe)
 have HA3 := Lib.hid (HA2.out.below hbe)
 have HCB : Hid (w.heap.size ≤ w2.heap.size ∧ rb ≠ w2.heap.size) := ⟨HJ2.out.fr.size, fun e => by have := HA2.out.lt; omega⟩
 clear hbe HJ2 HA2
 go_wp2_with fail
 obtain ⟨W3, hW3⟩ : ∃ W, w2.alloc (.cells #[.int .i64 2, .int .u64 0, .int .u64 0, .int .i64 0, .int .i64 0, .int .i64 (dn : Int), .int .u64 (ln : Int), .int .i64 0, .int .i64 0, .int .i64 0, .int .u64 0] 28) = W := ⟨_, rfl⟩
 obtain ⟨cb, hcb⟩ : ∃ r, w2.heap.size = r := ⟨_, rfl⟩
 rw [hW3] at HC3 HJ3 HA3
 rw [hcb] at HC3 HCB
 simp only [hW3, hcb]
 clear hW3 hcb
 refine (eint_any eb el _ W3 HJ3.out.eye (by have := HBD.out; omega) (by have := HBD.out; omega) (by have := HLEN.out; omega)).mono ?_
 rintro e w4 ⟨rfl, hE, hF⟩
 have HJ4 := Lib.hid (HJ3.out.read hE hF)
 have HA4 := Lib.hid (HJ3.out.at HA3.out hF (by have := HRB.out; omega))
 have HC4 := Lib.hid (HJ3.out.at HC3.out hF (by have := HCB.out; omega))
 clear hE hF HJ3 HA3 HC3
 go_wp2_with fail
 refine (eint_any eb eh _ w4 HJ4.out.eye (by have := HBD.out; omega) (by have := HBD.out; omega) (by have := HLEN.out; omega)).mono ?_
 rintro e w5 ⟨rfl, hE, hF⟩
 have HJ5 := Lib.hid (HJ4.out.read hE hF)
 have HA5 := Lib.hid (HJ4.out.at HA4.out hF (by have := HRB.out; omega))
 have HC5 := Lib.hid (HJ4.out.at HC4.out hF (by have := HCB.out; omega))
 clear hE hF HJ4 HA4 HC4
 go_wp2_with fail
 refine (enat_any eb ze 9223372036854775807 _ w5 HJ5.out.eye (by omega) (by omega) (by have := HLEN.out; omega)).mono ?_
 rintro e w6 ⟨rfl, hE, hF⟩
 have HJ6 := Lib.hid (HJ5.out.read hE hF)
 have HA6 := Lib.hid (HJ5.out.at HA5.out hF (by have := HRB.out; omega))
 have HC6 := Lib.hid (HJ5.out.at HC5.out hF (by have := HCB.out; omega))
 clear hE hF HJ5 HA5 HC5
 go_wp2_with fail
 refine (rget_any eb 4096 K0 r6 w6 (by have := HJ6.out.eye; rw [← HR5.out] at this; exact this) HP0.out (by have := HK.out; omega) (by omega) (by have := HLEN.out; omega)).mono ?_
 rintro e w7 ⟨A0, c0, rfl, hR, hE, hF⟩
 have HR7 := Lib.hid hR
 have HJ7 := Lib.hid (HJ6.out.read hE hF)
 have HA7 := Lib.hid (HJ6.out.at HA6.out hF (by have := HRB.out; omega))
 have HC7 := Lib.hid (HJ6.out.at HC6.out hF (by have := HCB.out; omega))
 clear hE hF hR HJ6 HA6 HC6
 go_wp2_with fail
 refine (rget_any eb 4096 K1 [] w7 (by have := HJ7.out.eye; rw [← HR6.out] at this; exact this) HP1.out (by have := HK.out; omega) (by omega) (by simp)).mono ?_
 rintro e w8 ⟨A1, c1, rfl, hR, hE, hF⟩
 have HR8 := Lib.hid (rd_eye HJ7.out.eye HR7.out hF)
 have HS8 := Lib.hid hR
 have HJ8 := Lib.hid (HJ7.out.read hE hF)
 have HA8 := Lib.hid (HJ7.out.at HA7.out hF (by have := HRB.out; omega))
 have HC8 := Lib.hid (HJ7.out.at HC7.out hF (by have := HCB.out; omega))
 clear hE hF hR HJ7 HA7 HC7 HR7
 rw [HK.out.1, HK.out.2]
 have f8 := HC8.out.el
 have l8 := HC8.out.lt
 go_wp2_with fail
 refine (Hh.hload_any dn ln A0 n0 c0 K0 A1 n1 c1 K1 ze el eh w8 (HTE.out w8 _ HJ8.out) (by omega) (by omega) (by omega) (by omega) HK.out.1 HK.out.2 (by omega) (by omega) HR8.out HS8.out HO0.out HO1.out (by omega) (by omega) HBD.out.1 HBD.out.2.1).mono ?_
 rintro e w9 ⟨hLR, hb⟩
 rcases hLR with ⟨_, q, Q, rfl, hQ, hH⟩ | ⟨hno, _⟩
 rotate_left
 ·exact absurd HLO.out hno
 have HH := Lib.hid (HHV.out _ _ _ hH)
 have HQ := Lib.hid hQ
 have HQ8 : Hid (w.heap.size ≤ w8.heap.size) := HJ8.out.fr.size
 have HR8L : Hid (rb < w8.heap.size) := HA8.out.lt
 have HJ9 := Lib.hid (HJ8.out.below hb)
 have HA9 := Lib.hid (HA8.out.below hb)
 have HC9 := Lib.hid (HC8.out.below hb)
 clear hH hQ hb HJ8 HA8 HC8 HR8 HS8 f8 l8
 have f9 := HC9.out.el
 have l9 := HC9.out.lt
 have g9 := HA9.out.el
 have m9 := HA9.out.lt
 have hne : rb ≠ cb := HCB.out.2
 go_wp2
 have a10 := At.set11 HA9.out (.int .i64 2) (.int .u64 0) (.int .u64 0) (.int .i64 0) (.int .i64 0) (.int .i64 (dn : Int)) (.int .u64 (ln : Int)) (.int .i64 0) (.int .i64 0) (.int .i64 0) (.int .u64 0)
 have hF10 := Frame.set11 w9 rb (.int .i64 2) (.int .u64 0) (.int .u64 0) (.int .i64 0) (.int .i64 0) (.int .i64 (dn : Int)) (.int .u64 (ln : Int)) (.int .i64 0) (.int .i64 0) (.int .i64 0) (.int .u64 0)
 generalize (((((((((((w9.setCell ⟨rb, 0, none⟩ (.int .i64 2)).setCell ⟨rb, 1, none⟩ (.int .u64 0)).setCell ⟨rb, 2, none⟩ (.int .u64 0)).setCell ⟨rb, 3, none⟩ (.int .i64 0)).setCell ⟨rb, 4, none⟩ (.int .i64 0)).setCell ⟨rb, 5, none⟩ (.int .i64 (dn : Int))).setCell ⟨rb, 6, none⟩ (.int .u64 (ln : Int))).setCell ⟨rb, 7, none⟩ (.int .i64 0)).setCell ⟨rb, 8, none⟩ (.int .i64 0)).setCell ⟨rb, 9, none⟩ (.int .i64 0)).setCell ⟨rb, 10, none⟩ (.int .u64 0)) = W10 at a10 hF10 ⊢
 have d2 := a10.el
 have HJF := Lib.hid (HJ9.out.own hF10 (by have := HRB.out; omega))
 have hQ0 : Within Q w.heap.size W10.heap.size := fun j hj => ⟨Nat.le_trans HQ8.out (HQ.out j hj).1, Nat.lt_of_lt_of_le (HQ.out j hj).2 hF10.size⟩
 have hHF : Hh.HdV W10 q Q dn ln l := HH.out.frame hF10 (fun j hj hm => by simp only [List.mem_singleton] at hm; subst hm; have := (HQ.out j hj).1; have := HR8L.out; omega)
 exact bodyPost_ret (v := .tuple #[.agg #[.int .i64 2, .int .u64 0, .int .u64 0, .int .i64 0, .int .i64 0, .int .i64 (dn : Int), .int .u64 (ln : Int), .int .i64 0, .int .i64 0, .int .i64 0, .int .u64 0], .iface 112 (.agg #[.pointer (some ⟨q, 0, none⟩)]), .bool true]) (by simp only [results, Tryz.f68]; simp [go_sem, d2]) rfl ⟨q, Q, rfl, hQ0, hHF, HJF.out.eye, HJF.out.fr⟩
end Go.Proofs.YtlbnlmhcpephbaaGreatDoor

namespace Go.Proofs.YtlbnlmhcpephbaaGreatDoor
open Go.RowKit
section
variable {w W W' : World} {b : Nat} {l l' : List UInt8} {S : List Nat}
theorem EyJ.step (h : EyJ w W b l) (hF : Frame S W W') (hS : ∀ k ∈ S, w.heap.size ≤ k) : EyJ w W' b l :=
 ⟨h.eye.frame hF (fun hm => by have := hS b hm; have := h.lt; omega), ⟨hF.os.trans h.fr.os, hF.tape.trans h.fr.tape, hF.output.trans h.fr.output, Nat.le_trans h.fr.size hF.size, fun j hj hn => (hF.block j (Nat.lt_of_lt_of_le hj h.fr.size) (fun hm => by have := hS j hm; omega)).trans (h.fr.block j hj hn)⟩, h.lt⟩
end
structure LgJ (w W : World) (eb : Nat) (rest : List UInt8) (rb cb lb : Nat) (cfg lost : Array Value) : Prop where
 j : EyJ w W eb rest
 r : At W rb #[.int .i64 0, .int .u64 0, .int .u64 0, .int .i64 0, .int .i64 0, .int .i64 0, .int .u64 0, .int .i64 0, .int .i64 0, .int .i64 0, .int .u64 0] 28
 c : At W cb cfg 28
 l : At W lb lost 221
 ge : w.heap.size ≤ rb ∧ w.heap.size ≤ cb ∧ w.heap.size ≤ lb
 ne : rb ≠ cb
section
variable {w W W' : World} {eb rb cb lb : Nat} {rest rest' : List UInt8} {cfg lost : Array Value} {S : List Nat}
theorem LgJ.read (h : LgJ w W eb rest rb cb lb cfg lost) (hE : Eye W' eb rest') (hF : Frame [eb] W W') : LgJ w W' eb rest' rb cb lb cfg lost :=
 ⟨h.j.read hE hF, h.j.at h.r hF h.ge.1, h.j.at h.c hF h.ge.2.1, h.j.at h.l hF h.ge.2.2, h.ge, h.ne⟩
theorem LgJ.below (h : LgJ w W eb rest rb cb lb cfg lost) (hb : Below W.heap.size W W') : LgJ w W' eb rest rb cb lb cfg lost := ⟨h.j.below hb, h.r.below hb, h.c.below hb, h.l.below hb, h.ge, h.ne⟩
theorem LgJ.step (h : LgJ w W eb rest rb cb lb cfg lost) (hF : Frame S W W') {n : Nat} (hn : ∀ k ∈ S, n ≤ k) (h1 : w.heap.size ≤ n) (h2 : rb < n ∧ cb < n ∧ lb < n) : LgJ w W' eb rest rb cb lb cfg lost :=
 ⟨h.j.step hF fun k hk => Nat.le_trans h1 (hn k hk), hF.at h.r (fun hm => by have := hn _ hm; omega), hF.at h.c (fun hm => by have := hn _ hm; omega), hF.at h.l (fun hm => by have := hn _ hm; omega), h.ge, h.ne⟩
end
set_option maxRecDepth 100000 in
set_option maxHeartbeats 1000000 in
theorem spart_any (eb u v : Nat) (rest : List UInt8) (w : World) (h : Eye w eb (natB u ++ (natB v ++ rest))) (hu : u ≤ 4294967296) (hv : v ≤ 4294967296) (hl : rest.length ≤ 90000000) :
  Calls Tryz.prog 81 #[.pointer (some ⟨eb, 0, none⟩)] w fun e w' => e = .returned (.agg #[.int .u64 (u : Int), .int .u64 (v : Int)]) ∧ Eye w' eb rest ∧ Frame [eb] w w' := by
 have hba : Below w.heap.size w (w.alloc (.cells #[.int .u64 0, .int .u64 0] 25)) := (Below.refl _ _).alloc (Nat.le_refl _) _
 have ar := At.new w #[.int .u64 0, .int .u64 0] 25
 have J0 := (EyJ.start h).below hba
 have HVL : Hid ((natB v).length ≤ 10) := natB_len (by omega)
 clear h
 go_enter Tryz.func81, Tryz.ntmps81
 go_wp2_with fail
 obtain ⟨W0, hW0⟩ : ∃ W, w.alloc (.cells #[.int .u64 0, .int .u64 0] 25) = W := ⟨_, rfl⟩
 obtain ⟨rb, hrb⟩ : ∃ r, w.heap.size = r := ⟨_, rfl⟩
 have HRB : Hid (w.heap.size = rb) := hrb
 rw [hW0] at J0 ar
 rw [hrb] at ar
 simp only [hW0, hrb]
 have HJ0 := Lib.hid J0
 have HA0 := Lib.hid ar
 clear hW0 hrb J0 ar hba
 refine (enat_any eb u 4294967296 _ W0 HJ0.out.eye (by omega) (by omega) (by rw [List.length_append]; have := HVL.out; omega)).mono ?_
 rintro e w1 ⟨rfl, hE, hF⟩
 have HJ1 := Lib.hid (HJ0.out.read hE hF)
 have HA1 := Lib.hid (HJ0.out.at HA0.out hF (by have := HRB.out; omega))
 clear hE hF HJ0 HA0
 go_wp2_with fail
 refine (enat_any eb v 4294967296 _ w1 HJ1.out.eye (by omega) (by omega) (by omega)).mono ?_
 rintro e w2 ⟨rfl, hE, hF⟩
 have HJ2 := Lib.hid (HJ1.out.read hE hF)
 have HA2 := Lib.hid (HJ1.out.at HA1.out hF (by have := HRB.out; omega))
 clear hE hF HJ1 HA1
 have g2 := HA2.out.two
 have m2 := HA2.out.lt
 go_wp2
 have d2 := (HA2.out.set2 (.int .u64 (u : Int)) (.int .u64 (v : Int))).two
 have hF2 := ((Frame.refl [rb] w2).setc (b := rb) (.inl (by simp)) 0 (.int .u64 (u : Int))).setc (b := rb) (.inl (by simp)) 1 (.int .u64 (v : Int))
 have HJF := Lib.hid (HJ2.out.own hF2 (by have := HRB.out; omega))
 exact bodyPost_ret (v := .agg #[.int .u64 (u : Int), .int .u64 (v : Int)]) (by simp only [results, Tryz.f81]; simp [go_sem, d2]) rfl ⟨rfl, HJF.out.eye, HJF.out.fr⟩
end Go.Proofs.YtlbnlmhcpephbaaGreatDoor

namespace Go.Proofs.YtlbnlmhcpephbaaGreatDoor
open Go.RowKit
def CfW (cb : Nat) (cfg : Array Value) (W : World) : Prop := At W cb cfg 28
theorem CfW.at {cb : Nat} {cfg : Array Value} {W : World} (h : CfW cb cfg W) : At W cb cfg 28 := h
def RlW (xb lb : Nat) (rows lost : Array Value) (W : World) : Prop := At W xb rows 223 ∧ At W lb lost 221
theorem RlW.at {xb lb : Nat} {rows lost : Array Value} {W : World} (h : RlW xb lb rows lost W) : At W xb rows 223 ∧ At W lb lost 221 := h
structure LgR (w W : World) (eb rb cb lb xb : Nat) (cfg lost : Array Value) (A0 : Option Addr) (n0 c0 : Nat) (K0 : List (Int × Int)) (A1 : Option Addr) (n1 c1 : Nat) (K1 : List (Int × Int)) : Prop where
 j : LgJ w W eb [] rb cb lb cfg lost
 x : At W xb #[.slice A0 n0 c0, .slice A1 n1 c1] 223
 r0 : RdP W A0 K0
 r1 : RdP W A1 K1
section
variable {w W W' : World} {eb rb cb lb xb n0 c0 n1 c1 : Nat} {rest rest' : List UInt8} {cfg lost : Array Value} {A0 A1 : Option Addr} {K0 K1 : List (Int × Int)}
theorem LgJ.fin (h : LgJ w W eb [] rb cb lb cfg lost) (ax : At W xb #[.slice none 0 0, .slice none 0 0] 223) (hx : w.heap.size ≤ xb) (hn : xb ≠ rb ∧ xb ≠ cb ∧ xb ≠ lb) (h0 : RdP W A0 K0) (h1 : RdP W A1 K1) :
  LgR w ((W.setCell ⟨xb, 0, none⟩ (.slice A0 n0 c0)).setCell ⟨xb, 1, none⟩ (.slice A1 n1 c1)) eb rb cb lb xb cfg lost A0 n0 c0 K0 A1 n1 c1 K1 := by
 have hF : Frame [xb] W ((W.setCell ⟨xb, 0, none⟩ (.slice A0 n0 c0)).setCell ⟨xb, 1, none⟩ (.slice A1 n1 c1)) := ((Frame.refl [xb] W).setc (b := xb) (.inl (by simp)) 0 _).setc (b := xb) (.inl (by simp)) 1 _
 have hr : ∀ (A : Option Addr) (K : List (Int × Int)), RdP W A K → RdP ((W.setCell ⟨xb, 0, none⟩ (.slice A0 n0 c0)).setCell ⟨xb, 1, none⟩ (.slice A1 n1 c1)) A K := fun A K hR => by
  by_cases hk : K = []
  ·subst hk; exact RdP.nil _ _
  ·refine hF.rd hR fun g hg hm => ?_
   obtain ⟨g', o, e, hlt, hc, _⟩ := hR.at 0 (by cases K with | nil => exact absurd rfl hk | cons _ _ => simp)
   rw [hg] at e
   cases e
   simp only [List.mem_singleton] at hm
   subst hm
   unfold At at ax
   simp only [Nat.zero_mul, Nat.add_zero] at hc
   rw [World.cell?] at hc
   simp [ax] at hc
   match o, hc with
   | 0, hc => simp at hc
   | 1, hc => simp at hc
   | o + 2, hc => simp at hc
 exact ⟨⟨h.j.own hF hx, hF.at h.r (by simp only [List.mem_singleton]; exact fun e => hn.1 e.symm), hF.at h.c (by simp only [List.mem_singleton]; exact fun e => hn.2.1 e.symm), hF.at h.l (by simp only [List.mem_singleton]; exact fun e => hn.2.2 e.symm), h.ge, h.ne⟩, ax.set2 _ _, hr _ _ h0, hr _ _ h1⟩
theorem LgJ.new (h : LgJ w W eb rest rb cb lb cfg lost) : w.heap.size ≤ W.heap.size ∧ W.heap.size ≠ rb ∧ W.heap.size ≠ cb ∧ W.heap.size ≠ lb :=
 ⟨h.j.fr.size, fun e => by have := h.r.lt; omega, fun e => by have := h.c.lt; omega, fun e => by have := h.l.lt; omega⟩
end
set_option maxRecDepth 100000 in
set_option maxHeartbeats 6000000 in
theorem sread_log (eb un vn mn : Nat) (s : Bool) (part : Nat → Int) (rep stand : Int → Int) (l : List (Int × Int)) (w : World) (hc : Cs un vn 0 false part rep stand) (hm : 1 ≤ mn ∧ mn ≤ 4096)
  (hE : Eye w eb (natsB [un, vn, (sideZ s).toNat, mn] ++ intsB [eLow l, eHigh l] ++ natsB [(zeroV l).toNat, (negV l - sumP (keptP s mn (rowV part true l))).toNat, (posV l - sumP (keptP s mn (rowV part false l))).toNat] ++ rowB (keptP s mn (rowV part true l)) ++ rowB (keptP s mn (rowV part false l))))
  (hlen : (natsB [un, vn, (sideZ s).toNat, mn] ++ intsB [eLow l, eHigh l] ++ natsB [(zeroV l).toNat, (negV l - sumP (keptP s mn (rowV part true l))).toNat, (posV l - sumP (keptP s mn (rowV part false l))).toNat] ++ rowB (keptP s mn (rowV part true l)) ++ rowB (keptP s mn (rowV part false l))).length ≤ 262144) (hv : VOk l) (hl : l.length ≤ 1000) :
  Calls Tryz.prog 67 #[.pointer (some ⟨eb, 0, none⟩)] w fun e w' => ∃ q Q, e = .returned (.tuple #[.agg #[.int .i64 1, .int .u64 (un : Int), .int .u64 (vn : Int), .int .i64 (sideZ s), .int .i64 (mn : Int), .int .i64 0, .int .u64 0, .int .i64 0, .int .i64 0, .int .i64 0, .int .u64 0], coreLog (some ⟨q, 0, none⟩), .bool true]) ∧
   Within Q w.heap.size w'.heap.size ∧ LsV w' q Q part rep un vn s mn l ∧ Eye w' eb [] ∧ Frame [eb] w w' := by
 have huv : un ≤ 4294967296 ∧ vn ≤ 4294967296 := by
  rcases hc with ⟨h, _⟩ | ⟨_, _, u', v', L, e1, e2, ht, _⟩
  ·cases h
  ·have := ht.uv; have := ht.v1; omega
 have hNEW := lsnew_yes un vn part rep stand s mn
 have HNEW := Lib.hid fun W => hNEW W hc (by omega)
 have hzz : ∃ n : Nat, sideZ s = (n : Int) ∧ n ≤ 1 := by
  cases s
  ·exact ⟨1, rfl, by omega⟩
  ·exact ⟨0, rfl, by omega⟩
 obtain ⟨zn, hzn, hz1⟩ := hzz
 have HZN : (sideZ s).toNat = zn := by rw [hzn]; rfl
 have hs := hv.sum
 have hrng := hc.ps.rng
 have g0 := rowV_gd (part := part) (below := true) hv.pos (by omega)
 have g1 := rowV_gd (part := part) (below := false) hv.pos (by omega)
 have HP0 : Hid (PutOk (keptP s mn (rowV part true l))) := (putOk_row hrng hv).filter _
 have HP1 : Hid (PutOk (keptP s mn (rowV part false l))) := (putOk_row hrng hv).filter _
 have hn0 : (keptP s mn (rowV part true l)).length ≤ mn := by
  have := win_len (s := s) (kept_gd g0) (kept_win (s := s) (most := (mn : Int)) g0 (by omega)) (by omega)
  omega
 have hn1 : (keptP s mn (rowV part false l)).length ≤ mn := by
  have := win_len (s := s) (kept_gd g1) (kept_win (s := s) (most := (mn : Int)) g1 (by omega)) (by omega)
  omega
 obtain ⟨t1, t2⟩ := hv.total (part := part)
 have hl0 : 0 ≤ negV l - sumP (keptP s mn (rowV part true l)) ∧ negV l - sumP (keptP s mn (rowV part true l)) ≤ 9223372036854775807 := by
  have a := sumP_filter_le g0.pos fun x : Int × Int => decide (gap s (endP s (rowV part true l)) x.1 < mn)
  have b := sumP_nonneg g1.pos
  rw [negV_row hv.pos (by omega)] at a t1
  have : sumP (keptP s mn (rowV part true l)) = sumP ((rowV part true l).filter fun x : Int × Int => decide (gap s (endP s (rowV part true l)) x.1 < mn)) := rfl
  omega
 have hl1 : 0 ≤ posV l - sumP (keptP s mn (rowV part false l)) ∧ posV l - sumP (keptP s mn (rowV part false l)) ≤ 9223372036854775807 := by
  have a := sumP_filter_le g1.pos fun x : Int × Int => decide (gap s (endP s (rowV part false l)) x.1 < mn)
  have b := sumP_nonneg g0.pos
  rw [posV_row hv.pos (by omega)] at a t1
  have : sumP (keptP s mn (rowV part false l)) = sumP ((rowV part false l).filter fun x : Int × Int => decide (gap s (endP s (rowV part false l)) x.1 < mn)) := rfl
  omega
 have hz0 : zeroV l ≤ 9223372036854775807 := by
  have b := sumP_nonneg g0.pos
  have b' := sumP_nonneg g1.pos
  omega
 have hbd := eLow_bd' hv
 have HEE : Hid (sumP l = 0 → eLow l = 0 ∧ eHigh l = 0) := fun h0 => by
  have : l = [] := hv.empty.1 h0
  subst this
  exact ⟨rfl, rfl⟩
 have HV := Lib.hid hv
 have HOWN := Lib.hid fun (bb : Nat) (B : List Nat) (A0 : Option Addr) (n0 cp0 : Nat) (A1 : Option Addr) (n1 cp1 : Nat) (W : World) (h : BnV W bb B false part rep s mn []) k0 k1 R0 R1 => bload_own bb B false part rep s mn [] l A0 n0 cp0 A1 n1 cp1 W h hv k0 k1 R0 R1
 obtain ⟨ze, hze⟩ : ∃ n : Nat, zeroV l = (n : Int) := ⟨(zeroV l).toNat, by omega⟩
 obtain ⟨lo0, hlo0⟩ : ∃ n : Nat, negV l - sumP (keptP s mn (rowV part true l)) = (n : Int) := ⟨(negV l - sumP (keptP s mn (rowV part true l))).toNat, by omega⟩
 obtain ⟨lo1, hlo1⟩ : ∃ n : Nat, posV l - sumP (keptP s mn (rowV part false l)) = (n : Int) := ⟨(posV l - sumP (keptP s mn (rowV part false l))).toNat, by omega⟩
 rw [hze] at hz0 HOWN
 rw [hlo0] at hl0 HOWN
 rw [hlo1] at hl1 HOWN
 have hZE : (zeroV l).toNat = ze ∧ (negV l - sumP (keptP s mn (rowV part true l))).toNat = lo0 ∧ (posV l - sumP (keptP s mn (rowV part false l))).toNat = lo1 := ⟨by rw [hze]; rfl, by rw [hlo0]; rfl, by rw [hlo1]; rfl⟩
 rw [HZN, hZE.1, hZE.2.1, hZE.2.2] at hE hlen
 rw [hzn] at HNEW ⊢
 obtain ⟨K0, hK0⟩ : ∃ k, keptP s mn (rowV part true l) = k := ⟨_, rfl⟩
 obtain ⟨K1, hK1⟩ : ∃ k, keptP s mn (rowV part false l) = k := ⟨_, rfl⟩
 rw [hK0] at HP0 hn0 HOWN hE hlen
 rw [hK1] at HP1 hn1 HOWN hE hlen
 obtain ⟨el, hel⟩ : ∃ z, eLow l = z := ⟨_, rfl⟩
 obtain ⟨eh, heh⟩ : ∃ z, eHigh l = z := ⟨_, rfl⟩
 have HLV : Hid (∀ W q Q, Ls W q Q part rep un vn s mn l el eh → LsV W q Q part rep un vn s mn l) := fun W q Q h => by
  show Ls _ _ _ _ _ _ _ _ _ _ (eLow l) (eHigh l)
  rw [hel, heh]; exact h
 rw [hel, heh] at hbd hE hlen HEE
 have HBD := Lib.hid hbd
 have hsp : natsB [un, vn, zn, mn] ++ intsB [el, eh] ++ natsB [ze, lo0, lo1] ++ rowB K0 ++ rowB K1 = natB un ++ (natB vn ++ (natB zn ++ (natB mn ++ (natB (zigN el) ++ (natB (zigN eh) ++ (natB ze ++ (natB lo0 ++ (natB lo1 ++ (rowB K0 ++ (rowB K1 ++ [])))))))))) := by
  simp [natsB, intsB]
 rw [hsp] at hE hlen
 obtain ⟨r6, hr6⟩ : ∃ r, rowB K1 ++ [] = r := ⟨_, rfl⟩
 have HR6 := Lib.hid hr6
 rw [hr6] at hE hlen
 obtain ⟨r5, hr5⟩ : ∃ r, rowB K0 ++ r6 = r := ⟨_, rfl⟩
 have HR5 := Lib.hid hr5
 rw [hr5] at hE hlen
 have e5 : r5.length = (rowB K0).length + r6.length := by rw [← hr5, List.length_append]
 obtain ⟨r4, hr4⟩ : ∃ r, natB lo1 ++ r5 = r := ⟨_, rfl⟩
 have HR4 := Lib.hid hr4
 rw [hr4] at hE hlen
 have e4 : r4.length = (natB lo1).length + r5.length := by rw [← hr4, List.length_append]
 obtain ⟨r3, hr3⟩ : ∃ r, natB lo0 ++ r4 = r := ⟨_, rfl⟩
 have HR3 := Lib.hid hr3
 rw [hr3] at hE hlen
 have e3 : r3.length = (natB lo0).length + r4.length := by rw [← hr3, List.length_append]
 obtain ⟨r2, hr2⟩ : ∃ r, natB ze ++ r3 = r := ⟨_, rfl⟩
 have HR2 := Lib.hid hr2
 rw [hr2] at hE hlen
 have e2 : r2.length = (natB ze).length + r3.length := by rw [← hr2, List.length_append]
 obtain ⟨r1, hr1⟩ : ∃ r, natB (zigN eh) ++ r2 = r := ⟨_, rfl⟩
 have HR1 := Lib.hid hr1
 rw [hr1] at hE hlen
 have e1 : r1.length = (natB (zigN eh)).length + r2.length := by rw [← hr1, List.length_append]
 obtain ⟨r0, hr0⟩ : ∃ r, natB (zigN el) ++ r1 = r := ⟨_, rfl⟩
 have HR0 := Lib.hid hr0
 rw [hr0] at hE hlen
 have e0 : r0.length = (natB (zigN el)).length + r1.length := by rw [← hr0, List.length_append]
 have HLEN : Hid ((natB zn ++ (natB mn ++ r0)).length ≤ 262144 ∧ (natB mn ++ r0).length ≤ 262144 ∧ r0.length ≤ 262144 ∧ r1.length ≤ 262144 ∧ r2.length ≤ 262144 ∧ r3.length ≤ 262144 ∧ r4.length ≤ 262144 ∧ r5.length ≤ 262144 ∧ r6.length ≤ 262144) := by
  simp only [List.length_append] at hlen ⊢
  refine ⟨?_, ?_, ?_, ?_, ?_, ?_, ?_, ?_, ?_⟩ <;> omega
 have hba : Below w.heap.size w (w.alloc (.cells #[.int .i64 0, .int .u64 0, .int .u64 0, .int .i64 0, .int .i64 0, .int .i64 0, .int .u64 0, .int .i64 0, .int .i64 0, .int .i64 0, .int .u64 0] 28)) := (Below.refl _ _).alloc (Nat.le_refl _) _
 have ar := At.new w #[.int .i64 0, .int .u64 0, .int .u64 0, .int .i64 0, .int .i64 0, .int .i64 0, .int .u64 0, .int .i64 0, .int .i64 0, .int .i64 0, .int .u64 0] 28
 have J0 := (EyJ.start hE).below hba
 obtain ⟨n0, hk0⟩ : ∃ n, K0.length = n := ⟨_, rfl⟩
 obtain ⟨n1, hk1⟩ : ∃ n, K1.length = n := ⟨_, rfl⟩
 have HK := Lib.hid (And.intro hk0 hk1)
 rw [hk0] at hn0
 rw [hk1] at hn1
 clear hE hlen hsp hr6 hr5 hr4 hr3 hr2 hr1 hr0 e0 e1 e2 e3 e4 e5 hK0 hK1 hel heh hze hlo0 hlo1 hbd hZE hv hs g0 g1 t1 t2 hk0 hk1 hc hNEW hzn HZN hrng
 go_enter Tryz.func67, Tryz.ntmps67
 go_wp2_with fail
 obtain ⟨W0, hW0⟩ : ∃ W, w.alloc (.cells #[.int .i64 0, .int .u64 0, .int .u64 0, .int .i64 0, .int .i64 0, .int .i64 0, .int .u64 0, .int .i64 0, .int .i64 0, .int .i64 0, .int .u64 0] 28) = W := ⟨_, rfl⟩
 obtain ⟨rb, hrb⟩ : ∃ r, w.heap.size = r := ⟨_, rfl⟩
 have HRB : Hid (w.heap.size = rb) := hrb
 rw [hW0] at J0 ar
 rw [hrb] at ar
 simp only [hW0, hrb]
 have HJ0 := Lib.hid J0
 have HA0 := Lib.hid ar
 clear hW0 hrb J0 ar hba
 refine (spart_any eb un vn _ W0 HJ0.out.eye huv.1 huv.2 (by have := HLEN.out; omega)).mono ?_
 rintro e w1 ⟨rfl, hE, hF⟩
 have HJ1 := Lib.hid (HJ0.out.read hE hF)
 have HA1 := Lib.hid (HJ0.out.at HA0.out hF (by have := HRB.out; omega))
 clear hE hF HJ0 HA0
 go_wp2_with fail
 refine (esmall_any eb zn 1 _ w1 HJ1.out.eye (by omega) (by omega) (by have := HLEN.out; omega)).mono ?_
 rintro e w2 ⟨rfl, hE, hF⟩
 have HJ2 := Lib.hid (HJ1.out.read hE hF)
 have HA2 := Lib.hid (HJ1.out.at HA1.out hF (by have := HRB.out; omega))
 clear hE hF HJ1 HA1
 go_wp2_with fail
 refine (esmall_any eb mn 4096 _ w2 HJ2.out.eye (by omega) (by omega) (by have := HLEN.out; omega)).mono ?_
 rintro e w3 ⟨rfl, hE, hF⟩
 have HJ3 := Lib.hid (HJ2.out.read hE hF)
 have HA3 := Lib.hid (HJ2.out.at HA2.out hF (by have := HRB.out; omega))
 clear hE hF HJ2 HA2
 have hbe : Below w3.heap.size w3 (w3.alloc (.cells #[.int .i64 1, .int .u64 (un : Int), .int .u64 (vn : Int), .int .i64 (zn : Int), .int .i64 (mn : Int), .int .i64 0, .int .u64 0, .int .i64 0, .int .i64 0, .int .i64 0, .int .u64 0] 28)) := (Below.refl _ _).alloc (Nat.le_refl _) _
 have HC4 := Lib.hid (At.new w3 #[.int .i64 1, .int .u64 (un : Int), .int .u64 (vn : Int), .int .i64 (zn : Int), .int .i64 (mn : Int), .int .i64 0, .int .u64 0, .int .i64 0, .int .i64 0, .int .i64 0, .int .u64 0] 28)
 have HJ4 := Lib.hid (HJ3.out.below hbe)
 have HA4 := Lib.hid (HA3.out.below hbe)
 have HCB : Hid (w.heap.size ≤ w3.heap.size ∧ rb ≠ w3.heap.size) := ⟨HJ3.out.fr.size, fun e => by have := HA3.out.lt; omega⟩
 clear hbe HJ3 HA3
 go_wp2_with fail
 obtain ⟨W4, hW4⟩ : ∃ W, w3.alloc (.cells #[.int .i64 1, .int .u64 (un : Int), .int .u64 (vn : Int), .int .i64 (zn : Int), .int .i64 (mn : Int), .int .i64 0, .int .u64 0, .int .i64 0, .int .i64 0, .int .i64 0, .int .u64 0] 28) = W := ⟨_, rfl⟩
 obtain ⟨cb, hcb⟩ : ∃ r, w3.heap.size = r := ⟨_, rfl⟩
 rw [hW4] at HC4 HJ4 HA4
 rw [hcb] at HC4 HCB
 simp only [hW4, hcb]
 clear hW4 hcb
 refine (eint_any eb el _ W4 (by have := HJ4.out.eye; rw [← HR0.out] at this; exact this) (by have := HBD.out; omega) (by have := HBD.out; omega) (by have := HLEN.out; omega)).mono ?_
 rintro e w5 ⟨rfl, hE, hF⟩
 have HJ5 := Lib.hid (HJ4.out.read hE hF)
 have HA5 := Lib.hid (HJ4.out.at HA4.out hF (by have := HRB.out; omega))
 have HC5 := Lib.hid (HJ4.out.at HC4.out hF (by have := HCB.out; omega))
 clear hE hF HJ4 HA4 HC4
 go_wp2_with fail
 refine (eint_any eb eh _ w5 (by have := HJ5.out.eye; rw [← HR1.out] at this; exact this) (by have := HBD.out; omega) (by have := HBD.out; omega) (by have := HLEN.out; omega)).mono ?_
 rintro e w6 ⟨rfl, hE, hF⟩
 have HJ6 := Lib.hid (HJ5.out.read hE hF)
 have HA6 := Lib.hid (HJ5.out.at HA5.out hF (by have := HRB.out; omega))
 have HC6 := Lib.hid (HJ5.out.at HC5.out hF (by have := HCB.out; omega))
 clear hE hF HJ5 HA5 HC5
 go_wp2_with fail
 refine (enat_any eb ze 9223372036854775807 _ w6 (by have := HJ6.out.eye; rw [← HR2.out] at this; exact this) (by omega) (by omega) (by have := HLEN.out; omega)).mono ?_
 rintro e w7 ⟨rfl, hE, hF⟩
 have HJ7 := Lib.hid (HJ6.out.read hE hF)
 have HA7 := Lib.hid (HJ6.out.at HA6.out hF (by have := HRB.out; omega))
 have HC7 := Lib.hid (HJ6.out.at HC6.out hF (by have := HCB.out; omega))
 clear hE hF HJ6 HA6 HC6
 go_wp2_with fail
 refine (enat_any eb lo0 9223372036854775807 _ w7 (by have := HJ7.out.eye; rw [← HR3.out] at this; exact this) (by omega) (by omega) (by have := HLEN.out; omega)).mono ?_
 rintro e w8 ⟨rfl, hE, hF⟩
 have HJ8 := Lib.hid (HJ7.out.read hE hF)
 have HA8 := Lib.hid (HJ7.out.at HA7.out hF (by have := HRB.out; omega))
 have HC8 := Lib.hid (HJ7.out.at HC7.out hF (by have := HCB.out; omega))
 clear hE hF HJ7 HA7 HC7
 go_wp2_with fail
 refine (enat_any eb lo1 9223372036854775807 _ w8 (by have := HJ8.out.eye; rw [← HR4.out] at this; exact this) (by omega) (by omega) (by have := HLEN.out; omega)).mono ?_
 rintro e w9 ⟨rfl, hE, hF⟩
 have HJ9 := Lib.hid (HJ8.out.read hE hF)
 have HA9 := Lib.hid (HJ8.out.at HA8.out hF (by have := HRB.out; omega))
 have HC9 := Lib.hid (HJ8.out.at HC8.out hF (by have := HCB.out; omega))
 clear hE hF HJ8 HA8 HC8
 have hbe : Below w9.heap.size w9 (w9.alloc (.cells #[.int .u64 (lo0 : Int), .int .u64 (lo1 : Int)] 221)) := (Below.refl _ _).alloc (Nat.le_refl _) _
 have HG : Hid (LgJ w (w9.alloc (.cells #[.int .u64 (lo0 : Int), .int .u64 (lo1 : Int)] 221)) eb r5 rb cb w9.heap.size #[.int .i64 1, .int .u64 (un : Int), .int .u64 (vn : Int), .int .i64 (zn : Int), .int .i64 (mn : Int), .int .i64 0, .int .u64 0, .int .i64 0, .int .i64 0, .int .i64 0, .int .u64 0] #[.int .u64 (lo0 : Int), .int .u64 (lo1 : Int)]) :=
  ⟨HJ9.out.below hbe, HA9.out.below hbe, HC9.out.below hbe, At.new _ _ _, ⟨by have := HRB.out; omega, HCB.out.1, HJ9.out.fr.size⟩, HCB.out.2⟩
 clear hbe HJ9 HA9 HC9 HR0 HR1 HR2 HR3 HR4 huv hz1 HRB HCB
 go_wp2_with fail
 obtain ⟨W10, hW10⟩ : ∃ W, w9.alloc (.cells #[.int .u64 (lo0 : Int), .int .u64 (lo1 : Int)] 221) = W := ⟨_, rfl⟩
 obtain ⟨lb, hlb⟩ : ∃ r, w9.heap.size = r := ⟨_, rfl⟩
 rw [hW10, hlb] at HG
 simp only [hW10, hlb]
 clear hW10 hlb
 go_cut [10] (fun v wc => ∃ xb A0 c0 A1 c1, v = .pointer (some ⟨xb, 0, none⟩) ∧ Hid (LgR w wc eb rb cb lb xb #[.int .i64 1, .int .u64 (un : Int), .int .u64 (vn : Int), .int .i64 (zn : Int), .int .i64 (mn : Int), .int .i64 0, .int .u64 0, .int .i64 0, .int .i64 0, .int .i64 0, .int .u64 0] #[.int .u64 (lo0 : Int), .int .u64 (lo1 : Int)] A0 n0 c0 K0 A1 n1 c1 K1))
 case first =>
  have HG1 := Lib.hid (HG.out.below (Below.refl _ _).drew)
  obtain ⟨W11, hW11⟩ : ∃ W, W10.drew = W := ⟨_, rfl⟩
  rw [hW11] at HG1
  have hC : CfW cb #[.int .i64 1, .int .u64 (un : Int), .int .u64 (vn : Int), .int .i64 (zn : Int), .int .i64 (mn : Int), .int .i64 0, .int .u64 0, .int .i64 0, .int .i64 0, .int .i64 0, .int .u64 0] W11 := HG1.out.c
  haveI hne : Nonempty (Held (CfW cb #[.int .i64 1, .int .u64 (un : Int), .int .u64 (vn : Int), .int .i64 (zn : Int), .int .i64 (mn : Int), .int .i64 0, .int .u64 0, .int .i64 0, .int .i64 0, .int .i64 0, .int .u64 0])) := ⟨⟨W11, hC⟩⟩
  have hfar1 := fun v : Held (CfW cb #[.int .i64 1, .int .u64 (un : Int), .int .u64 (vn : Int), .int .i64 (zn : Int), .int .i64 (mn : Int), .int .i64 0, .int .u64 0, .int .i64 0, .int .i64 0, .int .i64 0, .int .u64 0]) => v.held.at.el
  refine wp_region_noPanic ?_
  refine wp_region_held_drew (S := HeldS (CfW cb #[.int .i64 1, .int .u64 (un : Int), .int .u64 (vn : Int), .int .i64 (zn : Int), .int .i64 (mn : Int), .int .i64 0, .int .u64 0, .int .i64 0, .int .i64 0, .int .i64 0, .int .u64 0])) (by kernel_rfl) (by rw [hW11]; exact HeldS.mk' hC) (fun hHeld => ?_)
  rw [hW11] at hHeld ⊢
  clear hW11 hC HG
  refine wpAnyH_run0 [true, true, true, false, true, true, true] 5 (by kernel_rfl) (by kernel_rfl) (fun _ _ _ _ h => h) (by kernel_rfl) hHeld ?_
  simp only [runOps_true, runOps_false, runOps_nil]
  repeat (first | go_big_quiet_skip | (go_big_quiet_want; go_big_quiet_op; go_big_quiet_on))
  refine wpQuiet_nil ?_
  clear hfar1
  refine wpAnyH_ready (rs := [3, 9]) (by kernel_rfl) (by simp) ?_
  refine AllReadyH.cons rfl (fun K hK => ?_) (AllReadyH.cons rfl (fun K hK => ?_) (AllReadyH.nil))
  ·go_simp
   go_wp2_with (go_at_call 83; refine (rget_any eb mn K0 r6 W11 (by have := HG1.out.j.eye; rw [← HR5.out] at this; exact this) HP0.out (by have := HK.out; omega) (by omega) (by have := HLEN.out; omega)).mono ?_; rintro e w2 ⟨A0, c0, rfl, hR, hE, hF⟩)
   rw [HK.out.1]
   have HR02 := Lib.hid hR
   have HG2 := Lib.hid (HG1.out.read hE hF)
   refine hK.out _ _ (HeldS.mk' HG2.out.c) (fun hHeld => ?_)
   clear hK K hR hE hF HG1
   refine wpAnyH_ready (rs := [7, 9]) (by kernel_rfl) (by simp) ?_
   refine AllReadyH.cons rfl (fun K hK => ?_) (AllReadyH.cons rfl (fun K hK => ?_) (AllReadyH.nil))
   ·go_simp
    go_wp2_with (go_at_call 83; refine (rget_any eb mn K1 [] w2 (by have := HG2.out.j.eye; rw [← HR6.out] at this; exact this) HP1.out (by have := HK.out; omega) (by omega) (by simp)).mono ?_; rintro e w3 ⟨A1, c1, rfl, hR, hE, hF⟩)
    rw [HK.out.2]
    have HR13 := Lib.hid hR
    have HR03 := Lib.hid (rd_eye HG2.out.j.eye HR02.out hF)
    have HG3 := Lib.hid (HG2.out.read hE hF)
    refine hK.out _ _ (HeldS.mk' HG3.out.c) (fun hHeld => ?_)
    clear hK K hR hE hF HG2 HR02
    refine wpAnyH_run0 [false, false, false, false, false, false, false, false, true] 2 (by kernel_rfl) (by kernel_rfl) (fun _ _ _ _ h => h) (by kernel_rfl) hHeld ?_
    simp only [runOps_true, runOps_false, runOps_nil]
    repeat (first | go_big_quiet_skip | (go_big_quiet_want; go_big_quiet_op; go_big_quiet_on))
    refine wpQuiet_nil ?_
    refine wpAnyH_ready (rs := [9]) (by kernel_rfl) (by simp) ?_
    refine AllReadyH.cons rfl (fun K hK => ?_) (AllReadyH.nil)
    have hbe : Below w3.heap.size w3 (w3.alloc (.cells #[.slice none 0 0, .slice none 0 0] 223)) := (Below.refl _ _).alloc (Nat.le_refl _) _
    have HXG := Lib.hid HG3.out.new
    have HG4 := Lib.hid (HG3.out.below hbe)
    have HX4 := Lib.hid (At.new w3 #[.slice none 0 0, .slice none 0 0] 223)
    have HR04 := Lib.hid (HR03.out.below hbe)
    have HR14 := Lib.hid (HR13.out.below hbe)
    go_simp
    go_wp2
    obtain ⟨w4, hW⟩ : ∃ W, w3.alloc (.cells #[.slice none 0 0, .slice none 0 0] 223) = W := ⟨_, rfl⟩
    obtain ⟨xb, hxb⟩ : ∃ r, w3.heap.size = r := ⟨_, rfl⟩
    rw [hW] at HG4 HX4 HR04 HR14
    rw [hxb] at HX4 HXG
    simp only [hW, hxb]
    refine hK.out _ _ (HeldS.mk' HG4.out.c) (fun hHeld => ?_)
    clear hK K hbe hW hxb HG3 HR03 HR13
    refine wpAnyH_ready (rs := [10]) (by kernel_rfl) (by simp) ?_
    refine AllReadyH.cons rfl (fun K hK => ?_) (AllReadyH.nil)
    have HFIN := Lib.hid (HG4.out.fin (n0 := n0) (c0 := c0) (n1 := n1) (c1 := c1) HX4.out HXG.out.1 HXG.out.2 HR04.out HR14.out)
    have gx := HX4.out.two
    have lx := HX4.out.lt
    go_simp
    go_wp2
    refine hK.out _ _ (HeldS.mk' HFIN.out.j.c) (fun hHeld => ?_)
    clear hK K
    refine wpAnyH_done (by kernel_rfl) ?_ _
    refine NoPanic.normal ?_
    clear hne hHeld gx lx
    go_wp2
    go_meet
    case rel => exact ⟨xb, A0, c0, A1, c1, rfl, HFIN⟩
   ·have hbe : Below w2.heap.size w2 (w2.alloc (.cells #[.slice none 0 0, .slice none 0 0] 223)) := (Below.refl _ _).alloc (Nat.le_refl _) _
    have HXG := Lib.hid HG2.out.new
    have HG3 := Lib.hid (HG2.out.below hbe)
    have HX3 := Lib.hid (At.new w2 #[.slice none 0 0, .slice none 0 0] 223)
    have HR03 := Lib.hid (HR02.out.below hbe)
    go_simp
    go_wp2
    obtain ⟨w3, hW⟩ : ∃ W, w2.alloc (.cells #[.slice none 0 0, .slice none 0 0] 223) = W := ⟨_, rfl⟩
    obtain ⟨xb, hxb⟩ : ∃ r, w2.heap.size = r := ⟨_, rfl⟩
    rw [hW] at HG3 HX3 HR03
    rw [hxb] at HX3 HXG
    simp only [hW, hxb]
    refine hK.out _ _ (HeldS.mk' HG3.out.c) (fun hHeld => ?_)
    clear hK K hbe hW hxb HG2 HR02
    refine wpAnyH_ready (rs := [7]) (by kernel_rfl) (by simp) ?_
    refine AllReadyH.cons rfl (fun K hK => ?_) (AllReadyH.nil)
    go_simp
    go_wp2_with (go_at_call 83; refine (rget_any eb mn K1 [] w3 (by have := HG3.out.j.eye; rw [← HR6.out] at this; exact this) HP1.out (by have := HK.out; omega) (by omega) (by simp)).mono ?_; rintro e w4 ⟨A1, c1, rfl, hR, hE, hF⟩)
    rw [HK.out.2]
    have HR14 := Lib.hid hR
    have HR04 := Lib.hid (rd_eye HG3.out.j.eye HR03.out hF)
    have HX4 := Lib.hid (HG3.out.j.at HX3.out hF HXG.out.1)
    have HG4 := Lib.hid (HG3.out.read hE hF)
    refine hK.out _ _ (HeldS.mk' HG4.out.c) (fun hHeld => ?_)
    clear hK K hR hE hF HG3 HX3 HR03
    refine wpAnyH_run0 [false, false, false, false, false, false, false, false, true] 1 (by kernel_rfl) (by kernel_rfl) (fun _ _ _ _ h => h) (by kernel_rfl) hHeld ?_
    simp only [runOps_true, runOps_false, runOps_nil]
    repeat (first | go_big_quiet_skip | (go_big_quiet_want; go_big_quiet_op; go_big_quiet_on))
    refine wpQuiet_nil ?_
    refine wpAnyH_ready (rs := [10]) (by kernel_rfl) (by simp) ?_
    refine AllReadyH.cons rfl (fun K hK => ?_) (AllReadyH.nil)
    have HFIN := Lib.hid (HG4.out.fin (n0 := n0) (c0 := c0) (n1 := n1) (c1 := c1) HX4.out HXG.out.1 HXG.out.2 HR04.out HR14.out)
    have gx := HX4.out.two
    have lx := HX4.out.lt
    go_simp
    go_wp2
    refine hK.out _ _ (HeldS.mk' HFIN.out.j.c) (fun hHeld => ?_)
    clear hK K
    refine wpAnyH_done (by kernel_rfl) ?_ _
    refine NoPanic.normal ?_
    clear hne hHeld gx lx
    go_wp2
    go_meet
    case rel => exact ⟨xb, A0, c0, A1, c1, rfl, HFIN⟩
  ·have hbe : Below W11.heap.size W11 (W11.alloc (.cells #[.slice none 0 0, .slice none 0 0] 223)) := (Below.refl _ _).alloc (Nat.le_refl _) _
   have HXG := Lib.hid HG1.out.new
   have HG2 := Lib.hid (HG1.out.below hbe)
   have HX2 := Lib.hid (At.new W11 #[.slice none 0 0, .slice none 0 0] 223)
   go_simp
   go_wp2
   obtain ⟨w2, hW⟩ : ∃ W, W11.alloc (.cells #[.slice none 0 0, .slice none 0 0] 223) = W := ⟨_, rfl⟩
   obtain ⟨xb, hxb⟩ : ∃ r, W11.heap.size = r := ⟨_, rfl⟩
   rw [hW] at HG2 HX2
   rw [hxb] at HX2 HXG
   simp only [hW, hxb]
   refine hK.out _ _ (HeldS.mk' HG2.out.c) (fun hHeld => ?_)
   clear hK K hbe hW hxb HG1
   refine wpAnyH_ready (rs := [3]) (by kernel_rfl) (by simp) ?_
   refine AllReadyH.cons rfl (fun K hK => ?_) (AllReadyH.nil)
   go_simp
   go_wp2_with (go_at_call 83; refine (rget_any eb mn K0 r6 w2 (by have := HG2.out.j.eye; rw [← HR5.out] at this; exact this) HP0.out (by have := HK.out; omega) (by omega) (by have := HLEN.out; omega)).mono ?_; rintro e w3 ⟨A0, c0, rfl, hR, hE, hF⟩)
   rw [HK.out.1]
   have HR03 := Lib.hid hR
   have HX3 := Lib.hid (HG2.out.j.at HX2.out hF HXG.out.1)
   have HG3 := Lib.hid (HG2.out.read hE hF)
   refine hK.out _ _ (HeldS.mk' HG3.out.c) (fun hHeld => ?_)
   clear hK K hR hE hF HG2 HX2
   refine wpAnyH_ready (rs := [7]) (by kernel_rfl) (by simp) ?_
   refine AllReadyH.cons rfl (fun K hK => ?_) (AllReadyH.nil)
   go_simp
   go_wp2_with (go_at_call 83; refine (rget_any eb mn K1 [] w3 (by have := HG3.out.j.eye; rw [← HR6.out] at this; exact this) HP1.out (by have := HK.out; omega) (by omega) (by simp)).mono ?_; rintro e w4 ⟨A1, c1, rfl, hR, hE, hF⟩)
   rw [HK.out.2]
   have HR14 := Lib.hid hR
   have HR04 := Lib.hid (rd_eye HG3.out.j.eye HR03.out hF)
   have HX4 := Lib.hid (HG3.out.j.at HX3.out hF HXG.out.1)
   have HG4 := Lib.hid (HG3.out.read hE hF)
   refine hK.out _ _ (HeldS.mk' HG4.out.c) (fun hHeld => ?_)
   clear hK K hR hE hF HG3 HX3 HR03
   refine wpAnyH_run0 [false, false, false, false, false, false, false, false, true] 1 (by kernel_rfl) (by kernel_rfl) (fun _ _ _ _ h => h) (by kernel_rfl) hHeld ?_
   simp only [runOps_true, runOps_false, runOps_nil]
   repeat (first | go_big_quiet_skip | (go_big_quiet_want; go_big_quiet_op; go_big_quiet_on))
   refine wpQuiet_nil ?_
   refine wpAnyH_ready (rs := [10]) (by kernel_rfl) (by simp) ?_
   refine AllReadyH.cons rfl (fun K hK => ?_) (AllReadyH.nil)
   have HFIN := Lib.hid (HG4.out.fin (n0 := n0) (c0 := c0) (n1 := n1) (c1 := c1) HX4.out HXG.out.1 HXG.out.2 HR04.out HR14.out)
   have gx := HX4.out.two
   have lx := HX4.out.lt
   go_simp
   go_wp2
   refine hK.out _ _ (HeldS.mk' HFIN.out.j.c) (fun hHeld => ?_)
   clear hK K
   refine wpAnyH_done (by kernel_rfl) ?_ _
   refine NoPanic.normal ?_
   clear hne hHeld gx lx
   go_wp2
   go_meet
   case rel => exact ⟨xb, A0, c0, A1, c1, rfl, HFIN⟩
 case rest =>
  obtain ⟨xb, A0, c0, A1, c1, rfl, HL⟩ := hcut
  clear HG
  obtain ⟨wa, hwa⟩ : ∃ wa, wc = wa := ⟨_, rfl⟩
  rw [hwa] at HL ⊢
  clear hwa
  have fc := HL.out.j.c.el
  have lc := HL.out.j.c.lt
  go_wp2_with fail
  refine (HNEW.out wa).mono ?_
  rintro e w2 ⟨⟨q, Q, rfl, hQ, hL⟩, hb⟩
  have HG2 := Lib.hid (HL.out.j.below hb)
  have HX2 := Lib.hid (HL.out.x.below hb)
  have HR02 := Lib.hid (HL.out.r0.below hb)
  have HR12 := Lib.hid (HL.out.r1.below hb)
  have HLT : Hid (rb < wa.heap.size ∧ cb < wa.heap.size ∧ lb < wa.heap.size ∧ xb < wa.heap.size ∧ w.heap.size ≤ wa.heap.size) := ⟨HL.out.j.r.lt, HL.out.j.c.lt, HL.out.j.l.lt, HL.out.x.lt, HL.out.j.j.fr.size⟩
  obtain ⟨bb, B, hQB, hLB⟩ := hL
  have HQW : Hid (∀ k ∈ Q, wa.heap.size ≤ k) := fun k hk => (hQ k hk).1
  have HQB := Lib.hid hQB
  have HLB := Lib.hid hLB
  clear hb hQ hQB hLB HL fc lc HNEW
  go_wp2_with fail
  have HG3 := Lib.hid (HG2.out.below (Below.refl _ _).drew)
  have HX3 := Lib.hid (HX2.out.below (Below.refl _ _).drew)
  have HR03 := Lib.hid (HR02.out.below (Below.refl _ _).drew)
  have HR13 := Lib.hid (HR12.out.below (Below.refl _ _).drew)
  have HLB3 := Lib.hid (HLB.out.below (Below.refl _ _).drew)
  obtain ⟨W3, hW3⟩ : ∃ W, w2.drew = W := ⟨_, rfl⟩
  rw [hW3] at HG3 HX3 HR03 HR13 HLB3
  have hC : RlW xb lb #[.slice A0 n0 c0, .slice A1 n1 c1] #[.int .u64 (lo0 : Int), .int .u64 (lo1 : Int)] W3 := ⟨HX3.out, HG3.out.l⟩
  haveI hne : Nonempty (Held (RlW xb lb #[.slice A0 n0 c0, .slice A1 n1 c1] #[.int .u64 (lo0 : Int), .int .u64 (lo1 : Int)])) := ⟨⟨W3, hC⟩⟩
  have hfar1 := fun v : Held (RlW xb lb #[.slice A0 n0 c0, .slice A1 n1 c1] #[.int .u64 (lo0 : Int), .int .u64 (lo1 : Int)]) => v.held.at.1.two
  have hfar2 := fun v : Held (RlW xb lb #[.slice A0 n0 c0, .slice A1 n1 c1] #[.int .u64 (lo0 : Int), .int .u64 (lo1 : Int)]) => v.held.at.2.two
  refine wp_region_noPanic ?_
  refine wp_region_held_drew (S := HeldS (RlW xb lb #[.slice A0 n0 c0, .slice A1 n1 c1] #[.int .u64 (lo0 : Int), .int .u64 (lo1 : Int)])) (by kernel_rfl) (by rw [hW3]; exact HeldS.mk' hC) (fun hHeld => ?_)
  rw [hW3] at hHeld ⊢
  clear hW3 hC HG2 HX2 HR02 HR12 HLB
  refine wpAnyH_run0 [true] 22 (by kernel_rfl) (by kernel_rfl) (fun _ _ _ _ h => h) (by kernel_rfl) hHeld ?_
  simp only [runOps_true, runOps_false, runOps_nil]
  repeat (first | go_big_quiet_skip | (go_big_quiet_want; go_big_quiet_op; go_big_quiet_on))
  refine wpQuiet_nil ?_
  refine wpAnyH_ready (rs := [1]) (by kernel_rfl) (by simp) ?_
  refine AllReadyH.cons rfl (fun K hK => ?_) AllReadyH.nil
  go_simp
  go_wp2_with (go_at_call 84; refine (ebad_any eb _ W3 HG3.out.j.eye).mono ?_; rintro e w4 ⟨rfl, rfl⟩)
  refine hK.out _ _ ?_ (fun hHeld => ?_)
  clear hK K
  ·exact hHeld
  refine wpAnyH_run0 [false, false, true, true, true, true, true, true, true, false, true, true, true] 11 (by kernel_rfl) (by kernel_rfl) (fun _ _ _ _ h => h) (by kernel_rfl) hHeld ?_
  simp only [runOps_true, runOps_false, runOps_nil]
  repeat (first | go_big_quiet_skip | (go_big_quiet_want; go_big_quiet_op; go_big_quiet_on))
  refine wpQuiet_nil ?_
  refine wpAnyH_ready (rs := [9]) (by kernel_rfl) (by simp) ?_
  refine AllReadyH.cons rfl (fun K hK => ?_) AllReadyH.nil
  go_simp
  go_wp2_with (go_at_call 85; refine (lsbins_at q _ _ _ _ _ _ _ W3 HLB3.out.at').mono ?_; rintro e w4 ⟨rfl, rfl⟩)
  refine hK.out _ _ ?_ (fun hHeld => ?_)
  clear hK K
  ·exact hHeld
  have HBQ : Hid (∀ k ∈ B, wa.heap.size ≤ k) := fun k hk => HQW.out k (by rw [HQB.out]; simp [hk])
  have HQQ : Hid (wa.heap.size ≤ q) := HQW.out q (by rw [HQB.out]; simp)
  refine wpAnyH_ready (rs := [13]) (by kernel_rfl) (by simp) ?_
  refine AllReadyH.cons rfl (fun K hK => ?_) AllReadyH.nil
  go_simp
  go_wp2_with (go_at_call 86; refine (HOWN.out bb B A0 n0 c0 A1 n1 c1 W3 HLB3.out.bn HK.out.1 HK.out.2 HR03.out HR13.out).mono ?_; rintro e w4 ⟨rfl, B', hg, hX, hF⟩)
  refine hK.out _ _ ?_ (fun hHeld => ?_)
  clear hK K
  ·have hlt := HLT.out
   exact HeldS.mk' ⟨hF.at HX3.out (fun hm => by have := HBQ.out _ hm; omega), hF.at HG3.out.l (fun hm => by have := HBQ.out _ hm; omega)⟩
  have HG4 := Lib.hid (HG3.out.step hF HBQ.out HLT.out.2.2.2.2 ⟨HLT.out.1, HLT.out.2.1, HLT.out.2.2.1⟩)
  have HX4 : Hid (At w4 xb #[.slice A0 n0 c0, .slice A1 n1 c1] 223) := hF.at HX3.out (fun hm => by have := HBQ.out _ hm; have := HLT.out; omega)
  have HLB4 := Lib.hid (HLB3.out.binned hg hX hF)
  have HBQ4 : Hid (∀ k ∈ q :: B', wa.heap.size ≤ k) := fun k hk => by
   rcases List.mem_cons.1 hk with rfl | hk
   ·exact HQQ.out
   ·rcases hg k hk with h1 | h1
    ·exact HBQ.out k h1
    ·have h2 := HG3.out.c.lt
     have h3 := HLB3.out.at'.lt
     have h4 := HQQ.out
     omega
  have HSET : Hid (Calls Tryz.prog 87 #[.pointer (some ⟨q, 0, none⟩), .int .i64 el, .int .i64 eh] w4 fun e w' => e = .returned (.bool true) ∧ Ls w' q (q :: B') part rep un vn s mn l el eh ∧ Frame (q :: B') w4 w') :=
   (lsset_k q (q :: B') part rep un vn s mn l _ _ el eh w4 ⟨bb, B', rfl, HLB4.out⟩ HV.out).mono fun e w' h => by
    rcases h with ⟨_, h1, h2, h3⟩ | ⟨hno, _, _⟩
    ·exact ⟨h1, h2, h3⟩
    ·exact absurd ⟨HBD.out.2.2, HEE.out⟩ hno
  clear hg hX hF HOWN HG3 HX3 HR03 HR13 HLB3
  refine wpAnyH_run0 [false, false, false, false, false, false, false, false, false, false, false, false, false, false, true, true, true, true, true, true] 3 (by kernel_rfl) (by kernel_rfl) (fun _ _ _ _ h => h) (by kernel_rfl) hHeld ?_
  simp only [runOps_true, runOps_false, runOps_nil]
  repeat (first | go_big_quiet_skip | (go_big_quiet_want; go_big_quiet_op; go_big_quiet_on))
  refine wpQuiet_nil ?_
  refine wpAnyH_ready (rs := [20]) (by kernel_rfl) (by simp) ?_
  refine AllReadyH.cons rfl (fun K hK => ?_) AllReadyH.nil
  go_simp
  go_wp2_with (go_at_call 87; refine HSET.out.mono ?_; rintro e w5 ⟨rfl, hL5, hF5⟩)
  refine hK.out _ _ ?_ (fun hHeld => ?_)
  clear hK K
  ·have hlt := HLT.out
   exact HeldS.mk' ⟨hF5.at HX4.out (fun hm => by have := HBQ4.out _ hm; omega), hF5.at HG4.out.l (fun hm => by have := HBQ4.out _ hm; omega)⟩
  have HG5 := Lib.hid (HG4.out.step hF5 HBQ4.out HLT.out.2.2.2.2 ⟨HLT.out.1, HLT.out.2.1, HLT.out.2.2.1⟩)
  have HL5 := Lib.hid (HLV.out _ _ _ hL5)
  clear hL5 hF5 HSET HG4 HX4 HLB4
  refine wpAnyH_run0 [false, false, false, false, false, false, false, false, false, false, false, false, false, false, false, false, false, false, false, false, false, true, true] 0 (by kernel_rfl) (by kernel_rfl) (fun _ _ _ _ h => h) (by kernel_rfl) hHeld ?_
  simp only [runOps_true, runOps_false, runOps_nil]
  repeat (first | go_big_quiet_skip | (go_big_quiet_want; go_big_quiet_op; go_big_quiet_on))
  refine wpQuiet_nil ?_
  refine wpAnyH_done (by kernel_rfl) ?_ _
  refine NoPanic.normal ?_
  clear hne hHeld hfar1 hfar2
  obtain ⟨w6, hw6⟩ : ∃ W, w5 = W := ⟨_, rfl⟩
  rw [hw6] at HG5 HL5 ⊢
  clear hw6
  have f9 := HG5.out.c.el
  have l9 := HG5.out.c.lt
  have g9 := HG5.out.r.el
  have m9 := HG5.out.r.lt
  have hne' : rb ≠ cb := HG5.out.ne
  go_wp2
  have a10 := At.set11 HG5.out.r (.int .i64 1) (.int .u64 (un : Int)) (.int .u64 (vn : Int)) (.int .i64 (zn : Int)) (.int .i64 (mn : Int)) (.int .i64 0) (.int .u64 0) (.int .i64 0) (.int .i64 0) (.int .i64 0) (.int .u64 0)
  have hF10 := Frame.set11 w6 rb (.int .i64 1) (.int .u64 (un : Int)) (.int .u64 (vn : Int)) (.int .i64 (zn : Int)) (.int .i64 (mn : Int)) (.int .i64 0) (.int .u64 0) (.int .i64 0) (.int .i64 0) (.int .i64 0) (.int .u64 0)
  generalize (((((((((((w6.setCell ⟨rb, 0, none⟩ (.int .i64 1)).setCell ⟨rb, 1, none⟩ (.int .u64 (un : Int))).setCell ⟨rb, 2, none⟩ (.int .u64 (vn : Int))).setCell ⟨rb, 3, none⟩ (.int .i64 (zn : Int))).setCell ⟨rb, 4, none⟩ (.int .i64 (mn : Int))).setCell ⟨rb, 5, none⟩ (.int .i64 0)).setCell ⟨rb, 6, none⟩ (.int .u64 0)).setCell ⟨rb, 7, none⟩ (.int .i64 0)).setCell ⟨rb, 8, none⟩ (.int .i64 0)).setCell ⟨rb, 9, none⟩ (.int .i64 0)).setCell ⟨rb, 10, none⟩ (.int .u64 0)) = W10 at a10 hF10 ⊢
  have d2 := a10.el
  have HJF := Lib.hid (HG5.out.j.own hF10 HG5.out.ge.1)
  have hlt5 := Ls.lt HL5.out
  have hQ0 : Within (q :: B') w.heap.size W10.heap.size := fun j hj => ⟨Nat.le_trans HLT.out.2.2.2.2 (HBQ4.out j hj), Nat.lt_of_lt_of_le (hlt5 j hj) hF10.size⟩
  have hHF : LsV W10 q (q :: B') part rep un vn s mn l := Ls.frame HL5.out hF10 (fun j hj hm => by simp only [List.mem_singleton] at hm; subst hm; have := HBQ4.out j hj; have := HLT.out.1; omega)
  exact bodyPost_ret (v := .tuple #[.agg #[.int .i64 1, .int .u64 (un : Int), .int .u64 (vn : Int), .int .i64 (zn : Int), .int .i64 (mn : Int), .int .i64 0, .int .u64 0, .int .i64 0, .int .i64 0, .int .i64 0, .int .u64 0], .iface 105 (.agg #[.pointer (some ⟨q, 0, none⟩)]), .bool true]) (by simp only [results, Tryz.f67]; simp [go_sem, d2]) rfl ⟨q, q :: B', rfl, hQ0, hHF, HJF.out.eye, HJF.out.fr⟩
end Go.Proofs.YtlbnlmhcpephbaaGreatDoor

namespace Go.Proofs.YtlbnlmhcpephbaaGreatDoor
open Go.RowKit
def RdR (eb : Nat) (cv : Value) (T : TypeId) (X : World → Nat → List Nat → Prop) (w : World) (e : Ending) (w' : World) : Prop :=
 ∃ q Q, e = .returned (.tuple #[cv, .iface T (.agg #[.pointer (some ⟨q, 0, none⟩)]), .bool true]) ∧ Within Q w.heap.size w'.heap.size ∧ X w' q Q ∧ Eye w' eb [] ∧ Frame [eb] w w'
set_option maxRecDepth 100000 in
set_option maxHeartbeats 1000000 in
theorem sreads_log (eb : Nat) (kd pn pd sd mo dg li de fa wi wo : Int) (T : TypeId) (X : World → Nat → List Nat → Prop) (hX : ∀ W W' q Q S, X W q Q → Frame S W W' → Apart Q S → X W' q Q) (w : World) (hlt : eb < w.heap.size)
  (hR : ∀ W, Below w.heap.size w W → Calls Tryz.prog 67 #[.pointer (some ⟨eb, 0, none⟩)] W fun e w' => RdR eb (.agg #[.int .i64 kd, .int .u64 pn, .int .u64 pd, .int .i64 sd, .int .i64 mo, .int .i64 dg, .int .u64 li, .int .i64 de, .int .i64 fa, .int .i64 wi, .int .u64 wo]) T X W e w') :
  Calls Tryz.prog 50 #[.int .i64 1, .pointer (some ⟨eb, 0, none⟩)] w fun e w' => RdR eb (.agg #[.int .i64 kd, .int .u64 pn, .int .u64 pd, .int .i64 sd, .int .i64 mo, .int .i64 dg, .int .u64 li, .int .i64 de, .int .i64 fa, .int .i64 wi, .int .u64 wo]) T X w e w' := by
 have hba : Below w.heap.size w (w.alloc (.cells #[.int .i64 0, .int .u64 0, .int .u64 0, .int .i64 0, .int .i64 0, .int .i64 0, .int .u64 0, .int .i64 0, .int .i64 0, .int .i64 0, .int .u64 0] 28)) := (Below.refl _ _).alloc (Nat.le_refl _) _
 have ar := At.new w #[.int .i64 0, .int .u64 0, .int .u64 0, .int .i64 0, .int .i64 0, .int .i64 0, .int .u64 0, .int .i64 0, .int .i64 0, .int .i64 0, .int .u64 0] 28
 have HR := Lib.hid hR
 have HX := Lib.hid hX
 have HLT := Lib.hid hlt
 clear hR hX hlt
 go_enter Tryz.func50, Tryz.ntmps50
 go_wp2_with fail
 obtain ⟨W0, hW0⟩ : ∃ W, w.alloc (.cells #[.int .i64 0, .int .u64 0, .int .u64 0, .int .i64 0, .int .i64 0, .int .i64 0, .int .u64 0, .int .i64 0, .int .i64 0, .int .i64 0, .int .u64 0] 28) = W := ⟨_, rfl⟩
 obtain ⟨rb, hrb⟩ : ∃ r, w.heap.size = r := ⟨_, rfl⟩
 have HRB : Hid (w.heap.size = rb) := hrb
 rw [hW0] at hba ar
 rw [hrb] at ar
 simp only [hW0, hrb]
 have HBA := Lib.hid hba
 have HA0 := Lib.hid ar
 clear hW0 hrb hba ar
 refine (HR.out W0 HBA.out).mono ?_
 rintro e w2 ⟨q, Q, rfl, hQ, hx, hE, hF⟩
 have HQ := Lib.hid hQ
 have HXX := Lib.hid hx
 have HE := Lib.hid hE
 have HF : Hid (Frame [eb] w w2) := (Frame.of_below HBA.out).trans hF
 have HA2 := Lib.hid (hF.at HA0.out (by simp only [List.mem_singleton]; have := HRB.out; have := HLT.out; omega))
 have HQL : Hid (rb < W0.heap.size) := HA0.out.lt
 clear hQ hx hE hF HA0 HR
 have g9 := HA2.out.el
 have m9 := HA2.out.lt
 go_wp2
 have a10 := At.set11 HA2.out (.int .i64 kd) (.int .u64 pn) (.int .u64 pd) (.int .i64 sd) (.int .i64 mo) (.int .i64 dg) (.int .u64 li) (.int .i64 de) (.int .i64 fa) (.int .i64 wi) (.int .u64 wo)
 have hF10 := Frame.set11 w2 rb (.int .i64 kd) (.int .u64 pn) (.int .u64 pd) (.int .i64 sd) (.int .i64 mo) (.int .i64 dg) (.int .u64 li) (.int .i64 de) (.int .i64 fa) (.int .i64 wi) (.int .u64 wo)
 generalize (((((((((((w2.setCell ⟨rb, 0, none⟩ (.int .i64 kd)).setCell ⟨rb, 1, none⟩ (.int .u64 pn)).setCell ⟨rb, 2, none⟩ (.int .u64 pd)).setCell ⟨rb, 3, none⟩ (.int .i64 sd)).setCell ⟨rb, 4, none⟩ (.int .i64 mo)).setCell ⟨rb, 5, none⟩ (.int .i64 dg)).setCell ⟨rb, 6, none⟩ (.int .u64 li)).setCell ⟨rb, 7, none⟩ (.int .i64 de)).setCell ⟨rb, 8, none⟩ (.int .i64 fa)).setCell ⟨rb, 9, none⟩ (.int .i64 wi)).setCell ⟨rb, 10, none⟩ (.int .u64 wo)) = W10 at a10 hF10 ⊢
 have d2 := a10.el
 have hQ0 : Within Q w.heap.size W10.heap.size := fun j hj => ⟨Nat.le_trans HBA.out.size (HQ.out j hj).1, Nat.lt_of_lt_of_le (HQ.out j hj).2 hF10.size⟩
 have hx10 : X W10 q Q := HX.out _ _ _ _ _ HXX.out hF10 (fun j hj hm => by simp only [List.mem_singleton] at hm; subst hm; have := (HQ.out j hj).1; have := HQL.out; omega)
 have hE10 : Eye W10 eb [] := HE.out.frame hF10 (by simp only [List.mem_singleton]; have := HRB.out; have := HLT.out; omega)
 have hFF : Frame [eb] w W10 := ⟨hF10.os.trans HF.out.os, hF10.tape.trans HF.out.tape, hF10.output.trans HF.out.output, Nat.le_trans HF.out.size hF10.size, fun j hj hn => (hF10.block j (Nat.lt_of_lt_of_le hj HF.out.size) (by simp only [List.mem_singleton]; have := HRB.out; omega)).trans (HF.out.block j hj hn)⟩
 exact bodyPost_ret (v := .tuple #[.agg #[.int .i64 kd, .int .u64 pn, .int .u64 pd, .int .i64 sd, .int .i64 mo, .int .i64 dg, .int .u64 li, .int .i64 de, .int .i64 fa, .int .i64 wi, .int .u64 wo], .iface T (.agg #[.pointer (some ⟨q, 0, none⟩)]), .bool true]) (by simp only [results, Tryz.f50]; simp [go_sem, d2]) rfl ⟨q, Q, rfl, hQ0, hx10, hE10, hFF⟩
set_option maxRecDepth 100000 in
set_option maxHeartbeats 1000000 in
theorem sreads_hdr (eb : Nat) (kd pn pd sd mo dg li de fa wi wo : Int) (T : TypeId) (X : World → Nat → List Nat → Prop) (hX : ∀ W W' q Q S, X W q Q → Frame S W W' → Apart Q S → X W' q Q) (w : World) (hlt : eb < w.heap.size)
  (hR : ∀ W, Below w.heap.size w W → Calls Tryz.prog 68 #[.pointer (some ⟨eb, 0, none⟩)] W fun e w' => RdR eb (.agg #[.int .i64 kd, .int .u64 pn, .int .u64 pd, .int .i64 sd, .int .i64 mo, .int .i64 dg, .int .u64 li, .int .i64 de, .int .i64 fa, .int .i64 wi, .int .u64 wo]) T X W e w') :
  Calls Tryz.prog 50 #[.int .i64 2, .pointer (some ⟨eb, 0, none⟩)] w fun e w' => RdR eb (.agg #[.int .i64 kd, .int .u64 pn, .int .u64 pd, .int .i64 sd, .int .i64 mo, .int .i64 dg, .int .u64 li, .int .i64 de, .int .i64 fa, .int .i64 wi, .int .u64 wo]) T X w e w' := by
 have hba : Below w.heap.size w (w.alloc (.cells #[.int .i64 0, .int .u64 0, .int .u64 0, .int .i64 0, .int .i64 0, .int .i64 0, .int .u64 0, .int .i64 0, .int .i64 0, .int .i64 0, .int .u64 0] 28)) := (Below.refl _ _).alloc (Nat.le_refl _) _
 have ar := At.new w #[.int .i64 0, .int .u64 0, .int .u64 0, .int .i64 0, .int .i64 0, .int .i64 0, .int .u64 0, .int .i64 0, .int .i64 0, .int .i64 0, .int .u64 0] 28
 have HR := Lib.hid hR
 have HX := Lib.hid hX
 have HLT := Lib.hid hlt
 clear hR hX hlt
 go_enter Tryz.func50, Tryz.ntmps50
 go_wp2_with fail
 obtain ⟨W0, hW0⟩ : ∃ W, w.alloc (.cells #[.int .i64 0, .int .u64 0, .int .u64 0, .int .i64 0, .int .i64 0, .int .i64 0, .int .u64 0, .int .i64 0, .int .i64 0, .int .i64 0, .int .u64 0] 28) = W := ⟨_, rfl⟩
 obtain ⟨rb, hrb⟩ : ∃ r, w.heap.size = r := ⟨_, rfl⟩
 have HRB : Hid (w.heap.size = rb) := hrb
 rw [hW0] at hba ar
 rw [hrb] at ar
 simp only [hW0, hrb]
 have HBA := Lib.hid hba
 have HA0 := Lib.hid ar
 clear hW0 hrb hba ar
 refine (HR.out W0 HBA.out).mono ?_
 rintro e w2 ⟨q, Q, rfl, hQ, hx, hE, hF⟩
 have HQ := Lib.hid hQ
 have HXX := Lib.hid hx
 have HE := Lib.hid hE
 have HF : Hid (Frame [eb] w w2) := (Frame.of_below HBA.out).trans hF
 have HA2 := Lib.hid (hF.at HA0.out (by simp only [List.mem_singleton]; have := HRB.out; have := HLT.out; omega))
 have HQL : Hid (rb < W0.heap.size) := HA0.out.lt
 clear hQ hx hE hF HA0 HR
 have g9 := HA2.out.el
 have m9 := HA2.out.lt
 go_wp2
 have a10 := At.set11 HA2.out (.int .i64 kd) (.int .u64 pn) (.int .u64 pd) (.int .i64 sd) (.int .i64 mo) (.int .i64 dg) (.int .u64 li) (.int .i64 de) (.int .i64 fa) (.int .i64 wi) (.int .u64 wo)
 have hF10 := Frame.set11 w2 rb (.int .i64 kd) (.int .u64 pn) (.int .u64 pd) (.int .i64 sd) (.int .i64 mo) (.int .i64 dg) (.int .u64 li) (.int .i64 de) (.int .i64 fa) (.int .i64 wi) (.int .u64 wo)
 generalize (((((((((((w2.setCell ⟨rb, 0, none⟩ (.int .i64 kd)).setCell ⟨rb, 1, none⟩ (.int .u64 pn)).setCell ⟨rb, 2, none⟩ (.int .u64 pd)).setCell ⟨rb, 3, none⟩ (.int .i64 sd)).setCell ⟨rb, 4, none⟩ (.int .i64 mo)).setCell ⟨rb, 5, none⟩ (.int .i64 dg)).setCell ⟨rb, 6, none⟩ (.int .u64 li)).setCell ⟨rb, 7, none⟩ (.int .i64 de)).setCell ⟨rb, 8, none⟩ (.int .i64 fa)).setCell ⟨rb, 9, none⟩ (.int .i64 wi)).setCell ⟨rb, 10, none⟩ (.int .u64 wo)) = W10 at a10 hF10 ⊢
 have d2 := a10.el
 have hQ0 : Within Q w.heap.size W10.heap.size := fun j hj => ⟨Nat.le_trans HBA.out.size (HQ.out j hj).1, Nat.lt_of_lt_of_le (HQ.out j hj).2 hF10.size⟩
 have hx10 : X W10 q Q := HX.out _ _ _ _ _ HXX.out hF10 (fun j hj hm => by simp only [List.mem_singleton] at hm; subst hm; have := (HQ.out j hj).1; have := HQL.out; omega)
 have hE10 : Eye W10 eb [] := HE.out.frame hF10 (by simp only [List.mem_singleton]; have := HRB.out; have := HLT.out; omega)
 have hFF : Frame [eb] w W10 := ⟨hF10.os.trans HF.out.os, hF10.tape.trans HF.out.tape, hF10.output.trans HF.out.output, Nat.le_trans HF.out.size hF10.size, fun j hj hn => (hF10.block j (Nat.lt_of_lt_of_le hj HF.out.size) (by simp only [List.mem_singleton]; have := HRB.out; omega)).trans (HF.out.block j hj hn)⟩
 exact bodyPost_ret (v := .tuple #[.agg #[.int .i64 kd, .int .u64 pn, .int .u64 pd, .int .i64 sd, .int .i64 mo, .int .i64 dg, .int .u64 li, .int .i64 de, .int .i64 fa, .int .i64 wi, .int .u64 wo], .iface T (.agg #[.pointer (some ⟨q, 0, none⟩)]), .bool true]) (by simp only [results, Tryz.f50]; simp [go_sem, d2]) rfl ⟨q, Q, rfl, hQ0, hx10, hE10, hFF⟩
def DecR (kd pn pd sd mo dg li de fa wi wo : Int) (T : TypeId) (X : World → Nat → List Nat → Prop) (w : World) (e : Ending) (w' : World) : Prop :=
 (∃ b q Q, e = .returned (.tuple #[.pointer (some ⟨b, 0, none⟩), .int .i64 0]) ∧ Within (b :: Q) w.heap.size w'.heap.size ∧ b ∉ Q ∧
  At w' b #[.int .i64 kd, .int .u64 pn, .int .u64 pd, .int .i64 sd, .int .i64 mo, .int .i64 dg, .int .u64 li, .int .i64 de, .int .i64 fa, .int .i64 wi, .int .u64 wo, .iface T (.agg #[.pointer (some ⟨q, 0, none⟩)])] 79 ∧ X w' q Q) ∧ Below w.heap.size w w'
set_option maxRecDepth 100000 in
set_option maxHeartbeats 1000000 in
theorem sdecode_at (kn : Nat) (load : List UInt8) (kd pn pd sd mo dg li de fa wi wo : Int) (T : TypeId) (X : World → Nat → List Nat → Prop) (hX : ∀ W W' q Q S, X W q Q → Frame S W W' → Apart Q S → X W' q Q) (w : World) (hT : TensAt w) (hk : kn < 256) (hl : load.length ≤ 262144)
  (hR : ∀ W eb, TensAt W → Eye W eb load → Calls Tryz.prog 50 #[.int .i64 (kn : Int), .pointer (some ⟨eb, 0, none⟩)] W fun e w' => RdR eb (.agg #[.int .i64 kd, .int .u64 pn, .int .u64 pd, .int .i64 sd, .int .i64 mo, .int .i64 dg, .int .u64 li, .int .i64 de, .int .i64 fa, .int .i64 wi, .int .u64 wo]) T X W e w') :
  Calls Tryz.prog 38 #[.string (txt (frameY kn load))] w fun e w' => DecR kd pn pd sd mo dg li de fa wi wo T X w e w' := by
 have HR := Lib.hid hR
 have HX := Lib.hid hX
 have HT := Lib.hid hT
 have HO := Lib.hid (fopen_any kn load w hk hl)
 have hcv : IntKind.i64.wrap (kn : Int) = (kn : Int) := by simp only [IntKind.wrap_i64]; omega
 obtain ⟨st, hst⟩ : ∃ s, txt (frameY kn load) = s := ⟨_, rfl⟩
 rw [hst] at HO ⊢
 clear hst hR hX hT hk hl
 go_enter Tryz.func38, Tryz.ntmps38
 go_wp2_with fail
 refine HO.out.mono ?_
 rintro e w1 ⟨rfl, hb⟩
 have HB1 := Lib.hid hb
 clear hb HO
 go_wp2_with fail
 refine (eon_any load w1).mono ?_
 rintro e w2 ⟨rfl, hE, hb⟩
 have HB2 := Lib.hid (keep1 HB1.out hb)
 have HB12 := Lib.hid hb
 have HE2 := Lib.hid hE
 have HR2 := Lib.hid (HR.out w2 _ (HT.out.below HB2.out) hE)
 have HSZ : Hid (w.heap.size ≤ w1.heap.size) := HB1.out.size
 obtain ⟨eb, heb⟩ : ∃ r, w1.heap.size = r := ⟨_, rfl⟩
 rw [heb] at HE2 HR2 HSZ
 simp only [heb]
 clear hb hE HR heb
 go_wp2_with fail
 refine HR2.out.mono ?_
 rintro e w3 ⟨q, Q, rfl, hQ, hx, hE, hF⟩
 have HB3 : Hid (Below w.heap.size w w3) := hF.below HB2.out HB2.out.size (fun k hk => by simp only [List.mem_singleton] at hk; subst hk; exact HSZ.out)
 have hbe : Below w3.heap.size w3 (w3.alloc (.cells #[.int .i64 kd, .int .u64 pn, .int .u64 pd, .int .i64 sd, .int .i64 mo, .int .i64 dg, .int .u64 li, .int .i64 de, .int .i64 fa, .int .i64 wi, .int .u64 wo] 28)) := (Below.refl _ _).alloc (Nat.le_refl _) _
 have HQ4 : Hid (Within Q w.heap.size (w3.alloc (.cells #[.int .i64 kd, .int .u64 pn, .int .u64 pd, .int .i64 sd, .int .i64 mo, .int .i64 dg, .int .u64 li, .int .i64 de, .int .i64 fa, .int .i64 wi, .int .u64 wo] 28)).heap.size) := fun j hj => ⟨Nat.le_trans HB2.out.size (hQ j hj).1, Nat.lt_of_lt_of_le (hQ j hj).2 hbe.size⟩
 have HX4 := Lib.hid (HX.out _ _ _ _ [] hx (Frame.of_below hbe) (fun _ _ => by simp))
 have HE4 := Lib.hid (hE.below hbe)
 have HC4 := Lib.hid (At.new w3 #[.int .i64 kd, .int .u64 pn, .int .u64 pd, .int .i64 sd, .int .i64 mo, .int .i64 dg, .int .u64 li, .int .i64 de, .int .i64 fa, .int .i64 wi, .int .u64 wo] 28)
 have HB4 := Lib.hid (keep1 HB3.out hbe)
 clear hQ hx hE hF hbe HR2 HE2
 go_wp2_with fail
 obtain ⟨W4, hW4⟩ : ∃ W, w3.alloc (.cells #[.int .i64 kd, .int .u64 pn, .int .u64 pd, .int .i64 sd, .int .i64 mo, .int .i64 dg, .int .u64 li, .int .i64 de, .int .i64 fa, .int .i64 wi, .int .u64 wo] 28) = W := ⟨_, rfl⟩
 obtain ⟨cb, hcb⟩ : ∃ r, w3.heap.size = r := ⟨_, rfl⟩
 rw [hW4] at HQ4 HX4 HE4 HC4 HB4
 rw [hcb] at HC4
 simp only [hW4, hcb]
 clear hW4 hcb
 refine (eover_any eb W4 HE4.out).mono ?_
 rintro e w5 ⟨rfl, rfl⟩
 have f4 := HC4.out.el
 have l4 := HC4.out.lt
 have hbe : Below W4.heap.size W4 (W4.alloc (.cells #[.int .i64 kd, .int .u64 pn, .int .u64 pd, .int .i64 sd, .int .i64 mo, .int .i64 dg, .int .u64 li, .int .i64 de, .int .i64 fa, .int .i64 wi, .int .u64 wo, .iface T (.agg #[.pointer (some ⟨q, 0, none⟩)])] 79)) := (Below.refl _ _).alloc (Nat.le_refl _) _
 have HFIN : Hid (DecR kd pn pd sd mo dg li de fa wi wo T X w (.returned (.tuple #[.pointer (some ⟨W4.heap.size, 0, none⟩), .int .i64 0])) (W4.alloc (.cells #[.int .i64 kd, .int .u64 pn, .int .u64 pd, .int .i64 sd, .int .i64 mo, .int .i64 dg, .int .u64 li, .int .i64 de, .int .i64 fa, .int .i64 wi, .int .u64 wo, .iface T (.agg #[.pointer (some ⟨q, 0, none⟩)])] 79))) := by
  refine ⟨⟨_, q, Q, rfl, fun j hj => ?_, fun hm => by have := (HQ4.out _ hm).2; omega, At.new _ _ _, HX.out _ _ _ _ [] HX4.out (Frame.of_below hbe) (fun _ _ => by simp)⟩, keep1 HB4.out hbe⟩
  rcases List.mem_cons.1 hj with rfl | hj
  ·exact ⟨HB4.out.size, by simp⟩
  ·exact ⟨(HQ4.out j hj).1, Nat.lt_of_lt_of_le (HQ4.out j hj).2 hbe.size⟩
 clear hbe
 go_wp2
 go_ret2
 exact HFIN.out
end Go.Proofs.YtlbnlmhcpephbaaGreatDoor

namespace Go.Proofs.YtlbnlmhcpephbaaGreatDoor
open Go.ChangeShapes Go.WideShapes Go.ChangeAt Go.RowKit Go.Deep
structure Lf where
 A : Option Addr
 cap : Nat
 vals : List (Int × Int)
 bytes : Bool
def Lf.ok (w : World) (x : Lf) : Prop := RdP w x.A x.vals ∧ okP x.vals ∧ x.vals.length ≤ 9223372036854775807
def RdL (w : World) (A : Option Addr) (ls : List Lf) : Prop := Rd w A (ls.flatMap fun x => [.slice x.A x.vals.length x.cap, .bool x.bytes]) ∧ ∀ x ∈ ls, x.ok w
theorem Lf.ok_below {w w' : World} {x : Lf} (h : x.ok w) (hb : Below w.heap.size w w') : x.ok w' := ⟨h.1.below hb, h.2⟩
theorem RdL.below {w w' : World} {A : Option Addr} {ls : List Lf} (h : RdL w A ls) (hb : Below w.heap.size w w') : RdL w' A ls := ⟨h.1.below hb, fun x hx => Lf.ok_below (h.2 x hx) hb⟩
theorem RdL.at {w : World} {A : Option Addr} {ls : List Lf} (h : RdL w A ls) (j : Nat) (hj : j < ls.length) :
  ∃ g o, A = some ⟨g, o, none⟩ ∧ g < w.heap.size ∧ w.cell? ⟨g, o + j * 2, none⟩ = some (.slice (ls[j]'hj).A (ls[j]'hj).vals.length (ls[j]'hj).cap) ∧ w.cell? ⟨g, o + j * 2 + 1, none⟩ = some (.bool (ls[j]'hj).bytes) := by
 obtain ⟨q0, q1⟩ := flat2 (f := fun x : Lf => Value.slice x.A x.vals.length x.cap) (g := fun x => Value.bool x.bytes) ls j hj
 obtain ⟨g, o, rfl, hg, h0⟩ := h.1 _ _ q0
 obtain ⟨g', o', e, _, h1⟩ := h.1 _ _ q1
 simp only [Option.some.injEq, Addr.mk.injEq, and_true] at e
 obtain ⟨rfl, rfl⟩ := e
 exact ⟨g, o, rfl, hg, h0, h1⟩
section
variable {H : Type} {enc : TypeId × Value → H} {P : Program} {w : World}
theorem open_leaves {t e s v : TypeId} {f0 f1 e0 e1 : Field} {a0 : Option Addr} {len cap : Nat} {d : DataW H} {p : List MemPlace} (ht : P.underlying t = some (.slice e)) (he : P.underlying e = some (.struct #[f0, f1]))
  (hone : oneCellFields P #[f0, f1] = true) (hC : P.cellsOf e = 2) (h0 : P.underlying f0.type = some (.slice v)) (h1 : P.underlying f1.type = some .bool)
  (hv : P.underlying v = some (.struct #[e0, e1])) (hone' : oneCellFields P #[e0, e1] = true) (hC' : P.cellsOf v = 2) (he0 : P.underlying e0.type = some (.int .i64)) (he1 : P.underlying e1.type = some (.int .u64))
  (h : DataW.Trod enc P w 0 (fun _ => true) true t (.slice a0 len cap) d p) :
  ∃ ls : List Lf, ls.length = len ∧ RdL w a0 ls ∧ len ≤ 9223372036854775807 := by
 obtain ⟨hl, hi⟩ := open_fields ht he hone hC h
 obtain ⟨xs, hxl, hx⟩ := list_choose (P := fun i (x : Lf) => x.ok w ∧
   (∃ g o, a0 = some ⟨g, o, none⟩ ∧ g < w.heap.size ∧ w.cell? ⟨g, o + i * 2, none⟩ = some (.slice x.A x.vals.length x.cap)) ∧ (∃ g o, a0 = some ⟨g, o, none⟩ ∧ g < w.heap.size ∧ w.cell? ⟨g, o + (i * 2 + 1), none⟩ = some (.bool x.bytes))) len (fun i him => by
  obtain ⟨n, hn⟩ := hi i him
  obtain ⟨v0, y0, c0, t0⟩ := hn 0 f0 rfl
  obtain ⟨v1, y1, c1, t1⟩ := hn 1 f1 rfl
  obtain ⟨b, e1', _⟩ := DataW.trod_bool h1 t1
  obtain ⟨A, l, c, e0'⟩ := Go.Joins.slice_form h0 t0
  simp only [List.cons.injEq, and_true] at e0' e1'
  subst e0' e1'
  have hT : DataW.Trod enc P w 0 (fun _ => true) true f0.type (.slice A l c) y0.1 y0.2 := ⟨n, by simpa [Value.cells] using t0⟩
  obtain ⟨zs, rfl, hR, hW, hL⟩ := open_two_rd h0 hv hone' hC' he0 he1 hT
  exact ⟨⟨A, c, zs, b⟩, ⟨hR, fun x hx => ⟨wf_i64 (hW x hx).1, wf_u64 (hW x hx).2⟩, hL⟩, c0, c1⟩)
 refine ⟨xs, hxl, ⟨fun j u hj => ?_, fun x hx' => ?_⟩, hl⟩
 ·have hjl := (List.getElem?_eq_some_iff.1 hj).1
  rw [flat2_len] at hjl
  obtain ⟨i, hij⟩ : ∃ i, i = j / 2 := ⟨_, rfl⟩
  obtain ⟨_, p0, p1⟩ := hx i (by omega)
  obtain ⟨q0, q1⟩ := flat2 (f := fun x : Lf => Value.slice x.A x.vals.length x.cap) (g := fun x => Value.bool x.bytes) xs i (by omega)
  rcases (show j = i * 2 ∨ j = i * 2 + 1 by omega) with rfl | rfl
  ·rw [q0] at hj
   obtain rfl := Option.some.inj hj
   exact p0
  ·rw [q1] at hj
   obtain rfl := Option.some.inj hj
   exact p1
 ·obtain ⟨i, hil, rfl⟩ := List.getElem_of_mem hx'
  exact (hx i hil).1
theorem array11 {α : Type} {cs : Array α} (h : cs.size = 11) : ∃ a0 a1 a2 a3 a4 a5 a6 a7 a8 a9 a10, cs = #[a0, a1, a2, a3, a4, a5, a6, a7, a8, a9, a10] := by
 obtain ⟨l⟩ := cs
 match l, h with
 | [a0, a1, a2, a3, a4, a5, a6, a7, a8, a9, a10], _ => exact ⟨a0, a1, a2, a3, a4, a5, a6, a7, a8, a9, a10, rfl⟩
theorem field_int {fs : Array Field} {k : IntKind} {n : Nat} {cs : List Value} {xs : List (DataW H × List MemPlace)} (hlen : xs.length = fs.size)
  (hf : ∀ (i : Nat) (f : Field), fs[i]? = some f → DataW.trod enc P w 0 (fun _ => true) true n f.type ((cs.drop f.offset).take (P.cellsOf f.type)) = xs[i]?)
  (i o : Nat) (c : Value) (f : Field) (hi : fs[i]? = some f) (ho : f.offset = o) (hc : P.cellsOf f.type = 1) (hu : P.underlying f.type = some (.int k)) (hcs : (cs.drop o).take 1 = [c]) : ∃ x : Int, c = .int k x ∧ (Lit.int k x).wf = true := by
 have h1 := hf i f hi
 rw [ho, hc, hcs] at h1
 have hl : i < xs.length := by rw [hlen]; exact (Array.getElem?_eq_some_iff.1 hi).1
 rw [List.getElem?_eq_getElem hl] at h1
 obtain ⟨x, e, _, wf⟩ := DataW.trod_int hu h1
 exact ⟨x, by simpa using e, wf⟩
theorem open_sconf {r : Reach} {b0 : Nat} {t : TypeId} {g0 g1 g2 g3 g4 g5 g6 g7 g8 g9 h0 h1 : Field} {v : Value} {d : DataW H} {p : List MemPlace} (hs : P.underlying t = some (.struct #[g0, g1, g2, g3, g4, g5, g6, g7, g8, g9])) (hC : P.cellsOf t = 11)
  (ho : (g0.offset, g1.offset, g2.offset, g3.offset, g4.offset, g5.offset, g6.offset, g7.offset, g8.offset, g9.offset) = (0, 1, 3, 4, 5, 6, 7, 8, 9, 10))
  (hc : (P.cellsOf g0.type, P.cellsOf g1.type, P.cellsOf g2.type, P.cellsOf g3.type, P.cellsOf g4.type, P.cellsOf g5.type, P.cellsOf g6.type, P.cellsOf g7.type, P.cellsOf g8.type, P.cellsOf g9.type) = (1, 2, 1, 1, 1, 1, 1, 1, 1, 1))
  (u0 : P.underlying g0.type = some (.int .i64)) (u1 : P.underlying g1.type = some (.struct #[h0, h1])) (hgo : (h0.offset, h1.offset, P.cellsOf h0.type, P.cellsOf h1.type) = (0, 1, 1, 1)) (k0 : P.underlying h0.type = some (.int .u64)) (k1 : P.underlying h1.type = some (.int .u64))
  (u2 : P.underlying g2.type = some (.int .i64)) (u3 : P.underlying g3.type = some (.int .i64)) (u4 : P.underlying g4.type = some (.int .i64)) (u5 : P.underlying g5.type = some (.int .u64)) (u6 : P.underlying g6.type = some (.int .i64)) (u7 : P.underlying g7.type = some (.int .i64)) (u8 : P.underlying g8.type = some (.int .i64)) (u9 : P.underlying g9.type = some (.int .u64))
  (hv : Value.okWide P w r b0 t v) (h : DataW.Trod enc P w 0 (fun _ => true) true t v d p) :
  ∃ (kd pn pd sd mo dg li de fa wi wo : Int), v = .agg #[.int .i64 kd, .int .u64 pn, .int .u64 pd, .int .i64 sd, .int .i64 mo, .int .i64 dg, .int .u64 li, .int .i64 de, .int .i64 fa, .int .i64 wi, .int .u64 wo] ∧
   (Lit.int .i64 kd).wf = true ∧ (Lit.int .u64 pn).wf = true ∧ (Lit.int .u64 pd).wf = true ∧ (Lit.int .i64 sd).wf = true ∧ (Lit.int .i64 mo).wf = true ∧ (Lit.int .i64 dg).wf = true ∧ (Lit.int .u64 li).wf = true ∧ (Lit.int .i64 de).wf = true ∧ (Lit.int .i64 fa).wf = true ∧ (Lit.int .i64 wi).wf = true ∧ (Lit.int .u64 wo).wf = true := by
 obtain ⟨cs, rfl, hsz⟩ := okWide_struct hs hv
 obtain ⟨c0, c1, c2, c3, c4, c5, c6, c7, c8, c9, c10, rfl⟩ := array11 (hsz.trans hC)
 obtain ⟨fuel, hf⟩ := h
 obtain ⟨xs, n, _, _, _, hlen, hg⟩ := DataW.trod_struct hs hf
 simp only [Prod.mk.injEq] at ho hc hgo
 obtain ⟨o0, o1, o2, o3, o4, o5, o6, o7, o8, o9⟩ := ho
 obtain ⟨q0, q1, q2, q3, q4, q5, q6, q7, q8, q9⟩ := hc
 obtain ⟨r0, r1, s0, s1⟩ := hgo
 obtain ⟨z0, rfl, w0⟩ := field_int hlen hg 0 0 c0 g0 rfl o0 q0 u0 rfl
 obtain ⟨z2, rfl, w2⟩ := field_int hlen hg 2 3 c3 g2 rfl o2 q2 u2 rfl
 obtain ⟨z3, rfl, w3⟩ := field_int hlen hg 3 4 c4 g3 rfl o3 q3 u3 rfl
 obtain ⟨z4, rfl, w4⟩ := field_int hlen hg 4 5 c5 g4 rfl o4 q4 u4 rfl
 obtain ⟨z5, rfl, w5⟩ := field_int hlen hg 5 6 c6 g5 rfl o5 q5 u5 rfl
 obtain ⟨z6, rfl, w6⟩ := field_int hlen hg 6 7 c7 g6 rfl o6 q6 u6 rfl
 obtain ⟨z7, rfl, w7⟩ := field_int hlen hg 7 8 c8 g7 rfl o7 q7 u7 rfl
 obtain ⟨z8, rfl, w8⟩ := field_int hlen hg 8 9 c9 g8 rfl o8 q8 u8 rfl
 obtain ⟨z9, rfl, w9⟩ := field_int hlen hg 9 10 c10 g9 rfl o9 q9 u9 rfl
 have t1 := hg 1 g1 rfl
 rw [o1, q1] at t1
 have hl1 : 1 < xs.length := by rw [hlen]; exact (Array.getElem?_eq_some_iff.1 (show #[g0, g1, g2, g3, g4, g5, g6, g7, g8, g9][1]? = some g1 from rfl)).1
 rw [List.getElem?_eq_getElem hl1] at t1
 obtain ⟨y0, y1, n', _, _, v0, v1⟩ := trod_struct2 u1 t1
 rw [r0, s0] at v0
 rw [r1, s1] at v1
 replace v0 : DataW.trod enc P w 0 (fun _ => true) true n' h0.type [c1] = some y0 := v0
 replace v1 : DataW.trod enc P w 0 (fun _ => true) true n' h1.type [c2] = some y1 := v1
 obtain ⟨x0, e0, _, wx0⟩ := DataW.trod_int k0 v0
 obtain ⟨x1, e1, _, wx1⟩ := DataW.trod_int k1 v1
 obtain rfl : c1 = .int .u64 x0 := by simpa using e0
 obtain rfl : c2 = .int .u64 x1 := by simpa using e1
 exact ⟨z0, x0, x1, z2, z3, z4, z5, z6, z7, z8, z9, rfl, w0, wx0, wx1, w2, w3, w4, w5, w6, w7, w8, w9⟩
end
end Go.Proofs.YtlbnlmhcpephbaaGreatDoor
