/- Texts of this claim, joined, indents halved: EHd3, EHd4, EHd5, EHd6, EHd7, EHd8, EKd, ECd. -/
import Derived.Test.YtlbnlmhcpephbaaGreatDoorProg
import Derived.StillTailTactics
import Derived.Test.YtlbnlmhcpephbaaGreatDoorKe13
namespace Go.Proofs.YtlbnlmhcpephbaaGreatDoor
open Go.RowKit
section
variable {w w' : World} {b p : Nat} {B : Bool → Nat} {S : Bool → List Nat} {T U : List Nat} {d lim z lo hi n x y z2 : Int} {P : Bool → List (Int × Int)} {ps : List (Int × Int)} {s : Bool}
set_option maxRecDepth 100000 in
set_option maxHeartbeats 2000000 in
theorem hends_w (h : HdC w b p B S d lim P z lo hi) (hs : hN P z ≤ 8000) : Calls Tryz.prog 218 #[.pointer (some ⟨b, 0, none⟩), .int .i64 x, .int .i64 y] w fun e w' => e = .returned (.tuple #[]) ∧ HdC w' b p B S d lim P z (lowE (hN P z) lo x) (highE (hN P z) hi y) ∧ Frame [b] w w' := by
 have H := Lib.hid h
 have HT := Lib.hid (htot_any h hs)
 generalize hN P z = n at *
 clear h hs
 unfold lowE highE
 rcases Decidable.em (n = 0) with rfl | n0
 ·simp only [if_true]
  go_enter Tryz.func218, Tryz.ntmps218
  go_wp2_with fail
  refine HT.out.mono ?_
  rintro e w1 ⟨rfl, hb⟩
  have h := H.out.below hb
  have s1 := h.at'
  have f1 := s1.c8
  have l1 := s1.lt
  have H2 := h.set (z2 := z) (x := x) (y := hi) (s1.set_any 6 (.int .i64 x) rfl) h.z0
  have H3 := Lib.hid (H2.set (z2 := z) (x := x) (y := y) (H2.at'.set_any 7 (.int .i64 y) rfl) h.z0)
  have HF := Lib.hid (((Frame.of_below (S := [b]) hb).setc (b := b) (.inl (by simp)) 6 (.int .i64 x)).setc (b := b) (.inl (by simp)) 7 (.int .i64 y))
  clear H2 h s1 hb
  go_wp2
  exact bodyPost_ret (results_none rfl _ _ _) rfl ⟨rfl, H3.out, HF.out⟩
 ·simp only [if_neg n0]
  obtain ⟨m, hm⟩ : ∃ m, min lo x = m := ⟨_, rfl⟩
  obtain ⟨M, hM⟩ : ∃ m, max hi y = m := ⟨_, rfl⟩
  rw [hm, hM]
  go_enter Tryz.func218, Tryz.ntmps218
  go_wp2_with fail
  refine HT.out.mono ?_
  rintro e w1 ⟨rfl, hb⟩
  go_upto_region 2 with fail
  have H1 := H.out.below hb.drew
  have hF := Frame.of_below (S := [b]) hb.drew
  have s1 := H1.at'
  have hm1 : CellW b 7 (.int .i64 hi) w1.drew := s1.cell rfl
  refine until_h 19 (by kernel_rfl) (HeldS.mk' hm1) (fun hHeld => ?_)
  generalize w1.drew = W at *
  have H2 := H1.set (z2 := z) (x := m) (y := hi) (s1.set_any 6 (.int .i64 m) rfl) H1.z0
  have H3 := Lib.hid (H2.set (z2 := z) (x := m) (y := M) (H2.at'.set_any 7 (.int .i64 M) rfl) H1.z0)
  have HF := Lib.hid ((hF.setc (b := b) (.inl (by simp)) 6 (.int .i64 m)).setc (b := b) (.inl (by simp)) 7 (.int .i64 M))
  have hm2 : CellW b 7 (.int .i64 hi) (W.setCell ⟨b, 6, none⟩ (.int .i64 m)) := H2.at'.cell rfl
  have hne := hHeld.ne
  have hfar := fun x => (hHeld.get x).c
  have hneF := heldT W
  have f1 := s1.c8
  have l1 := s1.lt
  have f2 := H2.at'.c8
  have l2 := H2.at'.lt
  clear H1 hF H2 s1 H HT hb
  refine runV [5, 1, 1, 1, 3, 1, 1] 10 hHeld ?_
  simp only [runL, runN, runOps_true, runOps_false, runOps_nil]
  repeat go_big_quiet_step (fail)
  refine wpQuiet_nil ?_
  refine runW [0, 11, 1, 1, 1] 8 hHeld ?_
  simp only [runL, runN, runOps_true, runOps_false, runOps_nil]
  repeat go_big_quiet_step (fail)
  refine wpQuiet_nil ?_
  clear hfar hne hHeld
  refine readyU 5 fun K hK => ?_
  go_simp
  go_wp2
  refine hK.out _ _ (fun _ => HeldS.mk' hm1) ?_
  clear hK K
  have hHeld := HeldS.mk' hm1
  refine runV [0, 7, 1, 6, 2] 4 hHeld ?_
  simp only [runL, runN, runOps_true, runOps_false, runOps_nil]
  repeat go_big_quiet_step (fail)
  refine wpQuiet_nil ?_
  refine readyU 16 fun K hK => ?_
  go_simp
  go_wp2
  refine hK.out _ _ (fun _ => HeldS.mk' hm2) ?_
  clear hK K
  replace hHeld := HeldS.mk' hm2
  clear f1 l1
  refine runV [0, 17, 2] 1 hHeld ?_
  simp only [runL, runN, runOps_true, runOps_false, runOps_nil]
  repeat go_big_quiet_step (fail)
  refine wpQuiet_nil ?_
  refine readyU 19 fun K hK => ?_
  go_simp
  go_wp2
  refine hK.out _ _ (fun h => late_no h (by kernel_rfl)) ?_
  refine doneU ?_
  go_wp2
  exact bodyPost_end (results_none rfl _ _ _) rfl ⟨rfl, H3.out, HF.out⟩
theorem hendz_any (h : HdC w b p B S d lim P z lo hi) (hs : hN P z ≤ 8000) : Calls Tryz.prog 213 #[.pointer (some ⟨b, 0, none⟩)] w fun e w' => e = .returned (if hN P z = 0 then .tuple #[.int .i64 0, .int .i64 0, .bool false] else .tuple #[.int .i64 lo, .int .i64 hi, .bool true]) ∧ Below w.heap.size w w' := by
 have s1 := h.at'
 have HT := Lib.hid (htot_any h hs)
 generalize hN P z = n at *
 clear h hs
 rcases Decidable.em (n = 0) with rfl | n0 <;> first | rw [if_pos rfl] | rw [if_neg n0]
 all_goals
  go_enter Tryz.func213, Tryz.ntmps213
  go_wp2_with fail
  refine HT.out.mono ?_
  rintro e w1 ⟨rfl, hb⟩
  have f1 := (s1.below hb).c8
  have l1 := (s1.below hb).lt
  go_wp2
  try go_quiet (fail)
  go_wp2
  go_ret3
  first | exact ⟨rfl, hb.drewN _⟩ | exact ⟨rfl, hb⟩
structure HnJ (w wr : World) (b p : Nat) (d lim : Int) (k : Nat) (q0 q1 : Value) (c0 c1 : Nat) : Prop where
 bl : Below w.heap.size w wr
 span : SpB wr p d
 at' : At wr b #[.int .i64 d, .int .u64 lim, .pointer (some ⟨p, 0, none⟩), q0, q1, .int .u64 0, .int .i64 0, .int .i64 0] 161
 lt : w.heap.size ≤ p ∧ p < b
 s0 : 0 < k → q0 = .pointer (some ⟨c0, 0, none⟩) ∧ b < c0 ∧ Strip wr c0 [c0] 4096 []
 s1 : 1 < k → q1 = .pointer (some ⟨c1, 0, none⟩) ∧ c0 < c1 ∧ Strip wr c1 [c1] 4096 []
theorem HnJ.below {wr : World} {k c0 c1 : Nat} {q0 q1 : Value} (h : HnJ w wr b p d lim k q0 q1 c0 c1) (hb : Below wr.heap.size wr w') : HnJ w w' b p d lim k q0 q1 c0 c1 :=
 ⟨keep1 h.bl hb, h.span.below hb, h.at'.below hb, h.lt, fun e => ⟨(h.s0 e).1, (h.s0 e).2.1, (h.s0 e).2.2.below hb⟩, fun e => ⟨(h.s1 e).1, (h.s1 e).2.1, (h.s1 e).2.2.below hb⟩⟩
def HnR (d lim : Int) (m : Nat) (n lo hi : Int) (w : World) (e : Ending) (w' : World) : Prop := ((∃ b S, e = .returned (.tuple #[.pointer (some ⟨b, 0, none⟩), .int .i64 0]) ∧ Hw w' b S d lim m n lo hi ∧ Within S w.heap.size w'.heap.size) ∨ ∃ c : Int, c ≠ 0 ∧ e = .returned (.tuple #[.pointer none, .int .i64 c])) ∧ Below w.heap.size w w'
theorem HnR.no {c : Int} {m : Nat} (hc : c ≠ 0) (hb : Below w.heap.size w w') : HnR d lim m n lo hi w (.returned (.tuple #[.pointer none, .int .i64 c])) w' := ⟨.inr ⟨c, hc, rfl⟩, hb⟩
end
end Go.Proofs.YtlbnlmhcpephbaaGreatDoor

namespace Go.Proofs.YtlbnlmhcpephbaaGreatDoor
open Go.RowKit
section
variable {w w' wr : World} {b p c c0 c1 k : Nat} {q0 q1 : Value} {d lim : Int}
theorem HnJ.step (h : HnJ w wr b p d lim k q0 q1 c0 c1) (hk : k < 2) (hS : Strip wr c [c] 4096 []) (hb : b < c) (hc : 0 < k → c0 < c) : ∃ q0 q1 c0 c1, HnJ w (wr.setCell ⟨b, 3 + k, none⟩ (.pointer (some ⟨c, 0, none⟩))) b p d lim (k + 1) q0 q1 c0 c1 := by
 have f := Frame.set [b] wr b (3 + k) (.pointer (some ⟨c, 0, none⟩)) (by simp)
 have l := h.lt
 have B := f.below h.bl h.bl.size fun j hj => by simp at hj; omega
 obtain ⟨g, hg, s⟩ := h.span
 have P : SpB (wr.setCell ⟨b, 3 + k, none⟩ (.pointer (some ⟨c, 0, none⟩))) p d := ⟨g, hg, f.at s (by simp; omega)⟩
 have hS' := hS.frame f fun j hj e => by simp at hj e; omega
 rcases (by omega : k = 0 ∨ k = 1) with rfl | rfl
 ·exact ⟨_, q1, c, c1, B, P, h.at'.set_any 3 _ rfl, l, fun _ => ⟨rfl, hb, hS'⟩, fun e => by omega⟩
 ·obtain ⟨r1, r2, r3⟩ := h.s0 (by omega)
  exact ⟨q0, _, c0, c, B, P, h.at'.set_any 4 _ rfl, l, fun _ => ⟨r1, r2, r3.frame f fun j hj e => by simp at hj e; omega⟩, fun _ => ⟨rfl, hc (by omega), hS'⟩⟩
theorem HnJ.fin (h : HnJ w wr b p d lim 2 q0 q1 c0 c1) : HnR d lim 0 0 0 0 w (.returned (.tuple #[.pointer (some ⟨b, 0, none⟩), .int .i64 0])) wr := by
 obtain ⟨r1, r2, r3⟩ := h.s0 (by omega)
 obtain ⟨q1, q2, q3⟩ := h.s1 (by omega)
 have l := h.lt
 have e := r3.lt c0 (by simp)
 have e' := q3.lt c1 (by simp)
 have a := h.at'
 rw [r1, q1] at a
 refine ⟨.inl ⟨b, _, rfl, ⟨p, fun s => if s then c0 else c1, fun s => if s then [c0] else [c1], fun _ => [], 0, 0, 0, rfl, ⟨a, h.span, fun s => by cases s; exact q3; exact r3, Int.le_refl _, by omega, fun s => by cases s <;> simp <;> omega, fun j hj e => by simp at hj e; omega⟩, by simp [hN, sumP], by simp, by simp⟩, fun j hj => ?_⟩, h.bl⟩
 simp [hS] at hj
 omega
set_option maxRecDepth 100000 in
set_option maxHeartbeats 2000000 in
def HdOk (d lim : Int) : Prop := (1 ≤ d ∧ d ≤ 4) ∧ lim ≤ 9223372036854775808
def HnS (d lim : Int) (w : World) (e : Ending) (w' : World) : Prop := HnR d lim 0 0 0 0 w e w' ∧ ∃ (v : Option Addr) (f : Int), e = .returned (.tuple #[.pointer v, .int .i64 f]) ∧ (f = 0 ↔ HdOk d lim)
theorem hnew_w (hT : TensAt w) : Calls Tryz.prog 43 #[.agg #[.int .i64 d, .int .u64 lim]] w (HnS d lim w) := by
 have s := At.new w #[.int .i64 d, .int .u64 lim] 110
 have b0 := bn w (.cells #[.int .i64 d, .int .u64 lim] 110)
 have SN := Lib.hid (spnw_any (d := d) (hT.below b0))
 have f1 := s.two
 have l1 := s.lt
 clear hT
 go_enter Tryz.func43, Tryz.ntmps43
 go_wp2_with fail
 refine SN.out.mono ?_
 rintro e w1 ⟨⟨p, rfl, hp, hS, hd⟩ | ⟨f, ⟨hf, hd⟩, rfl⟩, hb⟩
 rotate_left
 ·have R : Hid (HnS d lim w (.returned (.tuple #[.pointer none, .int .i64 1])) w1) := ⟨HnR.no (by decide) (keep1 b0 hb), none, 1, rfl, fun h => by omega, fun h => absurd h.1 hd⟩
  have d0 : (f != 0) = true := by simpa using hf
  clear hb b0 s hd
  go_wp2
  go_ret2
  exact R.out
 replace s := s.below hb
 have f2 := s.two
 have l2 := s.lt
 clear f1 l1
 by_cases hl : 9223372036854775808 < lim
 ·have R : Hid (HnS d lim w (.returned (.tuple #[.pointer none, .int .i64 1])) w1) := ⟨HnR.no (by decide) (keep1 b0 hb), none, 1, rfl, fun h => by omega, fun h => by have := h.2; omega⟩
  clear hb b0 s hS hd
  go_wp2
  go_ret2
  exact R.out
 have OK : Hid (HdOk d lim) := ⟨hd, by omega⟩
 have J : Hid (HnJ w (w1.alloc (.cells #[.int .i64 d, .int .u64 lim, .pointer (some ⟨p, 0, none⟩), .pointer none, .pointer none, .int .u64 0, .int .i64 0, .int .i64 0] 161)) w1.heap.size p d lim 0 (.pointer none) (.pointer none) 0 0) :=
  ⟨keep1 (keep1 b0 hb) (bn _ _), hS.below (bn _ _), At.new _ _ _, ⟨Nat.le_trans b0.size hp, by obtain ⟨g, hg, s⟩ := hS; exact s.lt⟩, fun e => by omega, fun e => by omega⟩
 clear hS hp hb b0 s SN hd
 go_wp2
 clear f2 l2
 generalize w1.alloc _ = W at *
 generalize w1.heap.size = b at *
 go_loopw [7, 25] (fun _ i wr => ∃ k : Nat, k ≤ 2 ∧ i = .int .i64 k ∧ ∃ q0 q1 c0 c1, Hid (HnJ w wr b p d lim k q0 q1 c0 c1)) (fun _ i _ => 2 - (intOf i).toNat)
 case atStart => exact ⟨0, by omega, rfl, _, _, 0, 0, J⟩
 case round =>
  clear J
  obtain ⟨k, hk, rfl, q0, q1, c0, c1, J⟩ := hrel
  by_cases hlt : k < 2
  ·have k0 : (0 : Int) ≤ k := by omega
   have k1 : (k : Int) < 2 := by omega
   have k2 : IntKind.i64.wrap ((k : Int) + 1) = ((k + 1 : Nat) : Int) := by simp only [IntKind.wrap_i64]; omega
   replace J := Lib.hid (J.out.below (Below.refl _ _).drew)
   go_upto_region 8 with fail
   refine held_h (by kernel_rfl) (HeldS.mk' (H := fun _ => True) trivial) (fun hHeld => ?_)
   generalize wr.drew = W4 at *
   have hne := hHeld.ne
   refine runH [2, 4, 2] 6 hHeld ?_
   simp only [runL, runN, runOps_true, runOps_false, runOps_nil]
   repeat go_big_quiet_step (fail)
   refine wpQuiet_nil ?_
   refine readyH 2 fun K hK => ?_
   go_simp
   go_wp2_with (go_at_call 59; refine (snew_any 4096 W4 (by omega) (by omega)).mono ?_; rintro e w5 ⟨⟨c, rfl, hc, hS⟩, hb⟩; replace hc := Nat.le_of_eq hc.symm)
   refine hK.out _ _ ?_ (fun hHeld => ?_)
   clear hK K
   ·exact HeldS.mk' trivial
   obtain ⟨pk, hpk⟩ : ∃ v, w5.cell? ⟨b, 3 + k, none⟩ = some v := by
    have a := (J.out.below hb).at'
    rcases (by omega : k = 0 ∨ k = 1) with rfl | rfl
    ·exact ⟨_, a.cell (i := 3) rfl⟩
    ·exact ⟨_, a.cell (i := 4) rfl⟩
   have fz := (J.out.below hb).at'.frozen (3 + k)
   have lz := (J.out.below hb).at'.lt
   have ST := Lib.hid ((J.out.below hb).step (c := c) hlt hS (by have := J.out.at'.lt; omega) fun e => by have := (J.out.s0 e).2.2.lt c0 (by simp); omega)
   clear hS hb J hc
   refine runH [0, 3, 3, 2, 1] 1 hHeld ?_
   simp only [runL, runN, runOps_true, runOps_false, runOps_nil]
   repeat go_big_quiet_step (fail)
   refine wpQuiet_nil ?_
   refine readyH 9 fun K hK => ?_
   go_simp
   go_wp2
   refine hK.out _ _ (HeldS.mk' trivial) (fun hHeld => ?_)
   clear hK K
   refine doneH ?_
   clear hHeld hpk fz lz
   go_wp2
   go_roundw
   case rel => obtain ⟨q0, q1, c0, c1, h⟩ := ST.out; exact ⟨k + 1, by omega, by simp, q0, q1, c0, c1, h⟩
   case measure => simp [intOf]; omega
  ·obtain rfl : k = 2 := by omega
   have R : Hid (HnS d lim w (.returned (.tuple #[.pointer (some ⟨b, 0, none⟩), .int .i64 0])) wr) := ⟨J.out.fin, _, 0, rfl, fun _ => OK.out, fun _ => rfl⟩
   clear J
   go_wp2
   go_ret2
   exact R.out
end
end Go.Proofs.YtlbnlmhcpephbaaGreatDoor

namespace Go.Proofs.YtlbnlmhcpephbaaGreatDoor
open Go.RowKit
theorem ends_c {n lo hi a c x y : Int} (h : n ≠ 0 → a = lo ∧ c = hi) : lowE n a x = lowE n lo x ∧ highE n c y = highE n hi y := by
 unfold lowE highE
 split
 ·exact ⟨rfl, rfl⟩
 ·rw [(h ‹_›).1, (h ‹_›).2]; exact ⟨rfl, rfl⟩
def HpR (b : Nat) (S : List Nat) (d lim : Int) (m : Nat) (N lo hi x n : Int) (w : World) (e : Ending) (w' : World) : Prop :=
 ∃ c : Int, e = .returned (.int .i64 c) ∧ ((c ≠ 0 ∧ (n = 0 ∨ 0 < lim)) ∧ Below w.heap.size w w' ∨ c = 0 ∧ 0 < n ∧ ∃ S', Mv S S' w w' ∧ Hw w' b S' d lim (m + 1) (N + n) (lowE N lo x) (highE N hi x))
section
variable {w w' : World} {b p m : Nat} {B : Bool → Nat} {S : Bool → List Nat} {T U : List Nat} {d lim z lo hi n x y N z2 : Int} {P : Bool → List (Int × Int)} {ps : List (Int × Int)} {s : Bool}
theorem hN_z : hN P (z + n) = hN P z + n := by unfold hN; omega
theorem HdC.n0 (h : HdC w b p B S d lim P z lo hi) : 0 ≤ hN P z := by have := h.nn true; have := h.nn false; have := h.z0; unfold hN; omega
theorem HdC.zle (h : HdC w b p B S d lim P z lo hi) : z ≤ hN P z := by have := h.nn true; have := h.nn false; unfold hN; omega
theorem HdC.le (h : HdC w b p B S d lim P z lo hi) (s : Bool) : sumP (P s) ≤ hN P z := by have := h.nn true; have := h.nn false; have := h.z0; unfold hN; cases s <;> omega
theorem len_upd {k : Nat} (h : (P true).length + (P false).length ≤ m) (hk : ps.length ≤ (P s).length + k) : (upd P s ps true).length + (upd P s ps false).length ≤ m + k := by cases s <;> simp [upd] <;> omega
theorem len_s (h : (P true).length + (P false).length ≤ m) : (P s).length ≤ m := by cases s <;> omega
def HjJ (w : World) (b p : Nat) (B : Bool → Nat) (T : List Nat) (d lim z lo hi : Int) (W : World) (n : Int) (l : Nat) (A : Option Addr) (qs : List (Int × Int)) : Prop :=
 ∃ S P, HdC W b p B S d lim P z lo hi ∧ Mv T (hS b p S) w W ∧ hN P z = n ∧ (P true).length + (P false).length ≤ l ∧ RdA W A (qs.flatMap fun x => [.int .i64 x.1, .int .u64 x.2]) (hS b p S)
theorem HjJ.below {W : World} {l : Nat} {A : Option Addr} {qs : List (Int × Int)} (h : HjJ w b p B T d lim z lo hi W n l A qs) (hb : Below W.heap.size W w') : HjJ w b p B T d lim z lo hi w' n l A qs := by
 obtain ⟨S, P, h, m, r, q, k⟩ := h
 exact ⟨S, P, h.below hb, m.trans (Mv.of _ hb), r, q, k.mv (Mv.of _ hb)⟩
theorem HjJ.add {W : World} {l : Nat} {A : Option Addr} {qs : List (Int × Int)} {c : Int} (s : Bool) (h : HjJ w b p B T d lim z lo hi W n l A qs) (hc : 0 < c) (hx : I64 x) (hn : n + c ≤ 8000) (hl : l < 4000) :
  Calls Tryz.prog 105 #[.pointer (some ⟨B s, 0, none⟩), .int .i64 x, .int .u64 c] W fun e w' => e = .returned (.int .i64 0) ∧ HjJ w b p B T d lim z lo hi w' (n + c) (l + 1) A qs := by
 obtain ⟨S, P, h, m, rfl, q, k⟩ := h
 have ls := h.le s
 refine (sadd_w (h.st s) hc (by omega) hx (by have := len_s (s := s) q; omega)).mono ?_
 rintro e w' ⟨rfl, T', m', r⟩
 have e := cnt_le_sumP (h.st s).gd.pos x
 obtain ⟨a1, a2⟩ := h.add m' r
 refine ⟨rfl, _, _, a1, m.trans a2, ?_, len_upd q (rowAdd_ix (h.st s).gd hc (by omega)).1, k.mv a2⟩
 rw [hN_upd, sumP_rowAdd (h.st s).gd hc (by omega)]
 omega
set_option maxRecDepth 100000 in
set_option maxHeartbeats 1000000 in
theorem hput_w (h : Hw w b T d lim m N lo hi) (hm : m < 4000) (hx : I64 x) (h0 : 0 ≤ n) (hs : N + n ≤ 8000) : Calls Tryz.prog 214 #[.pointer (some ⟨b, 0, none⟩), .int .i64 x, .int .u64 n] w (HpR b T d lim m N lo hi x n w) := by
  have F : Hid (∀ (c : Int) W, c ≠ 0 → (n = 0 ∨ 0 < lim) → Below w.heap.size w W → HpR b T d lim m N lo hi x n w (.returned (.int .i64 c)) W) := fun c W h h' k => ⟨c, rfl, .inl ⟨⟨h, h'⟩, k⟩⟩
  obtain ⟨p, B, S, P, z, u, v, rfl, h, rfl, he, hl⟩ := h
  by_cases hz : n = 0
  · subst hz
    clear h he
    go_enter Tryz.func214, Tryz.ntmps214
    go_wp2
    go_ret
    exact F.out 1 _ (by decide) (.inl (by simp)) (Below.refl _ _)
  have hz' := beq_eq_false_iff_ne.2 hz
  have SG := Lib.hid (sgof_any x w hx.1 hx.2)
  have f1 := h.at'.c8
  have l1 := h.at'.lt
  have H := Lib.hid h
  have E := Lib.hid (And.intro he (And.intro hl (And.intro hm (And.intro hx (And.intro (show 0 < n by omega) hs)))))
  generalize hc : (x.natAbs : Int) = a at SG
  by_cases hr : 0 < lim ∧ lim < a
  · obtain ⟨h1, h2⟩ := hr
    clear h he
    go_enter Tryz.func214, Tryz.ntmps214
    go_wp2_with fail
    refine SG.out.mono ?_
    rintro e w1 ⟨rfl, rfl⟩
    go_wp2
    go_ret
    exact F.out 7 _ (by decide) (.inr h1) (Below.refl _ _)
  have h1 : decide (0 < lim) = false ∨ decide (0 < lim) = true ∧ decide (lim < a) = false := by by_cases e : 0 < lim <;> simp [e] at hr ⊢; exact hr
  have PL := Lib.hid fun W (hb : Below w.heap.size w W) => plus2_new (a := hN P z) (b := n) hb h.n0 h0 (by omega)
  clear h he hr hz hm hx h0 hs hc hl
  go_enter Tryz.func214, Tryz.ntmps214
  go_wp2_with fail
  refine SG.out.mono ?_
  rintro e w1 ⟨rfl, rfl⟩
  clear SG
  rcases h1 with h1 | ⟨h1, h2⟩
  all_goals
    go_wp2_with fail
    refine (htot_any H.out (by have := E.out; omega)).mono ?_
    rintro e w2 ⟨rfl, hb⟩
    clear f1 l1
    go_wp2_with fail
    refine (PL.out w2 hb).mono ?_
    rintro e w3 ⟨rfl, hb⟩
    go_wp2_with fail
    refine (hside_any (H.out.below hb) E.out.2.2.2.1).mono ?_
    rintro e w4 ⟨⟨s, i, f, rfl, hi⟩, hb4⟩
    replace hb := keep1 hb hb4
    have EN := Lib.hid fun W (hb : Below w.heap.size w W) => hends_w (x := x) (y := x) (H.out.below hb) (by have := E.out; omega)
    have I := Lib.hid hi
    clear hb4 PL hi h1
    cases f with
    | false =>
      go_wp2_with fail
      refine (EN.out w4 hb).mono ?_
      rintro e w5 ⟨rfl, h5, hF⟩
      have m5 := (Mv.of (hS b p S) hb).trans ⟨GrownS.refl _ _, hF.mono (by simp [hS])⟩
      have wz : IntKind.u64.wrap (z + n) = z + n := by have := E.out; have := H.out.z0; have := H.out.zle; simp only [IntKind.wrap_u64]; omega
      have h6 := h5.set (z2 := z + n) (h5.at'.set_any 5 (.int .u64 (z + n)) rfl) (by have := E.out; have := H.out.z0; omega)
      have FIN : Hid (HpR b (hS b p S) d lim m (hN P z) lo hi x n w (.returned (.int .i64 0)) (w5.setCell ⟨b, 5, none⟩ (.int .u64 (z + n)))) := ⟨0, rfl, .inr ⟨rfl, E.out.2.2.2.2.1, _, m5.trans ⟨GrownS.refl _ _, Frame.set _ w5 b 5 _ (by simp [hS])⟩, p, B, S, P, z + n, _, _, rfl, h6, hN_z.symm, fun _ => ends_c E.out.1, by have := E.out; omega⟩⟩
      have f5 := h5.at'.c8
      have l5 := h5.at'.lt
      clear h5 hF m5 h6 EN hb
      go_wp2
      go_ret
      exact FIN.out
    | true =>
      go_wp2_with fail
      refine (sat_any _ _ _ _ i _ ((H.out.below hb).st s)).mono ?_
      rintro e w5 ⟨rfl, hb5⟩
      replace hb := keep1 hb hb5
      have LE := Lib.hid (slen_any _ _ _ _ _ ((H.out.below hb).st s))
      have d1 : ¬ (4096 : Int) ≤ ((P s).length : Nat) := by have := len_s (s := s) E.out.2.1; have := E.out; omega
      have AD : Hid (∀ w6, HdC w6 b p B S d lim P z (lowE (hN P z) u x) (highE (hN P z) v x) → Below w.heap.size w w5 → Frame [b] w5 w6 → Calls Tryz.prog 105 #[.pointer (some ⟨B s, 0, none⟩), .int .i64 i, .int .u64 n] w6 fun e w' => e = .returned (.int .i64 0) ∧ HpR b (hS b p S) d lim m (hN P z) lo hi x n w (.returned (.int .i64 0)) w') := fun w6 h6 hb hF => by
        have es := E.out
        refine ((show HjJ w b p B (hS b p S) d lim z _ _ w6 _ m none [] from ⟨S, P, h6, (Mv.of _ hb).trans ⟨GrownS.refl _ _, hF.mono (by simp [hS])⟩, rfl, es.2.1, Rd.nil _ _, fun a e => by cases e⟩).add s es.2.2.2.2.1 I.out (by omega) (by omega)).mono ?_
        rintro e w' ⟨rfl, S', P', h', m', a, l, _⟩
        exact ⟨rfl, 0, rfl, .inr ⟨rfl, es.2.2.2.2.1, _, m', p, B, S', P', z, _, _, rfl, h', a.symm, fun _ => ends_c es.1, l⟩⟩
      have B5 := Lib.hid hb
      clear hb5
      generalize cnt (P s) i = c
      have T : Hid (∀ w6, HdC w6 b p B S d lim P z (lowE (hN P z) u x) (highE (hN P z) v x) → Frame [b] w5 w6 → Hid (Calls Tryz.prog 105 #[.pointer (some ⟨B s, 0, none⟩), .int .i64 i, .int .u64 n] w6 fun e w' => e = .returned (.int .i64 0) ∧ HpR b (hS b p S) d lim m (hN P z) lo hi x n w (.returned (.int .i64 0)) w')) := fun w6 h k => AD.out w6 h B5.out k
      replace EN := Lib.hid (EN.out w5 B5.out)
      clear AD hb
      by_cases hc : c = 0
      · subst hc
        go_wp2_with fail
        refine LE.out.mono ?_
        rintro e w5 ⟨rfl, rfl⟩
        generalize ((P s).length : Nat) = q at *
        clear LE
        go_wp2_with fail
        refine EN.out.mono ?_
        rintro e w6 ⟨rfl, h6, hF⟩
        have A := T.out w6 h6 hF
        clear h6 hF
        go_wp2_with fail
        refine A.out.mono ?_
        rintro e w7 ⟨rfl, h7⟩
        have h7 := Lib.hid h7
        go_wp2
        go_ret
        exact h7.out
      · have hc' := beq_eq_false_iff_ne.2 hc
        clear LE d1
        go_wp2_with fail
        refine EN.out.mono ?_
        rintro e w6 ⟨rfl, h6, hF⟩
        have A := T.out w6 h6 hF
        clear h6 hF
        go_wp2_with fail
        refine A.out.mono ?_
        rintro e w7 ⟨rfl, h7⟩
        have h7 := Lib.hid h7
        go_wp2
        go_ret
        exact h7.out
end
end Go.Proofs.YtlbnlmhcpephbaaGreatDoor

namespace Go.Proofs.YtlbnlmhcpephbaaGreatDoor
open Go.RowKit
def sumK (Q : Bool → List (Int × Int)) (k : Nat) : Int := (if 0 < k then sumP (Q true) else 0) + if 1 < k then sumP (Q false) else 0
def lenK (Q : Bool → List (Int × Int)) (k : Nat) : Nat := (if 0 < k then (Q true).length else 0) + if 1 < k then (Q false).length else 0
section
variable {w w' : World} {b p o q m k : Nat} {B C : Bool → Nat} {S U : Bool → List Nat} {T : List Nat} {d lim z lo hi n x y N M z2 d2 lim2 lo2 hi2 : Int} {P Q : Bool → List (Int × Int)} {ps : List (Int × Int)} {s : Bool}
theorem side_ix (hk : k < 2) : ∃ s : Bool, (∀ (B : Bool → Nat) W, (Instr.index 159 (.agg #[.pointer (some ⟨B true, 0, none⟩), .pointer (some ⟨B false, 0, none⟩)]) (.int .i64 (k : Nat))).run Tryz.prog W = .ok (.pointer (some ⟨B s, 0, none⟩)) W) ∧
  (∀ {w : World} {b p : Nat} {B : Bool → Nat} {d lim z lo hi : Int}, At w b (hB d lim p B z lo hi) 161 → w.cell? ⟨b, 3 + k, none⟩ = some (.pointer (some ⟨B s, 0, none⟩))) ∧ (∀ Q, sumK Q (k + 1) = sumK Q k + sumP (Q s) ∧ lenK Q (k + 1) = lenK Q k + (Q s).length) ∧
  ∀ (A : Bool → Option Addr) (n c : Bool → Nat) W, (Instr.index 223 (.agg #[.slice (A true) (n true) (c true), .slice (A false) (n false) (c false)]) (.int .i64 (k : Nat))).run Tryz.prog W = .ok (.slice (A s) (n s) (c s)) W := by
 rcases (by omega : k = 0 ∨ k = 1) with rfl | rfl
 ·exact ⟨true, fun B W => by kernel_rfl, fun h => h.cell (i := 3) rfl, fun Q => by simp [sumK, lenK], fun A n c W => by kernel_rfl⟩
 ·exact ⟨false, fun B W => by kernel_rfl, fun h => h.cell (i := 4) rfl, fun Q => by simp [sumK, lenK], fun A n c W => by kernel_rfl⟩
set_option maxRecDepth 100000 in
set_option maxHeartbeats 1000000 in
theorem hfits_w (h : HdC w b p B S d lim P z lo hi) (k : HdC w o q C U d2 lim2 Q z2 lo2 hi2) : Calls Tryz.prog 229 #[.pointer (some ⟨b, 0, none⟩), .pointer (some ⟨o, 0, none⟩)] w fun e w' => (∃ g, e = .returned (.bool g)) ∧ Below w.heap.size w w' := by
 have H := Lib.hid (And.intro h k)
 have f1 := h.at'.c8
 have l1 := h.at'.lt
 clear h k
 go_enter Tryz.func229, Tryz.ntmps229
 go_wp2
 go_loopw [5, 6, 7, 9, 14, 28] (fun _ _ _ _ i _ wr => ∃ k : Nat, k ≤ 2 ∧ i = .int .i64 k ∧ Below w.heap.size w wr) (fun _ _ _ _ i _ _ => 2 - (intOf i).toNat)
 case atStart => exact ⟨0, by omega, rfl, Below.refl _ _⟩
 case round =>
  clear f1 l1
  obtain ⟨k, hk, rfl, hB⟩ := hrel
  by_cases hlt : k < 2
  ·obtain ⟨s, IX, CE, -⟩ := side_ix hlt
   have k0 : (0 : Int) ≤ k := by omega
   have k1 : (k : Int) < 2 := by omega
   have k2 : IntKind.i64.wrap ((k : Int) + 1) = ((k + 1 : Nat) : Int) := by simp only [IntKind.wrap_i64]; omega
   replace IX := IX B
   have SL := Lib.hid (slen_any _ _ _ _ _ ((H.out.1.below hB).st s))
   have SP := Lib.hid (spairs_any _ _ _ _ _ ((H.out.2.below hB).st s))
   have t1 := CE (H.out.2.below hB).at'
   have t2 := (H.out.2.below hB).at'.lt
   obtain ⟨n, hn⟩ : ∃ n, (Q s).length = n := ⟨_, rfl⟩
   have HN := Lib.hid hn
   generalize ((P s).length : Int) = a at *
   have HB := Lib.hid hB
   clear CE hB hn
   go_wp2_with fail
   refine SL.out.mono ?_
   rintro e w1 ⟨rfl, rfl⟩
   go_wp2_with fail
   refine SP.out.mono ?_
   rintro e w2 ⟨A, c, rfl, ho, hb⟩
   have R := Lib.hid ho.rd
   have hb2 := keep1 HB.out hb
   clear SL SP ho hb t1 t2
   rw [HN.out]
   go_wp2
   go_loopw [7, 9, 28] (fun n' _ i wi => ∃ (j : Nat) (z : Int), j ≤ n ∧ i = .int .i64 j ∧ n' = .int .i64 z ∧ Below w.heap.size w wi ∧ Below w2.heap.size w2 wi) (fun _ _ i _ => n - (intOf i).toNat)
   case atStart => exact ⟨0, a, by omega, rfl, rfl, hb2, Below.refl _ _⟩
   case round =>
    clear hb2
    obtain ⟨j, z, hj, rfl, rfl, hb3, hb4⟩ := hrel
    by_cases hjt : j < n
    ·have hjl : j < (Q s).length := by have := HN.out; omega
     have n4 := ((H.out.2.st s).len).2
     rw [HN.out] at n4
     obtain ⟨g, o', rfl, hg, d1, d2⟩ := (R.out.below hb4).at j hjl
     generalize (Q s)[j].1 = y1 at *
     generalize (Q s)[j].2 = y2 at *
     have j0 : (0 : Int) ≤ j := by omega
     have j1 : (j : Int) < n := by omega
     have j2 : IntKind.i64.wrap ((j : Int) + 1) = ((j + 1 : Nat) : Int) := by simp only [IntKind.wrap_i64]; omega
     have SA := Lib.hid fun W (hb : Below w.heap.size w W) => sat_any _ _ _ _ y1 _ ((H.out.1.below hb).st s)
     replace hb3 := keep1 hb3 (bn wr (.cells #[.int .i64 y1, .int .u64 y2] 247))
     replace hb4 := keep1 hb4 (bn wr (.cells #[.int .i64 y1, .int .u64 y2] 247))
     go_wp2_with fail
     generalize wr.alloc _ = W3 at *
     refine (SA.out _ hb3).mono ?_
     rintro e w4 ⟨rfl, hb⟩
     replace hb3 := keep1 hb3 hb
     replace hb4 := keep1 hb4 hb
     generalize cnt (P s) y1 = u
     clear SA hb d1 d2 hg hjl
     rcases Decidable.em (u = 0) with rfl | hu
     ·go_wp2
      go_roundw
      case rel => exact ⟨j + 1, _, by omega, by simp, rfl, hb3, hb4⟩
      case measure => simp [intOf]; omega
     ·have hu' := beq_eq_false_iff_ne.2 hu
      go_wp2
      go_roundw
      case rel => exact ⟨j + 1, _, by omega, by simp, rfl, hb3, hb4⟩
      case measure => simp [intOf]; omega
    ·by_cases hz : (4096 : Int) < z
     ·go_wp2
      go_ret
      exact ⟨⟨_, rfl⟩, hb3⟩
     ·go_wp2
      go_roundw
      case rel => exact ⟨k + 1, by omega, by simp, hb3⟩
      case measure => simp [intOf]; omega
  ·go_wp2
   go_ret
   exact ⟨⟨_, rfl⟩, hB⟩
end
end Go.Proofs.YtlbnlmhcpephbaaGreatDoor

namespace Go.Proofs.YtlbnlmhcpephbaaGreatDoor
open Go.RowKit
def HjR (b : Nat) (T : List Nat) (d lim : Int) (m : Nat) (N lo hi : Int) (m2 : Nat) (M lo2 hi2 : Int) (w : World) (e : Ending) (w' : World) : Prop :=
 ∃ c : Int, e = .returned (.int .i64 c) ∧ (c ≠ 0 ∧ Below w.heap.size w w' ∨ c = 0 ∧ ∃ S', Mv T S' w w' ∧ Hw w' b S' d lim (m + m2) (N + M) (if M = 0 then lo else lowE N lo lo2) (if M = 0 then hi else highE N hi hi2))
section
variable {w w' W : World} {b p o q m m2 k l n : Nat} {B C : Bool → Nat} {S U : Bool → List Nat} {T V : List Nat} {d lim z lo hi x y N M z2 d2 lim2 lo2 hi2 : Int} {P Q : Bool → List (Int × Int)} {ps qs : List (Int × Int)} {s : Bool} {A : Option Addr}
theorem HjJ.row {c : Nat} (h : HjJ w b p B T d lim z lo hi W N l none []) (hb : Below W.heap.size W w') (ho : Own2 W.heap.size w' A c qs) : HjJ w b p B T d lim z lo hi w' N l A qs := by
 obtain ⟨S, P, h, m, r, q, k⟩ := h
 exact ⟨S, P, h.below hb, m.trans (Mv.of _ hb), r, q, CloR.rda ho h.lt⟩
theorem HjJ.drop (h : HjJ w b p B T d lim z lo hi W N l A qs) : HjJ w b p B T d lim z lo hi W N l none [] := by
 obtain ⟨S, P, h, m, r, q, k⟩ := h
 exact ⟨S, P, h, m, r, q, Rd.nil _ _, fun a e => by cases e⟩
theorem HdC.sumK (h : HdC w b p B S d lim P z lo hi) (k : Nat) : 0 ≤ sumK P k ∧ Go.Proofs.YtlbnlmhcpephbaaGreatDoor.sumK P k + z ≤ hN P z ∧ (2 ≤ k → Go.Proofs.YtlbnlmhcpephbaaGreatDoor.sumK P k + z = hN P z) ∧ lenK P k ≤ (P true).length + (P false).length := by
 have := h.nn true
 have := h.nn false
 unfold Go.Proofs.YtlbnlmhcpephbaaGreatDoor.sumK lenK hN
 refine ⟨?_, ?_, ?_, ?_⟩ <;> split <;> split <;> omega
set_option maxRecDepth 100000 in
set_option maxHeartbeats 2000000 in
theorem hjoin_w (h : Hw w b T d lim m N lo hi) (k : Hw w o V d lim m2 M lo2 hi2) (ap : Apart T V) (hm : m + m2 < 4000) (hs : N + M ≤ 8000) (hx : I64 lo2) (hy : I64 hi2) : Calls Tryz.prog 225 #[.pointer (some ⟨b, 0, none⟩), .pointer (some ⟨o, 0, none⟩)] w (HjR b T d lim m N lo hi m2 M lo2 hi2 w) := by
  have F : Hid (∀ (c : Int) W, c ≠ 0 → Below w.heap.size w W → HjR b T d lim m N lo hi m2 M lo2 hi2 w (.returned (.int .i64 c)) W) := fun c W h k => ⟨c, rfl, .inl ⟨h, k⟩⟩
  have Z : Hid (∀ W, M = 0 → Below w.heap.size w W → HjR b T d lim m N lo hi m2 M lo2 hi2 w (.returned (.int .i64 0)) W) := fun W e hb => by
    obtain ⟨p, B, S, P, z, u, v, rfl, h, r1, r2, r3⟩ := h
    exact ⟨0, rfl, .inr ⟨rfl, _, Mv.of _ hb, p, B, S, P, z, u, v, rfl, h.below hb, by omega, by simpa [e] using r2, by omega⟩⟩
  obtain ⟨p, B, S, P, z, u, v, rfl, h, rfl, he, hl⟩ := h
  obtain ⟨q, C, U, Q, z2, u2, v2, rfl, k, hM, he2, hl2⟩ := k
  have HM := Lib.hid hM.symm
  have h0 := h.n0
  have s1 := h.at'
  have t1 := k.at'
  have f1 := s1.c8
  have f2 := t1.c8
  have l1 := s1.lt
  have l2 := t1.lt
  have H := Lib.hid (And.intro h (And.intro k ap))
  have E := Lib.hid (And.intro he (And.intro hl (And.intro hl2 (And.intro hm (And.intro hs h0)))))
  have E2 := Lib.hid he2
  have HX := Lib.hid (And.intro hx hy)
  clear h k ap he hl he2 hl2 hm hs hx hy h0 hM
  go_enter Tryz.func225, Tryz.ntmps225
  go_wp2
  go_quiet (fail)
  have hb : Below w.heap.size w (w.drewN nq) := (Below.refl _ _).drewN _
  go_wp2_with fail
  refine (htot_any (H.out.2.1.below hb) (by have := E.out; have := HM.out; omega)).mono ?_
  rintro e w1 ⟨rfl, hb1⟩
  replace hb := keep1 hb hb1
  rw [HM.out]
  clear hb1 f1 f2 l1 l2
  by_cases hz : M = 0
  · have R := Lib.hid (Z.out _ hz hb)
    subst hz
    clear F
    go_wp2
    go_ret
    exact R.out
  obtain ⟨rfl, rfl⟩ := E2.out hz
  have hz' := beq_eq_false_iff_ne.2 hz
  have HZ := Lib.hid hz
  have f2 := (t1.below hb).c8
  have l2 := (t1.below hb).lt
  have f1 := (s1.below hb).c8
  have l1 := (s1.below hb).lt
  clear E2 hz Z
  go_wp2_with fail
  refine (sgof_any _ _ HX.out.1.1 HX.out.1.2).mono ?_
  rintro e w1 ⟨rfl, rfl⟩
  go_wp2_with fail
  refine (sgof_any _ _ HX.out.2.1 HX.out.2.2).mono ?_
  rintro e w1 ⟨rfl, rfl⟩
  generalize (u2.natAbs : Int) = a1
  generalize (v2.natAbs : Int) = a2
  by_cases hr : 0 < lim ∧ lim < max a1 a2
  · obtain ⟨r1, r2⟩ := hr
    have R := Lib.hid (F.out 7 _ (by decide) hb)
    clear F
    go_wp2
    go_ret
    exact R.out
  have r1 : decide (0 < lim) = false ∨ decide (0 < lim) = true ∧ decide (lim < max a1 a2) = false := by by_cases e : 0 < lim <;> simp [e] at hr ⊢; exact hr
  have PL := Lib.hid fun W (hb : Below w.heap.size w W) => plus2_new (a := hN P z) (b := M) hb E.out.2.2.2.2.2 (by have := H.out.2.1.n0; have := HM.out; omega) (by have := E.out; omega)
  clear hr
  rcases r1 with r1 | ⟨r1, r2⟩
  all_goals
    go_wp2_with fail
    refine (htot_any (H.out.1.below hb) (by have := E.out; have := H.out.2.1.n0; have := HM.out; omega)).mono ?_
    rintro e w2 ⟨rfl, hb2⟩
    replace hb := keep1 hb hb2
    clear hb2 f1 f2 l1 l2
    go_wp2_with fail
    refine (htot_any (H.out.2.1.below hb) (by have := HM.out; have := E.out; omega)).mono ?_
    rintro e w3 ⟨rfl, hb2⟩
    replace hb := keep1 hb hb2
    clear hb2
    rw [HM.out]
    go_wp2_with fail
    refine (PL.out w3 hb).mono ?_
    rintro e w4 ⟨rfl, hb⟩
    go_wp2_with fail
    refine (hfits_w (H.out.1.below hb) (H.out.2.1.below hb)).mono ?_
    rintro e w5 ⟨⟨g, rfl⟩, hb5⟩
    replace hb := keep1 hb hb5
    clear hb5 PL r1
    cases g with
    | false =>
      have R := Lib.hid (F.out 6 _ (by decide) hb)
      clear F
      go_wp2
      go_ret
      exact R.out
    | true =>
      have g2 := (t1.below hb).c8
      have k2 := (t1.below hb).lt
      replace hb := hb.drew
      clear F
      go_upto_region 14 with fail
      go_still_tail 9, (by kernel_rfl)
      change wpList _ _ _ _ _ w5.drew
      clear g2 k2
      generalize w5.drew = W at hb ⊢
      go_wp2_with fail
      refine (hends_w (x := u2) (y := v2) (H.out.1.below hb) (by have := E.out; have := H.out.2.1.n0; have := HM.out; omega)).mono ?_
      rintro e w6 ⟨rfl, h6, hF⟩
      have J : Hid (HjJ w b p B (hS b p S) d lim z (lowE (hN P z) u u2) (highE (hN P z) v v2) w6 (hN P z + sumK Q 0) (m + lenK Q 0) none []) := ⟨S, P, h6, (Mv.of _ hb).trans ⟨GrownS.refl _ _, hF.mono (by simp [hS])⟩, by simp [sumK], by simpa [lenK] using E.out.2.1, Rd.nil _ _, fun a e => by cases e⟩
      have f6 := h6.at'.c8
      have l6 := h6.at'.lt
      clear h6 hF hb s1 t1
      go_wp2
      clear f6 l6
      go_loopw [11, 12, 14, 102, 114] (fun _ _ _ i _ wr => ∃ k : Nat, k ≤ 2 ∧ i = .int .i64 k ∧ Hid (HjJ w b p B (hS b p S) d lim z (lowE (hN P z) u u2) (highE (hN P z) v v2) wr (hN P z + sumK Q k) (m + lenK Q k) none [])) (fun _ _ _ i _ _ => 2 - (intOf i).toNat)
      case atStart => exact ⟨0, by omega, rfl, J⟩
      case round =>
        clear J
        obtain ⟨k, hk, rfl, J⟩ := hrel
        by_cases hlt : k < 2
        · obtain ⟨s, IX, CE, SK, -⟩ := side_ix hlt
          have k0 : (0 : Int) ≤ k := by omega
          have k1 : (k : Int) < 2 := by omega
          have k3 : IntKind.i64.wrap ((k : Int) + 1) = ((k + 1 : Nat) : Int) := by simp only [IntKind.wrap_i64]; omega
          replace IX := IX B
          have K := H.out.2.1
          have sk := K.sumK (k + 1)
          rw [(SK Q).1, (SK Q).2] at sk
          replace K : HdC wr o q C U d lim Q z2 u2 v2 := by obtain ⟨S', P', -, m', -⟩ := J.out; exact K.frame m'.f H.out.2.2.symm
          have SP := Lib.hid (spairs_any _ _ _ _ _ (K.st s))
          have c1 := CE K.at'
          have c2 := K.at'.lt
          have n4 := (K.st s).len.2
          have Y := Lib.hid (And.intro (K.st s).gd (And.intro (K.st s).ok sk))
          obtain ⟨n, hn⟩ : ∃ n, (Q s).length = n := ⟨_, rfl⟩
          have HN := Lib.hid hn
          rw [hn] at n4
          have SK := Lib.hid (SK Q)
          clear CE sk K hn
          go_wp2_with fail
          refine SP.out.mono ?_
          rintro e w7 ⟨A, c, rfl, ho, hb⟩
          replace J : Hid (HjJ w b p B (hS b p S) d lim z (lowE (hN P z) u u2) (highE (hN P z) v v2) w7 (hN P z + sumK Q k + sumP ((Q s).take 0)) (m + lenK Q k + 0) A (Q s)) := by have := J.out.row hb ho; rw [← Int.add_zero (hN P z + sumK Q k)] at this; exact this
          clear SP ho hb c1 c2
          rw [HN.out]
          go_wp2
          go_loopw [14, 114] (fun _ i wi => ∃ j : Nat, j ≤ n ∧ i = .int .i64 j ∧ Hid (HjJ w b p B (hS b p S) d lim z (lowE (hN P z) u u2) (highE (hN P z) v v2) wi (hN P z + sumK Q k + sumP ((Q s).take j)) (m + lenK Q k + j) A (Q s))) (fun _ i _ => n - (intOf i).toNat)
          case atStart => exact ⟨0, by omega, rfl, J⟩
          case round =>
            clear J
            obtain ⟨j, hj, rfl, J⟩ := hrel
            by_cases hjt : j < n
            · have hjl : j < (Q s).length := by have := HN.out; omega
              obtain ⟨g, o', e, hg, d1, d2⟩ := RdP.at (by obtain ⟨_, _, _, _, _, _, r⟩ := J.out; exact r.1) j hjl
              cases e
              have j0 : (0 : Int) ≤ j := by omega
              have j1 : (j : Int) < n := by omega
              have j2 : IntKind.i64.wrap ((j : Int) + 1) = ((j + 1 : Nat) : Int) := by simp only [IntKind.wrap_i64]; omega
              have tk := sumP_take (Q s) j hjl
              have tl := sumP_take_le Y.out.1.pos (j + 1)
              have gp := Y.out.1.pos _ (List.getElem_mem hjl)
              have ok := Y.out.2.1.at j hjl
              obtain ⟨⟨x, c⟩, hxc⟩ : ∃ y, (Q s)[j] = y := ⟨_, rfl⟩
              rw [hxc] at d1 d2 tk gp ok
              dsimp only at d1 d2 tk gp ok
              have AD : Hid (∀ W, Below wr.heap.size wr W → Calls Tryz.prog 105 #[.pointer (some ⟨B s, 0, none⟩), .int .i64 x, .int .u64 c] W fun e w' => e = .returned (.int .i64 0) ∧ HjJ w b p B (hS b p S) d lim z (lowE (hN P z) u u2) (highE (hN P z) v v2) w' (hN P z + sumK Q k + sumP ((Q s).take (j + 1))) (m + lenK Q k + (j + 1)) (some ⟨g, o', none⟩) (Q s)) := fun W hb => by
                have := (J.out.below hb).add s gp ok.1 (by have := Y.out.2.2; have := E.out; have := HM.out; have := H.out.2.1.z0; omega) (by have := Y.out.2.2; have := E.out; have := HN.out; omega)
                rw [tk, show hN P z + sumK Q k + (sumP ((Q s).take j) + c) = hN P z + sumK Q k + sumP ((Q s).take j) + c by omega]
                exact this
              have AD := Lib.hid (AD.out _ (bn wr (.cells #[.int .i64 x, .int .u64 c] 247)))
              have aP := At.new wr #[.int .i64 x, .int .u64 c] 247
              have f3 := aP.two
              have l3 := aP.lt
              clear J aP tk tl gp ok hxc hjl
              go_wp2_with fail
              refine AD.out.mono ?_
              rintro e w8 ⟨rfl, J⟩
              replace J := Lib.hid J
              clear AD f3 l3 d1 d2 hg
              go_wp2
              go_roundw
              case rel => exact ⟨j + 1, by omega, by simp, J⟩
              case measure => simp [intOf]; omega
            · obtain rfl : j = n := by omega
              have J : Hid (HjJ w b p B (hS b p S) d lim z (lowE (hN P z) u u2) (highE (hN P z) v v2) wr (hN P z + sumK Q (k + 1)) (m + lenK Q (k + 1)) none []) := by
                have := J.out.drop
                rw [List.take_of_length_le (by have := HN.out; omega)] at this
                rw [SK.out.1, SK.out.2, HN.out, ← Int.add_assoc, ← Nat.add_assoc]
                exact this
              clear hjt
              go_wp2
              go_roundw
              case rel => exact ⟨k + 1, by omega, by simp, J⟩
              case measure => simp [intOf]; omega
        · obtain rfl : k = 2 := by omega
          obtain ⟨S', P', h', m', r1, r2, -⟩ := J.out
          have sk := H.out.2.1.sumK 2
          have K := H.out.2.1.frame m'.f H.out.2.2.symm
          have hz0 := h'.zle
          have f3 := h'.at'.c8
          have l3 := h'.at'.lt
          have f4 := K.at'.c8
          have l4 := K.at'.lt
          have wz : IntKind.u64.wrap (z + z2) = z + z2 := by have := E.out; have := HM.out; have := h'.z0; have := K.z0; simp only [IntKind.wrap_u64]; omega
          have h2 := h'.set (z2 := z + z2) (h'.at'.set_any 5 (.int .u64 (z + z2)) rfl) (by have := h'.z0; have := K.z0; omega)
          have FIN : Hid (HjR b (hS b p S) d lim m (hN P z) lo hi m2 M u2 v2 w (.returned (.int .i64 0)) (wr.setCell ⟨b, 5, none⟩ (.int .u64 (z + z2))).drew) := by
            refine ⟨0, rfl, .inr ⟨rfl, _, m'.trans ⟨GrownS.refl _ _, (Frame.set _ wr b 5 _ (by simp [hS])).drew⟩, p, B, S', P', z + z2, _, _, rfl, h2.below (Below.refl _ _).drew, ?_, fun _ => ?_, ?_⟩⟩
            · rw [hN_z, r1]; have := sk.2.2.1 (by omega); have := HM.out; omega
            · rw [if_neg HZ.out, if_neg HZ.out]; exact ends_c E.out.1
            · have := sk.2.2.2; have := E.out; omega
          clear J h' m' r1 r2 sk K h2 hz0
          go_wp2
          go_region
          clear f3 l3 f4 l4
          go_wp2
          go_ret
          exact FIN.out
end
end Go.Proofs.YtlbnlmhcpephbaaGreatDoor

namespace Go.Proofs.YtlbnlmhcpephbaaGreatDoor
open Go.RowKit
def AtH (b : Nat) (cs : Array Value) (T : TypeId) (W : World) : Prop := At W b cs T
theorem AtH.a {b : Nat} {cs : Array Value} {T : TypeId} {W : World} (h : AtH b cs T W) : At W b cs T := h
def RowsE (ps qs : List (Int × Int)) (w : World) (e : Ending) (w' : World) : Prop := (∃ A c B d, e = .returned (.tuple #[.slice A ps.length c, .slice B qs.length d]) ∧ RdP w' A ps ∧ RdP w' B qs) ∧ Below w.heap.size w w'
section
variable {w w' : World} {b p : Nat} {B : Bool → Nat} {S : Bool → List Nat} {d lim z lo hi : Int} {P : Bool → List (Int × Int)}
set_option maxRecDepth 100000 in
set_option maxHeartbeats 1000000 in
theorem hrows_w (h : HdC w b p B S d lim P z lo hi) : Calls Tryz.prog 226 #[.pointer (some ⟨b, 0, none⟩)] w (RowsE (P true) (P false) w) := by
 have hb : Below w.heap.size w w.drew := (Below.refl _ _).drew
 have H := Lib.hid (h.below hb)
 clear h
 go_enter Tryz.func226, Tryz.ntmps226
 go_upto_region 3 with fail
 have hT : AtH b _ _ w.drew := H.out.at'
 refine held_h (by kernel_rfl) (HeldS.mk' hT) (fun hHeld => ?_)
 generalize w.drew = W at *
 have hne := hHeld.ne
 have hf := fun x => (hHeld.get x).a.c8
 refine runH [5, 1, 5] 4 hHeld ?_
 simp only [runL, runN, runOps_true, runOps_false, runOps_nil]
 repeat go_big_quiet_step (fail)
 refine wpQuiet_nil ?_
 clear hf hne
 refine readyH 5 fun K hK => ?_
 go_simp
 go_wp2_with (go_at_call 211; refine (spairs_any _ _ _ _ _ (H.out.st true)).mono ?_; rintro e w5 ⟨A0, c0, rfl, ho, hb5⟩)
 refine hK.out _ _ ?_ (fun hHeld => ?_)
 clear hK K
 ·exact HeldS.mk' (hT.a.below hb5)
 have R := Lib.hid (And.intro ho.rd (And.intro (H.out.below hb5) (keep1 hb hb5)))
 replace hT : AtH b _ _ w5 := hT.a.below hb5
 clear ho hb5 hb H
 refine readyH 11 fun K hK => ?_
 go_simp
 go_wp2_with (go_at_call 211; refine (spairs_any _ _ _ _ _ (R.out.2.1.st false)).mono ?_; rintro e w6 ⟨A1, c1, rfl, ho, hb6⟩)
 refine hK.out _ _ ?_ (fun hHeld => ?_)
 clear hK K
 ·exact HeldS.mk' (hT.a.below hb6)
 have F : Hid (RowsE (P true) (P false) w (.returned (.tuple #[.slice A0 (P true).length c0, .slice A1 (P false).length c1])) w6) := ⟨⟨A0, c0, A1, c1, rfl, R.out.1.below hb6, ho.rd⟩, keep1 R.out.2.2 hb6⟩
 clear ho hb6 R hT
 refine runH [0, 12, 2] 0 hHeld ?_
 simp only [runL, runN, runOps_true, runOps_false, runOps_nil]
 repeat go_big_quiet_step (fail)
 refine wpQuiet_nil ?_
 refine doneH ?_
 clear hHeld
 generalize (P true).length = n0 at *
 generalize (P false).length = n1 at *
 go_wp2
 go_ret2
 exact F.out
theorem hconf_w (h : HdC w b p B S d lim P z lo hi) : Calls Tryz.prog 227 #[.pointer (some ⟨b, 0, none⟩)] w fun e w' => e = .returned (.agg #[.int .i64 d, .int .u64 lim]) ∧ Below w.heap.size w w' := by
 have g := h.at'.c8
 have l := h.at'.lt
 clear h
 go_enter Tryz.func227, Tryz.ntmps227
 go_wp2
 have x := (At.new w #[.int .i64 d, .int .u64 lim] 110).two
 exact bodyPost_ret (v := .agg #[.int .i64 d, .int .u64 lim]) (by simp only [results, Tryz.f227]; simp [go_sem, x]) rfl ⟨rfl, bn _ _⟩
theorem hzero_w (h : HdC w b p B S d lim P z lo hi) : Calls Tryz.prog 228 #[.pointer (some ⟨b, 0, none⟩)] w fun e w' => e = .returned (.int .u64 z) ∧ w = w' := by
 have g := h.at'.c8
 clear h
 go_enter Tryz.func228, Tryz.ntmps228
 go_wp2
 go_ret
 exact ⟨rfl, rfl⟩
end
end Go.Proofs.YtlbnlmhcpephbaaGreatDoor

namespace Go.Proofs.YtlbnlmhcpephbaaGreatDoor
open Go.RowKit
set_option maxRecDepth 100000
set_option maxHeartbeats 4000000
section
variable {w W : World} {q b sb dn fn : Nat} {T : List Nat} {L lo hi x y : Int} {ps : List (Int × Int)}
theorem dputok (h : DgB w q sb T dn fn L ps lo hi) (hs : sumP ps ≤ 8000) : PutOk ps :=
 ⟨h.st.gd, fun z hz => by have := h.nd z hz; have := h.tr.l1; omega, fun z hz => by have := mem_leP h.st.gd.pos hz; omega⟩
theorem dwrite_w (h : DgB w q sb T dn fn L ps lo hi) (hx : I64 x) (hy : I64 y) (he : endW (sumP ps) x y = endW (sumP ps) lo hi) (h0 : sumP ps = 0 → x = 0 ∧ y = 0) (hn : ps.length ≤ 4000) (hs : sumP ps ≤ 8000) (hb : Below w.heap.size w W) (hq : Qu W b none 0 0 []) (hg : w.heap.size ≤ b) :
  Calls Tryz.prog 265 #[.agg #[pt q], pt b] W fun e w' => e = .returned (.tuple #[]) ∧ ∃ W1 A len cap, Below W.heap.size W W1 ∧ QuI W1 w' b none A len cap (natsB [dn, fn] ++ intsB [x, y] ++ rowB ps) := by
 obtain ⟨g, hv⟩ : ∃ g, endW (sumP ps) lo hi = .tuple #[.int .i64 x, .int .i64 y, .bool g] := by
  rw [← he]; unfold endW; split
  ·rename_i e; obtain ⟨rfl, rfl⟩ := h0 e; exact ⟨_, rfl⟩
  ·exact ⟨_, rfl⟩
 have b1 := bn W (.cells #[pt q] 119)
 have a1 := At.new W #[pt q] 119
 have cn : W.heap.size ≠ b := fun e => by have := hq.at'.lt; omega
 have EN : Hid (∀ V, Below w.heap.size w V → Calls Tryz.prog Kd.dig.ends #[pt q] V fun e w' => e = .returned (.tuple #[.int .i64 x, .int .i64 y, .bool g]) ∧ Below V.heap.size V w') := fun V hV => by rw [← hv]; exact dends_any (h.below hV)
 have CF := Lib.hid fun V (hV : Below w.heap.size w V) => dconfig_any (h.below hV)
 have ND := Lib.hid fun V (hV : Below w.heap.size w V) => dnodes_any (h.below hV)
 have Z := Lib.hid (And.intro hb (And.intro hq (And.intro hg (And.intro hn (And.intro (dputok h hs) (And.intro hx hy))))))
 have d1 : (0 : Int) ≤ dn ∧ (dn : Int) ≤ 24 := by have := h.tr.d0; have := h.tr.d1; omega
 have d2 : (0 : Int) ≤ fn ∧ (fn : Int) ≤ 64 := by have := h.f0; have := h.f1; omega
 clear hv he h0 h hb hq hg hn hs hx hy
 go_enter Tryz.func265, Tryz.ntmps265
 have f1 := a1.one
 have l1 := a1.lt
 go_wp2_with fail
 generalize W.alloc _ = W1 at *
 obtain ⟨c, hc⟩ : ∃ c, W.heap.size = c := ⟨_, rfl⟩
 have HC := Lib.hid hc
 rw [hc] at a1 f1 l1 cn
 simp only [hc]
 clear hc
 refine (EN.out W1 (keep1 Z.out.1 b1)).mono ?_
 rintro e w3 ⟨rfl, hb⟩
 replace b1 := keep1 b1 hb
 have J := Lib.hid (WqS.start (keep1 Z.out.1 b1) (a1.below hb) (Qu.below Z.out.2.1 b1) cn Z.out.2.2.1)
 have B1 := Lib.hid b1
 have f3 := J.out.a1.one
 have l3 := J.out.a1.lt
 clear hb a1 f1 l1 b1 EN cn
 go_wp2_with fail
 replace J := Lib.hid (J.out.below (Below.refl _ _).drew)
 refine held_h (S := HeldS (AtH c #[pt q] 119)) (by kernel_rfl) (HeldS.mk' J.out.a) (fun hHeld => ?_)
 clear f3 l3
 generalize w3.drew = W4 at *
 have hne := hHeld.ne
 have hf := fun x => (hHeld.get x).a.one
 have hc0 : ∀ W : World, (Instr.field 117 (.agg #[.int .i64 (dn : Int), .int .i64 (fn : Int)]) 0).run Tryz.prog W = .ok (.int .i64 (dn : Int)) W := fun W => by kernel_rfl
 have hc1 : ∀ W : World, (Instr.field 117 (.agg #[.int .i64 (dn : Int), .int .i64 (fn : Int)]) 1).run Tryz.prog W = .ok (.int .i64 (fn : Int)) W := fun W => by kernel_rfl
 refine runH [3, 3, 2] 8 hHeld ?_
 simp only [runL, runN, runOps_true, runOps_false, runOps_nil]
 repeat go_big_quiet_step (fail)
 refine wpQuiet_nil ?_
 clear hf
 refine readyH 3 fun K hK => ?_
 go_simp
 go_wp2_with (go_at_call 267; refine (CF.out W4 J.out.bw).mono ?_; rintro e w5 ⟨rfl, hb⟩)
 refine hK.out _ _ ?_ (fun hHeld => ?_)
 clear hK K
 ·exact HeldS.mk' (J.out.below hb).a
 replace J := Lib.hid (J.out.below hb)
 clear hb
 refine runH [0, 4, 2] 5 hHeld ?_
 simp only [runL, runN, runOps_true, runOps_false, runOps_nil]
 repeat go_big_quiet_step (fail)
 refine wpQuiet_nil ?_
 refine readyH 8 fun K hK => ?_
 go_simp
 go_wp2_with (go_at_call 267; refine (CF.out w5 J.out.bw).mono ?_; rintro e w6 ⟨rfl, hb⟩)
 refine hK.out _ _ ?_ (fun hHeld => ?_)
 clear hK K
 ·exact HeldS.mk' (J.out.below hb).a
 replace J := Lib.hid (J.out.below hb)
 clear hb CF
 refine runH [0, 9, 2] 2 hHeld ?_
 simp only [runL, runN, runOps_true, runOps_false, runOps_nil]
 repeat go_big_quiet_step (fail)
 refine wpQuiet_nil ?_
 have N := Lib.hid (J.out.nats (n := 2) [dn, fn] (fun u hu => by simp only [List.mem_cons, List.not_mem_nil, or_false] at hu; omega) rfl (by omega))
 have A := Lib.hid (J.out.below (bn w6 (.cells #[.int .u64 (dn : Int), .int .u64 (fn : Int)] 23))).a
 clear hc0 hc1
 refine readyH 11 fun K hK => ?_
 go_simp
 refine hK.out _ _ (HeldS.mk' A.out) (fun hHeld => ?_)
 clear hK K A
 refine readyH 12 fun K hK => ?_
 go_simp
 go_wp2_with (go_at_call 96; refine N.out.mono ?_; rintro e w7 ⟨rfl, J7⟩)
 refine hK.out _ _ ?_ (fun hHeld => ?_)
 clear hK K
 ·exact HeldS.mk' J7.a
 refine doneH ?_
 have N := Lib.hid (J7.ints (n := 2) [x, y] (fun u hu => by have := Z.out.2.2.2.2.2; simp only [List.mem_cons, List.not_mem_nil, or_false] at hu; rcases hu with rfl | rfl; exact this.1; exact this.2) rfl (by omega))
 clear hHeld hne J J7
 go_wp2_with fail
 refine N.out.mono ?_
 rintro e w8 ⟨rfl, J⟩
 have f8 := J.a.one
 have l8 := J.a.lt
 have J := Lib.hid J
 clear N
 go_wp2_with fail
 refine (ND.out w8 J.out.bw).mono ?_
 rintro e w9 ⟨A, k, rfl, ho, hb⟩
 have P := Lib.hid (J.out.row_new hb (cL := k) ho.rd (fun g hg => (ho.base_le g hg).1) rfl Z.out.2.2.2.2.1 (by have := Z.out; omega))
 clear f8 l8 J ho hb ND
 go_wp2_with fail
 refine P.out.mono ?_
 rintro e w10 ⟨rfl, J⟩
 have R := Lib.hid (J.fin B1.out)
 clear P J
 go_wp2
 exact bodyPost_end (results_none rfl _ _ _) rfl ⟨rfl, R.out⟩
theorem dread_w {X : World → Nat → List Nat → Prop} (hX : ∀ W W' q Q S, X W q Q → Frame S W W' → Apart Q S → X W' q Q) (hd : dn ≤ 24 ∧ fn ≤ 64) (hx : I64 x ∧ I64 y) (hp : PutOk ps) (hn : ps.length ≤ 4000) (hE : Eye w b (natsB [dn, fn] ++ intsB [x, y] ++ rowB ps)) (hl : (natsB [dn, fn] ++ intsB [x, y] ++ rowB ps).length ≤ 300000)
  (hL : ∀ W A n c, RdP W A ps → ps.length = n → Calls Tryz.prog 89 #[.agg #[.int .i64 dn, .int .i64 fn], .slice A n c, .int .i64 x, .int .i64 y] W (NwC X W)) :
  Calls Tryz.prog 69 #[pt b] w (RdF b (.agg (CR 3 0 0 0 0 0 0 dn fn 0 0)) Kd.dig.T X w) := by
 have J : Hid (RdS w w b [] (natB dn ++ (natB fn ++ (natB (zigN x) ++ (natB (zigN y) ++ (rowB ps ++ [])))))) := by
  have e : natsB [dn, fn] ++ intsB [x, y] ++ rowB ps = natB dn ++ (natB fn ++ (natB (zigN x) ++ (natB (zigN y) ++ (rowB ps ++ [])))) := by simp [natsB, intsB]
  rw [e] at hE hl
  exact RdS.start hE hl
 have J := Lib.hid (J.out.new (CR 0 0 0 0 0 0 0 0 0 0 0))
 obtain ⟨n, hn'⟩ : ∃ n, ps.length = n := ⟨_, rfl⟩
 have Z := Lib.hid (And.intro hX (And.intro hd (And.intro hx (And.intro hp (And.intro hn hn')))))
 have HL := Lib.hid hL
 clear hX hd hx hp hn hE hl hL hn'
 go_enter Tryz.func69, Tryz.ntmps69
 go_wp2_with fail
 generalize w.alloc _ = W0 at *
 obtain ⟨r, hr⟩ : ∃ r, w.heap.size = r := ⟨_, rfl⟩
 have RZ : Hid (w.heap.size ≤ r) := Nat.le_of_eq hr
 rw [hr] at J
 simp only [hr]
 clear hr
 refine (J.out.small (by have := Z.out.2.1; omega)).mono ?_
 rintro e w1 ⟨rfl, J⟩
 go_wp2_with fail
 refine (J.small (by have := Z.out.2.1; omega)).mono ?_
 rintro e w2 ⟨rfl, J⟩
 have J := Lib.hid (J.new (CR 3 0 0 0 0 0 0 dn fn 0 0))
 go_wp2_with fail
 generalize w2.alloc _ = W3 at *
 obtain ⟨c, hc⟩ : ∃ c, w2.heap.size = c := ⟨_, rfl⟩
 rw [hc] at J
 simp only [hc]
 clear hc
 refine (J.out.int Z.out.2.2.1.1).mono ?_
 rintro e w4 ⟨rfl, J⟩
 go_wp2_with fail
 refine (J.int Z.out.2.2.1.2).mono ?_
 rintro e w5 ⟨rfl, J⟩
 replace J := Lib.hid (J.below (Below.refl _ _).drew)
 go_wp2_with fail
 refine held_h (S := HeldS (AtH c (CR 3 0 0 0 0 0 0 dn fn 0 0) 28)) (by kernel_rfl) (HeldS.mk' (J.out.k (c, _, _) (by simp)).1) (fun hHeld => ?_)
 generalize w5.drew = W6 at *
 have hne := hHeld.ne
 have hf := fun x => (hHeld.get x).a.el
 refine runH [6, 1, 2] 7 hHeld ?_
 simp only [runL, runN, runOps_true, runOps_false, runOps_nil]
 repeat go_big_quiet_step (fail)
 refine wpQuiet_nil ?_
 clear hf
 refine readyH 6 fun K hK => ?_
 go_simp
 go_wp2_with (go_at_call 83; refine (J.out.row (n := n) Z.out.2.2.2.1 Z.out.2.2.2.2.2 (by have := Z.out.2.2.2.2; omega)).mono ?_; rintro e w7 ⟨A, cap, rfl, hR, J7, _⟩)
 refine hK.out _ _ ?_ (fun hHeld => ?_)
 clear hK K
 ·exact HeldS.mk' (J7.k (c, _, _) (by simp)).1
 have LD := Lib.hid (HL.out w7 A n cap hR Z.out.2.2.2.2.2)
 replace J := Lib.hid J7
 have SZ : Hid (w.heap.size ≤ w7.heap.size ∧ r < w7.heap.size) := ⟨J7.j.fr.size, (J7.k (r, CR 0 0 0 0 0 0 0 0 0 0 0, 28) (by simp)).1.lt⟩
 clear J7 hR HL
 refine readyH 9 fun K hK => ?_
 go_simp
 go_wp2_with (go_at_call 89; refine LD.out.mono ?_; intro e w8 h8; obtain ⟨p, f, rfl, hb, hc⟩ := h8.any SZ.out.1 SZ.out.2 Kd.dig.T)
 refine hK.out _ _ ?_ (fun hHeld => ?_)
 clear hK K
 ·exact HeldS.mk' (J.out.below hb |>.k (c, _, _) (by simp)).1
 refine runH [0, 10, 5] 0 hHeld ?_
 simp only [runL, runN, runOps_true, runOps_false, runOps_nil]
 repeat go_big_quiet_step (fail)
 refine wpQuiet_nil ?_
 refine doneH ?_
 replace J := Lib.hid (J.out.below hb)
 have F := Lib.hid (J.out.fin (r := r) (kd := 3) (pn := 0) (pd := 0) (sd := 0) (mo := 0) (dg := 0) (li := 0) (de := dn) (fa := fn) (wi := 0) (wo := 0) RZ.out Z.out.1 _ _ hc)
 have ar := (J.out.k (r, CR 0 0 0 0 0 0 0 0 0 0 0, 28) (by simp)).1
 have ac := (J.out.k (c, CR 3 0 0 0 0 0 0 dn fn 0 0, 28) (by simp)).1
 have g1 := ar.el
 have m1 := ar.lt
 have g2 := ac.el
 have m2 := ac.lt
 clear hHeld hne LD J SZ Z hb hc h8
 go_wp2
 have d2 := (At.set11 ar (.int .i64 3) (.int .u64 0) (.int .u64 0) (.int .i64 0) (.int .i64 0) (.int .i64 0) (.int .u64 0) (.int .i64 dn) (.int .i64 fn) (.int .i64 0) (.int .u64 0)).el
 generalize (((((((((((w8.setCell _ _).setCell _ _).setCell _ _).setCell _ _).setCell _ _).setCell _ _).setCell _ _).setCell _ _).setCell _ _).setCell _ _).setCell _ _) = W10 at *
 exact bodyPost_ret (by simp only [results, Tryz.f69]; simp [go_sem, d2]) rfl F.out
end
end Go.Proofs.YtlbnlmhcpephbaaGreatDoor

namespace Go.Proofs.YtlbnlmhcpephbaaGreatDoor
open Go.RowKit
set_option maxRecDepth 100000
theorem endW_c {n lo hi x y : Int} (h : n ≠ 0 → x = lo ∧ y = hi) : endW n x y = endW n lo hi := by
 unfold endW
 split
 ·rfl
 ·rename_i e; obtain ⟨rfl, rfl⟩ := h e; rfl
def zE (n x : Int) : Int := if n = 0 then 0 else x
theorem zE_i {n x : Int} (h : I64 x) : I64 (zE n x) := by unfold zE; split; unfold I64; omega; exact h
theorem zE_0 {n x : Int} (h : n = 0) : zE n x = 0 := if_pos h
theorem zE_1 {n x : Int} (h : n ≠ 0) : zE n x = x := if_neg h
theorem zE_w {n x y lo hi : Int} (h : n ≠ 0 → x = lo ∧ y = hi) : endW n (zE n lo) (zE n hi) = endW n x y := by
 unfold endW zE
 split
 ·rfl
 ·rename_i e; obtain ⟨rfl, rfl⟩ := h e; rfl
def Xd (de fa : Int) : CoT := fun w q Q m N lo hi => ∃ sb T L ps x y, Q = q :: T ∧ DgB w q sb T de fa L ps x y ∧ N = sumP ps ∧ (N ≠ 0 → x = lo ∧ y = hi) ∧ ps.length ≤ m
theorem lens {us : List Nat} {xs : List Int} {ps : List (Int × Int)} {n : Nat} (hu : ∀ u ∈ us, u < 18446744073709551616) (hx : ∀ x ∈ xs, I64 x) (hp : PutOk ps) (hn : ps.length ≤ n) (h8 : n ≤ 8000) : (natsB us ++ intsB xs ++ rowB ps).length ≤ 10 * us.length + 10 * xs.length + 10 + 20 * n := by
 have h1 := natsB_len hu
 have h2 := intsB_len hx
 have h3 := rowB_le hp rfl (Nat.le_trans hn h8)
 simp only [List.length_append]
 omega
theorem core_dig (de fa : Int) : CoreW .dig 0 0 0 0 0 0 de fa 0 0 (Xd de fa) where
 frame := by
  rintro w w' q Q T m N lo hi ⟨sb, U, L, ps, x, y, rfl, h, e⟩ hF hn
  exact ⟨sb, U, L, ps, x, y, rfl, h.frame hF hn, e⟩
 lt := by
  rintro w q Q m N lo hi ⟨sb, U, L, ps, x, y, rfl, h, e⟩
  exact h.lt
 new w _ := (dnew_any de fa w).mono fun e w' ⟨h, hb⟩ => ⟨h.elim (fun ⟨b, sb, T, L, he, h, hw⟩ => .inl ⟨b, _, he, hw, sb, T, L, [], 0, 0, rfl, h, rfl, fun e => absurd rfl e, by simp⟩) fun he => .inr ⟨1, by decide, he⟩, hb⟩
 put := by
  rintro w q Q m N lo hi x n ⟨sb, U, L, ps, a, c, rfl, h, rfl, he, hm⟩ h3 hx h0 hs _
  refine (dput_any h (by omega) hx h0 (by omega)).mono ?_
  rintro e w' ⟨f, rfl, ⟨hf, hb⟩ | ⟨rfl, hn, sb', T', qs, mv, h', h1, h2⟩⟩
  ·exact ⟨f, rfl, .inl ⟨hf, _, Mv.of _ hb, sb, U, L, ps, a, c, rfl, h.below hb, rfl, he, hm⟩⟩
  ·exact ⟨0, rfl, .inr ⟨rfl, hn, _, mv, sb', T', L, qs, _, _, rfl, h', h1.symm, fun _ => ends_c he, by omega⟩⟩
 join := by
  rintro w q Q m N lo hi r R m2 M lo2 hi2 ⟨sb, U, L, ps, a, c, rfl, h, rfl, he, hm⟩ ⟨sb2, U2, L2, qs, a2, c2, rfl, k, rfl, he2, hm2⟩ ap hmm hs hx hy
  obtain rfl : L = L2 := h.tr.e.symm.trans k.tr.e
  refine (djoin_any h k ap (by omega) (by omega)).mono ?_
  rintro e w' ⟨f, rfl, ⟨hf, hb⟩ | ⟨rfl, hc⟩⟩
  ·exact ⟨f, rfl, .inl ⟨hf, Frame.of_below hb⟩⟩
  ·refine ⟨0, rfl, .inr ⟨rfl, ?_⟩⟩
   split at hc
   ·rename_i z
    exact ⟨_, Mv.of _ hc, sb, U, L, ps, a, c, rfl, h.below hc, by rw [z]; omega, by rw [if_pos z, if_pos z, z]; intro e; exact he (by omega), by omega⟩
   ·rename_i z
    obtain ⟨rfl, rfl⟩ := he2 z
    obtain ⟨sb', T', rs, mv, h', h1, h2⟩ := hc
    exact ⟨_, mv, sb', T', L, rs, _, _, rfl, h', h1.symm, fun _ => by rw [if_neg z, if_neg z]; exact ends_c he, by omega⟩
 tot := by
  rintro w q Q m N lo hi ⟨sb, U, L, ps, a, c, rfl, h, rfl, he, hm⟩ h7
  exact ctot_w .dig q _ w (fun h => by cases h) fun W hW => (dtotal_any (h.below hW)).mono fun e w' ⟨he, hw⟩ => ⟨he, hw ▸ Below.refl _ _⟩
 ends := by
  rintro w q Q m N lo hi ⟨sb, U, L, ps, a, c, rfl, h, rfl, he, hm⟩ h7
  rw [← endW_c he]
  exact dends_any h
 code := by
  rintro w q Q m N lo hi ⟨sb, U, L, ps, a, c, rfl, h, rfl, he, hm⟩ h3 h7 hx hy
  obtain ⟨dn, rfl⟩ : ∃ n : Nat, de = n := ⟨de.toNat, by have := h.tr.d0; omega⟩
  obtain ⟨fn, rfl⟩ : ∃ n : Nat, fa = n := ⟨fa.toNat, by have := h.f0; omega⟩
  have d1 := h.tr.d1
  have f1 := h.f1
  have hp := dputok h (by omega)
  have hl := lens (us := [dn, fn]) (xs := [zE (sumP ps) lo, zE (sumP ps) hi]) (n := 360) (by simp; omega) (by simp; exact ⟨zE_i hx, zE_i hy⟩) hp (by omega) (by omega)
  simp only [List.length_cons, List.length_nil] at hl
  refine ⟨_, by omega, ?_, fun W qb hb hq hg => dwrite_w h (zE_i hx) (zE_i hy) (zE_w he) (fun z => ⟨zE_0 z, zE_0 z⟩) (by omega) (by omega) hb hq hg, fun W eb hT hE => ?_⟩
  ·rw [List.append_assoc]; exact nats_ne _ _ _
  ·refine dread_w (fun W W' q Q S ⟨sb, U, L, ps, x, y, e1, h, e2⟩ hF hn => ⟨sb, U, L, ps, x, y, e1, h.frame hF (e1 ▸ hn), e2⟩) (by omega) ⟨zE_i hx, zE_i hy⟩ hp (by omega) hE (by omega) fun W A n c hR hn => ?_
   refine (dload_any h.tr hR hn (by omega) h.st.gd h.st.ok (by omega) h.nd (zE_i hx) (zE_i hy)).mono ?_
   rintro e w' ⟨⟨b, sb, T, rfl, h', hw⟩ | ⟨f, hf, rfl⟩, hb⟩
   ·exact ⟨.inl ⟨b, _, rfl, hw, sb, T, L, ps, _, _, rfl, h', rfl, fun z => ⟨zE_1 z, zE_1 z⟩, hm⟩, hb⟩
   ·exact ⟨.inr ⟨f, hf, rfl⟩, hb⟩
end Go.Proofs.YtlbnlmhcpephbaaGreatDoor
