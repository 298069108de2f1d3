/- Texts of this claim, joined, indents halved: ELu6, ELu7, EKl, ELw1, ELw2. -/
import Derived.Test.YtlbnlmhcpephbaaGreatDoorProg
import Derived.StillTailTactics
import Derived.Test.YtlbnlmhcpephbaaGreatDoorKe15
namespace Go.Proofs.YtlbnlmhcpephbaaGreatDoor
open Go.RowKit
def Lm (w : World) (b : Nat) (S : List Nat) (mo n lo hi : Int) : Prop := ∃ A c ls, S = b :: blk A ∧ LmB w b A c mo ls n ∧ LuG ls n lo hi ∧ (2 ≤ mo ∧ mo ≤ 64) ∧ (ls.length : Int) ≤ mo
section
variable {w w' W : World} {b c o co : Nat} {A O : Option Addr} {mo n lo hi x q N lo2 hi2 : Int} {ls os : List Lu} {S T : List Nat}
theorem Lm.frame (h : Lm w b S mo n lo hi) (hf : Frame T w w') (hn : Apart S T) : Lm w' b S mo n lo hi := by obtain ⟨A, c, ls, rfl, h, k⟩ := h; exact ⟨A, c, ls, rfl, h.frame hf hn, k⟩
theorem Lm.lt (h : Lm w b S mo n lo hi) : ∀ k ∈ S, k < w.heap.size := by obtain ⟨A, c, ls, rfl, h, k⟩ := h; exact h.lt
def LpR (b : Nat) (S : List Nat) (mo N lo hi x n : Int) (w : World) (e : Ending) (w' : World) : Prop :=
 ∃ c : Int, e = .returned (.int .i64 c) ∧ (c ≠ 0 ∧ Below w.heap.size w w' ∨ c = 0 ∧ 0 < n ∧ ∃ S', Mv S S' w w' ∧ Lm w' b S' mo (N + n) (lowE N lo x) (highE N hi x))
set_option maxRecDepth 100000 in
set_option maxHeartbeats 1000000 in
theorem lmput_any (h : Lm w b S mo N lo hi) (hx : I64 x) (h0 : 0 ≤ n) (hN : N + n ≤ 8000) : Calls Tryz.prog 357 #[.pointer (some ⟨b, 0, none⟩), .int .i64 x, .int .u64 n] w (LpR b S mo N lo hi x n w) := by
 by_cases hz : n = 0
 ·subst hz
  clear h
  go_enter Tryz.func357, Tryz.ntmps357
  go_wp2
  go_ret
  exact ⟨1, rfl, .inl ⟨by omega, Below.refl _ _⟩⟩
 have hz' := beq_eq_false_iff_ne.2 hz
 obtain ⟨A, c, ls, rfl, D, g, hm⟩ := h
 have n0 : 0 ≤ N := by have := g.1.len; omega
 have f1 := D.at'.three
 have PL := Lib.hid (plus2_new (a := N) (b := n) (Below.refl w.heap.size w) n0 h0 (by omega))
 have Z := Lib.hid (And.intro D (And.intro g (And.intro hm (And.intro hx (And.intro (show 0 < n by omega) hN)))))
 have e0 := Lib.hid g.zero
 clear D g hm hx h0 hN hz n0
 go_enter Tryz.func357, Tryz.ntmps357
 go_wp2_with fail
 refine PL.out.mono ?_
 rintro e w2 ⟨rfl, hb⟩
 have LY := Lib.hid (lmlay_any (q1 := n) (q2 := x) (q3 := x) (Z.out.1.below hb) Z.out.2.1.1 ⟨Z.out.2.2.2.2.1, Z.out.2.2.2.1, Z.out.2.2.2.1⟩ Z.out.2.2.2.2.2)
 clear f1
 go_wp2_with fail
 refine LY.out.mono ?_
 rintro e w3 ⟨rfl, A3, c3, l3, D3, m3, L3, LL, _⟩
 have PR := Lib.hid (lmpress_any D3 ⟨L3, Z.out.2.1.2.lay LL e0.out⟩ Z.out.2.2.1.1 Z.out.2.2.2.2.2)
 have M := Lib.hid ((Mv.of _ hb).trans m3)
 clear D3 m3 L3 LL LY PL hb
 go_wp2_with fail
 refine PR.out.mono ?_
 rintro e w4 ⟨rfl, k, ⟨A4, c4, l4, D4, g4, m4, e4⟩, h4⟩
 have R : Hid (LpR b (b :: blk A) mo N lo hi x n w (.returned (.int .i64 0)) w4) := ⟨0, rfl, .inr ⟨rfl, Z.out.2.2.2.2.1, _, M.out.trans m4, A4, c4, l4, rfl, D4, g4, Z.out.2.2.1.1, e4 ▸ h4⟩⟩
 clear D4 g4 m4 PR
 go_wp2
 go_ret
 exact R.out
def LjR (b : Nat) (S : List Nat) (mo N lo hi M lo2 hi2 : Int) (w : World) (e : Ending) (w' : World) : Prop :=
 ∃ c : Int, e = .returned (.int .i64 c) ∧ (c ≠ 0 ∧ Below w.heap.size w w' ∨ c = 0 ∧ ∃ S', Mv S S' w w' ∧ Lm w' b S' mo (N + M) (if M = 0 then lo else lowE N lo lo2) (if M = 0 then hi else highE N hi hi2))
def LjJ (b : Nat) (A0 : Option Addr) (mo N : Int) (ls os : List Lu) (Y : Option Addr) (w : World) (k : Nat) (W : World) : Prop := ∃ A c l', LmB W b A c mo l' (N + sumN (os.take k)) ∧ Mv (b :: blk A0) (b :: blk A) w W ∧ LuS l' (N + sumN (os.take k)) ∧ (∀ u, u ∈ l'.map (·.2) ↔ u ∈ ls.map (·.2) ∨ u ∈ (os.take k).map (·.2)) ∧ RdA W Y (flatL os) (b :: blk A)
set_option maxRecDepth 100000 in
set_option maxHeartbeats 2000000 in
theorem lmjoin_any (h : Lm w b S mo N lo hi) (k : Lm w o T mo n lo2 hi2) (ap : Apart S T) (hN : N + n ≤ 8000) : Calls Tryz.prog 376 #[.pointer (some ⟨b, 0, none⟩), .pointer (some ⟨o, 0, none⟩)] w (LjR b S mo N lo hi n lo2 hi2 w) := by
 obtain ⟨A, c, ls, rfl, D, g, hm⟩ := h
 obtain ⟨O, co, os, rfl, E, gk, _⟩ := k
 have n0 : 0 ≤ N ∧ 0 ≤ n := by have := g.1.len; have := gk.1.len; omega
 have s1 := D.at'
 have t1 := E.at'
 have f1 := s1.three
 have f2 := t1.three
 have l1 := s1.lt
 have l2 := t1.lt
 have DE := Lib.hid (And.intro D E)
 have G := Lib.hid (And.intro g (And.intro gk (And.intro hm (And.intro n0 hN))))
 obtain ⟨m, hmm⟩ : ∃ m, os.length = m := ⟨_, rfl⟩
 have MM := Lib.hid hmm
 have m8 : m ≤ 8000 := by have := gk.1.len; omega
 clear D E g gk hm n0 hN ap hmm
 go_enter Tryz.func376, Tryz.ntmps376
 go_wp2
 go_quiet (fail)
 have hb : Below w.heap.size w (w.drewN nq).drew := ((Below.refl _ _).drewN _).drew
 go_upto_region 5 with fail
 have hT : At2 b _ _ o _ _ (w.drewN nq).drew := ⟨s1.below hb, t1.below hb⟩
 refine held_h (by kernel_rfl) (HeldS.mk' hT) (fun hHeld => ?_)
 clear f1 f2 l1 l2 s1 t1
 generalize (w.drewN nq).drew = W at *
 have hne := hHeld.ne
 have hf1 := fun x => (hHeld.get x).a.three
 have hf2 := fun x => (hHeld.get x).b.three
 refine runH [8] 7 hHeld ?_
 simp only [runL, runN, runOps_true, runOps_false, runOps_nil]
 repeat go_big_quiet_step (fail)
 refine wpQuiet_nil ?_
 clear hf1 hf2
 have PL := Lib.hid (plus2_new (a := N) (b := n) hb G.out.2.2.2.1.1 G.out.2.2.2.1.2 (by have := G.out; omega))
 refine readyH 8 fun K hK => ?_
 go_simp
 refine hK.out _ _ (HeldS.mk' (hT.below (bn _ _))) (fun hHeld => ?_)
 clear hK K
 refine readyH 9 fun K hK => ?_
 go_simp
 go_wp2_with (go_at_call 102; refine PL.out.mono ?_; rintro e w2 ⟨rfl, hb2⟩)
 refine hK.out _ _ ?_ (fun hHeld => ?_)
 clear hK K
 ·exact HeldS.mk' ⟨DE.out.1.at'.below hb2, DE.out.2.at'.below hb2⟩
 refine runH [0, 10, 5] 0 hHeld ?_
 simp only [runL, runN, runOps_true, runOps_false, runOps_nil]
 repeat go_big_quiet_step (fail)
 refine wpQuiet_nil ?_
 refine doneH ?_
 clear hHeld hT hb PL hne
 have CL := lmlumps_any (DE.out.2.below hb2) (by have := MM.out; omega)
 rw [MM.out] at CL
 replace CL := Lib.hid CL
 have hb2 := Lib.hid hb2
 go_wp2_with fail
 refine CL.out.mono ?_
 rintro e w3 ⟨Y, cY, rfl, ho, hb3⟩
 have J : Hid (LjJ b A mo N ls os Y w 0 w3) := ⟨A, c, ls, by simpa [sumN] using DE.out.1.below (keep1 hb2.out hb3), Mv.of _ (keep1 hb2.out hb3), by simpa [sumN] using G.out.1.1, by simp, own_rda ho fun q hq => Nat.lt_of_lt_of_le (DE.out.1.lt q hq) hb2.out.size⟩
 clear ho hb3 hb2 CL
 go_wp2
 go_loopw [8, 44] (fun _ i wr => ∃ k : Nat, k ≤ m ∧ i = .int .i64 k ∧ Hid (LjJ b A mo N ls os Y w k wr)) (fun _ i _ => m - (intOf i).toNat)
 case atStart => exact ⟨0, by omega, rfl, J⟩
 case round =>
  clear J
  obtain ⟨k, hk, rfl, J⟩ := hrel
  by_cases hlt : k < m
  ·obtain ⟨A1, c1, l1, D1, mv, L1, iff, hr⟩ := J.out
   have hkl : k < os.length := by have := MM.out; omega
   obtain ⟨g, o', rfl, hg, d1, d2, d3⟩ := Rd.at3 hr.1 hkl
   have tk := sumN_take hkl
   have px := G.out.2.1.1.pos _ (List.getElem_mem hkl)
   have sk := (G.out.2.1.1.take (k + 1)).2
   have tt := List.take_succ_eq_append_getElem hkl
   obtain ⟨⟨x1, x2, x3⟩, hx⟩ : ∃ x, os[k] = x := ⟨_, rfl⟩
   rw [hx] at d1 d2 d3 tk px tt
   dsimp only at d1 d2 d3 tk px
   have bx := bn wr (.cells #[.int .u64 x1, .int .i64 x2, .int .i64 x3] 235)
   have LY := lmlay_any (q1 := x1) (q2 := x2) (q3 := x3) (D1.below bx) L1 px (by have := G.out; omega)
   have J1 := Lib.hid (And.intro mv (And.intro iff (And.intro hr (And.intro tk tt))))
   clear hkl tk px sk tt hx mv iff hr D1 L1 J
   go_wp2_with fail
   refine LY.mono ?_
   rintro e w5 ⟨rfl, A2, c2, l2, D2, m2, L2, LL, _⟩
   obtain ⟨mv, iff, hr, tk, tt⟩ := J1.out
   have J : Hid (LjJ b A mo N ls os (some ⟨g, o', none⟩) w (k + 1) w5) := ⟨A2, c2, l2, by rw [tk, ← Int.add_assoc]; exact D2, (mv.trans (Mv.of _ bx)).trans m2, by rw [tk, ← Int.add_assoc]; exact L2, fun u => by rw [LL u, iff u, tt, List.map_append]; simp only [List.mem_append, List.map_cons, List.map_nil, List.mem_singleton]; grind, (hr.mv (Mv.of _ bx)).mv m2⟩
   clear LY D2 m2 L2 LL mv iff hr tk tt J1 bx
   go_wp2
   go_roundw
   case rel => exact ⟨k + 1, by omega, by simp, J⟩
   case measure => simp [intOf]; omega
  ·obtain rfl : k = m := by omega
   obtain ⟨A1, c1, l1, D1, mv, L1, iff, hr⟩ := J.out
   rw [List.take_of_length_le (by have := MM.out; omega)] at D1 L1 iff
   rw [G.out.2.1.1.sum] at D1 L1
   have PR := Lib.hid (lmpress_any D1 ⟨L1, G.out.1.2.join G.out.2.1.2 iff G.out.1.zero G.out.2.1.zero⟩ G.out.2.2.1.1 G.out.2.2.2.2)
   have mv := Lib.hid mv
   clear D1 L1 iff hr J hlt
   go_wp2_with fail
   refine PR.out.mono ?_
   rintro e w4 ⟨rfl, k4, ⟨A4, c4, l4, D4, g4, m4, e4⟩, h4⟩
   have R : Hid (LjR b (b :: blk A) mo N lo hi n lo2 hi2 w (.returned (.int .i64 0)) w4) := ⟨0, rfl, .inr ⟨rfl, _, mv.out.trans m4, A4, c4, l4, rfl, D4, g4, G.out.2.2.1.1, e4 ▸ h4⟩⟩
   clear D4 g4 m4 PR
   go_wp2
   go_ret
   exact R.out
end
end Go.Proofs.YtlbnlmhcpephbaaGreatDoor

namespace Go.Proofs.YtlbnlmhcpephbaaGreatDoor
open Go.RowKit
section
variable {w w' W : World} {b c m cY : Nat} {A Y : Option Addr} {mo n lo hi y : Int} {ls ks : List Lu} {l : Lu}
def LlR (mo n lo hi : Int) (w : World) (e : Ending) (w' : World) : Prop := ((∃ b S, e = .returned (.tuple #[.pointer (some ⟨b, 0, none⟩), .int .i64 0]) ∧ Lm w' b S mo n lo hi ∧ b ∈ S ∧ Within S w.heap.size w'.heap.size) ∨ (∃ f : Int, f ≠ 0 ∧ e = .returned (.tuple #[.pointer none, .int .i64 f]))) ∧ Below w.heap.size w w'
def LlJ (b : Nat) (mo : Int) (ls : List Lu) (Y : Option Addr) (w : World) (k : Nat) (A : Option Addr) (c : Nat) (W : World) : Prop := LmB W b A c mo (ls.take k) (sumN (ls.take k)) ∧ Below w.heap.size w W ∧ (∀ q ∈ b :: blk A, w.heap.size ≤ q) ∧ RdA W Y (flatL ls) (b :: blk A)
theorem LlJ.below {k : Nat} (h : LlJ b mo ls Y w k A c W) (hb : Below W.heap.size W w') : LlJ b mo ls Y w k A c w' := ⟨h.1.below hb, keep1 h.2.1 hb, h.2.2.1, h.2.2.2.mv (Mv.of _ hb)⟩
set_option maxRecDepth 100000 in
set_option maxHeartbeats 2000000 in
theorem lmload_any (hr : Rd w Y (flatL ls)) (g : LuG ls n lo hi) (hn : n ≤ 8000) (hm : ls.length = m) : Calls Tryz.prog 94 #[.int .i64 mo, .slice Y m cY] w (LlR mo n lo hi w) := by
 have m8 : m ≤ 8000 := by have := g.1.len; omega
 have HR := Lib.hid hr
 have G := Lib.hid (And.intro g (And.intro hn hm))
 have F : ∀ f : Int, f ≠ 0 → Hid (∀ W, Below w.heap.size w W → LlR mo n lo hi w (.returned (.tuple #[.pointer none, .int .i64 f])) W) := fun f hf W hb => ⟨.inr ⟨f, hf, rfl⟩, hb⟩
 have F := F 1 (by decide)
 clear hr g hn hm
 go_enter Tryz.func94, Tryz.ntmps94
 go_wp2_with fail
 refine (lmnew_any mo w).mono ?_
 rintro e w1 ⟨⟨b, rfl, hB, hb0, h2⟩ | rfl, hb⟩
 rotate_left
 ·go_wp2
  go_ret2
  exact F.out _ hb
 have J : Hid (LlJ b mo ls Y w 0 none 0 w1) := ⟨by simpa [sumN] using hB, hb, by simp [blk, hb0], RdA.new HR.out hb (by simp [blk, hb0])⟩
 have M2 := Lib.hid h2
 clear hB hb0 h2 hb
 go_wp2
 go_loopw [8, 9, 10, 11, 22] (fun _ _ _ _ i wr => ∃ k : Nat, k ≤ m ∧ i = .int .i64 k ∧ ∃ A c, Hid (LlJ b mo ls Y w k A c wr)) (fun _ _ _ _ i _ => m - (intOf i).toNat)
 case atStart => exact ⟨0, by omega, rfl, _, _, J⟩
 case round =>
  clear J
  obtain ⟨k, hk, rfl, A, c, J⟩ := hrel
  by_cases hlt : k < m
  ·have hkl : k < ls.length := by have := G.out.2.2; omega
   have hkk : (ls.take k).length = k := by rw [List.length_take]; omega
   obtain ⟨g, o', rfl, hg, d1, d2, d3⟩ := Rd.at3 J.out.2.2.2.1 hkl
   have tk := sumN_take hkl
   have px := G.out.1.1.pos _ (List.getElem_mem hkl)
   have sk := G.out.1.1.take (k + 1)
   have s0 := G.out.1.1.take k
   have tt := List.take_succ_eq_append_getElem hkl
   have PV : 0 < k → ∃ z1 z2 z3 : Int, ordV (z2, z3) ls[k].2 = -1 ∧ ∀ W, LlJ b mo ls (some ⟨g, o', none⟩) w k A c W → W.cell? ⟨g, o' + (k - 1) * 3, none⟩ = some (.int .u64 z1) ∧ W.cell? ⟨g, o' + (k - 1) * 3 + 1, none⟩ = some (.int .i64 z2) ∧ W.cell? ⟨g, o' + (k - 1) * 3 + 2, none⟩ = some (.int .i64 z3) := fun h0 => by
    have hl : k - 1 < ls.length := by omega
    refine ⟨ls[k - 1].1, ls[k - 1].2.1, ls[k - 1].2.2, by unfold ordV; rw [if_pos (List.pairwise_iff_getElem.1 G.out.1.1.srt (k - 1) k hl hkl (by omega))], fun W h => ?_⟩
    obtain ⟨_, _, e, _, c⟩ := Rd.at3 h.2.2.2.1 hl
    cases e
    exact c
   obtain ⟨⟨x1, x2, x3⟩, hx⟩ : ∃ x, ls[k] = x := ⟨_, rfl⟩
   rw [hx] at d1 d2 d3 tk px tt PV
   dsimp only at d1 d2 d3 tk px PV
   have bx := bn wr (.cells #[.int .u64 x1, .int .i64 x2, .int .i64 x3] 235)
   have aL := At.new wr #[.int .u64 x1, .int .i64 x2, .int .i64 x3] 235
   have s1 := (J.out.below bx).1.atm hkk
   obtain ⟨t, ht⟩ : ∃ t, sumN (ls.take k) = t := ⟨_, rfl⟩
   rw [ht] at s1 tk s0
   have J1 := Lib.hid (J.out.below bx)
   have Z := Lib.hid (And.intro px (And.intro tk (And.intro tt (And.intro ht (And.intro sk.2 (And.intro s0.1 hkk))))))
   have ne : Hid (wr.heap.size ∉ b :: blk A) := fun h => by have := J.out.1.lt _ h; omega
   clear hkl hkk tk px sk s0 tt hx bx J
   go_upto_region 7 with fail
   clear d1 d2 d3 hg
   generalize wr.alloc _ = W at *
   generalize wr.heap.size = lB at *
   have hT : At2 b _ _ lB _ _ W.drew := ⟨s1.drew, aL.drew⟩
   refine held_h (by kernel_rfl) (HeldS.mk' hT) (fun hHeld => ?_)
   replace J1 := Lib.hid (J1.out.below (Below.refl _ _).drew)
   clear s1 aL
   generalize W.drew = W2 at *
   have hne := hHeld.ne
   have hf1 := fun x => (hHeld.get x).a.three
   have hf2 := fun x => (hHeld.get x).b.three
   refine runH [6] 7 hHeld ?_
   simp only [runL, runN, runOps_true, runOps_false, runOps_nil]
   repeat go_big_quiet_step (fail)
   refine wpQuiet_nil ?_
   clear hf1 hf2
   have PL := Lib.hid (plus2_new (a := t) (b := x1) (Below.refl W2.heap.size W2) Z.out.2.2.2.2.2.1 (by have := Z.out.1.1; omega) (by have := Z.out; have := G.out; omega))
   refine readyH 6 fun K hK => ?_
   go_simp
   refine hK.out _ _ (HeldS.mk' (hT.below (bn _ _))) (fun hHeld => ?_)
   clear hK K
   refine readyH 7 fun K hK => ?_
   go_simp
   go_wp2_with (go_at_call 102; refine PL.out.mono ?_; rintro e w2 ⟨rfl, hb2⟩)
   refine hK.out _ _ ?_ (fun hHeld => ?_)
   clear hK K
   ·exact HeldS.mk' (hT.below hb2)
   refine runH [0, 8, 5] 0 hHeld ?_
   simp only [runL, runN, runOps_true, runOps_false, runOps_nil]
   repeat go_big_quiet_step (fail)
   refine wpQuiet_nil ?_
   refine doneH ?_
   replace J1 := Lib.hid (J1.out.below hb2)
   replace hT := hT.below hb2
   clear hHeld PL hne hb2
   have z1 : (x1 == 0) = false := beq_eq_false_iff_ne.2 (by have := Z.out.1.1; omega)
   have aL := hT.b
   by_cases hgt : x3 < x2
   ·have hd := decide_eq_true hgt
    go_upto_region 8 with fail
    have hfar1 := fun x : Far w2 => (x.at aL).three
    refine wp_region_far (by kernel_rfl) (by kernel_rfl) ?_
    repeat go_big_quiet_step (first | (fail))
    refine wpQuiet_nil ?_
    rintro _ ⟨xq, rfl⟩
    clear hfar1
    have R := Lib.hid (F.out _ (keep1 J1.out.2.1 xq.below))
    clear hgt
    go_wp2
    go_ret2
    exact R.out
   have hd := decide_eq_false hgt
   clear hgt
   by_cases h0 : 0 < k
   rotate_left
   have hk0 : decide (0 < k) = false := decide_eq_false h0
   clear PV h0
   go_upto_region 8 with fail
   have hfar1 := fun x : Far w2 => (x.at aL).three
   refine wp_region_far (by kernel_rfl) (by kernel_rfl) ?_
   repeat go_big_quiet_step (first | (fail))
   refine wpQuiet_nil ?_
   rintro _ ⟨xq, rfl⟩
   clear hfar1
   rotate_left
   have hk0 : decide (0 < k) = true := decide_eq_true h0
   obtain ⟨z1', z2, z3, ez, CC⟩ := PV h0
   obtain ⟨c1, c2, c3⟩ := CC _ J1.out
   have v1 : IntKind.i64.wrap ((k : Int) - 1) = ((k - 1 : Nat) : Int) := by simp only [IntKind.wrap_i64]; omega
   have k0 : (0 : Int) ≤ ((k - 1 : Nat) : Int) := by omega
   have k1 : ((k - 1 : Nat) : Int) < m := by omega
   have gW := World.block_lt_of_cell? _ _ c1
   have hfa1 := fun x : Far w2 => x.cell gW c1
   have hfa2 := fun x : Far w2 => x.cell gW c2
   have hfa3 := fun x : Far w2 => x.cell gW c3
   clear PV h0 CC
   go_upto_region 8 with fail
   have hfar1 := fun x : Far w2 => (x.at aL).three
   refine wp_region_far (by kernel_rfl) (by kernel_rfl) ?_
   repeat go_big_quiet_step (first | (with_reducible refine far_of (order_any z1' z2 z3 x1 x2 x3 _)))
   refine wpQuiet_nil ?_
   rintro _ ⟨xq, rfl⟩
   clear hfar1
   clear hfa1 hfa2 hfa3 c1 c2 c3 v1 k0 k1 gW ez
   all_goals
    go_upto_region 10 with fail
    replace J1 := Lib.hid (J1.out.below (keep1 xq.below (Below.refl _ _).drew))
    replace hT := hT.below (keep1 xq.below (Below.refl _ _).drew)
    clear aL hk0
    refine until_h 12 (by kernel_rfl) (HeldS.mk' hT) (fun hHeld => ?_)
    generalize xq.far.drew = W3 at *
    clear xq
    have hne := hHeld.ne
    have hneF := heldT W3
    have hf1 := fun x => (hHeld.get x).a.three
    have hf2 := fun x => (hHeld.get x).b.three
    refine runV [5, 4, 1] 10 hHeld ?_
    simp only [runL, runN, runOps_true, runOps_false, runOps_nil]
    repeat go_big_quiet_step (fail)
    refine wpQuiet_nil ?_
    refine runW [0, 5, 2] 8 hHeld ?_
    simp only [runL, runN, runOps_true, runOps_false, runOps_nil]
    repeat go_big_quiet_step (fail)
    refine wpQuiet_nil ?_
    clear hf1 hf2 hne
    have J2 := Lib.hid (J1.out.below (bn W3 (.cells #[.int .u64 x1, .int .i64 x2, .int .i64 x3] 235)))
    replace hT := hT.below (bn W3 (.cells #[.int .u64 x1, .int .i64 x2, .int .i64 x3] 235))
    have aV := At.new W3 #[.int .u64 x1, .int .i64 x2, .int .i64 x3] 235
    refine readyU 7 fun K hK => ?_
    go_simp
    refine hK.out _ _ (fun _ => HeldS.mk' hT) ?_
    clear hK K
    generalize W3.alloc _ = W4 at *
    generalize W3.heap.size = vB at *
    have ow := J2.out.1.own
    rw [Z.out.2.2.2.2.2.2] at ow
    obtain ⟨A', c', w7, hr7, ho7, hF7, hB7⟩ := run_app_g (cy := 1) (m := 1) (Y := some ⟨vB, 0, none⟩) Sl.l.ok ow (ys := flatL [(x1, x2, x3)]) rfl (fun q u hq => ⟨vB, 0, rfl, aV.lt, by rw [Nat.zero_add]; exact aV.cell (by simpa [flatL] using hq)⟩) (by simp) flatL_one (by omega) (Nat.zero_le _)
    dsimp only [Sl.ty] at hr7 ho7
    have ho8 : w7.ownsRow 0 235 3 (.slice A' (ls.take (k + 1)).length c') (ls.take (k + 1)).length (flatL (ls.take (k + 1))) := by rw [Z.out.2.2.1, List.length_append, Z.out.2.2.2.2.2.2]; unfold flatL at *; rw [List.flatMap_append]; exact ho7
    have D := J2.out.1.row ho8 hF7 hB7
    rw [show (ls.take (k + 1)).length = k + 1 by rw [Z.out.2.2.1, List.length_append, Z.out.2.2.2.2.2.2]; rfl] at D
    have J : Hid (LlJ b mo ls (some ⟨g, o', none⟩) w (k + 1) A' c' ((w7.setCell ⟨b, 1, none⟩ (.slice A' (k + 1) c')).setCell ⟨b, 2, none⟩ (.int .u64 (t + x1)))) := by
     have mv := D.2.trans (S2 := b :: blk A') ⟨GrownS.refl _ _, Frame.set (b :: blk A') _ b 2 (.int .u64 (t + x1)) (by simp)⟩
     exact ⟨by rw [Z.out.2.1, Z.out.2.2.2.1] at *; exact D.1.tot, mv.f.below J2.out.2.1 J2.out.2.1.size J2.out.2.2.1, mv.ge J2.out.2.2.1 J2.out.2.1.size, J2.out.2.2.2.mv mv⟩
    have bA : b ∉ blk A := J2.out.1.ne
    have lA : lB ∉ blk A := fun h => ne.out (by simp [h])
    clear J1 J2 ow ho7 ho8 hB7 aV D
    refine readyU 8 fun K hK => ?_
    refine ite_of rfl ?_
    refine opwp_run _ _ _ _ rfl _ _ _ rfl rfl hr7 74 rfl ?_
    simp only [List.setIfInBounds_toArray, List.set_cons_zero, List.set_cons_succ]
    replace hT := hT.frame hF7 bA lA
    refine hK.out _ _ (fun _ => HeldS.mk' hT) ?_
    clear hK K
    have hHeld := HeldS.mk' hT
    have f1 := hT.a.three
    have l1 := hT.a.lt
    have s2 := hT.a.set_any 1 (.slice A' (k + 1) c') rfl
    refine runV [0, 10, 2] 4 hHeld ?_
    simp only [runL, runN, runOps_true, runOps_false, runOps_nil]
    repeat go_big_quiet_step (fail)
    refine wpQuiet_nil ?_
    refine readyU 12 fun K hK => ?_
    go_simp
    go_wp2
    refine hK.out _ _ (fun h => late_no h (by kernel_rfl)) ?_
    clear hK K hHeld hT f1 l1 hneF
    have f1 := s2.three
    have l1 := s2.lt
    refine readyU 13 fun K hK => ?_
    go_simp
    refine hK.out _ _ (fun h => late_no h (by kernel_rfl)) ?_
    clear hK K
    refine readyU 14 fun K hK => ?_
    go_simp
    refine hK.out _ _ (fun h => late_no h (by kernel_rfl)) ?_
    clear hK K
    refine readyU 15 fun K hK => ?_
    go_simp
    go_wp2
    refine hK.out _ _ (fun h => late_no h (by kernel_rfl)) ?_
    clear hK K s2 f1 l1
    refine doneU ?_
    go_wp2
    go_roundw
    case rel => exact ⟨k + 1, by omega, by simp, A', c', J⟩
    case measure => simp [intOf]; omega
  ·obtain rfl : k = m := by omega
   have D := J.out.1
   rw [List.take_of_length_le (by have := G.out; omega), G.out.1.1.sum] at D
   have R : Hid ((k : Int) ≤ mo → LlR mo n lo hi w (.returned (.tuple #[.pointer (some ⟨b, 0, none⟩), .int .i64 0])) wr) := fun hk => ⟨.inl ⟨b, _, rfl, ⟨A, c, ls, rfl, D, G.out.1, M2.out, by have := G.out.2.2; omega⟩, by simp, fun q hq => ⟨J.out.2.2.1 q hq, D.lt q hq⟩⟩, J.out.2.1⟩
   have R1 := Lib.hid (F.out wr J.out.2.1)
   clear D hlt J
   by_cases hm : (k : Int) ≤ mo
   all_goals
    have H3 := Lib.hid hm
    go_wp2
    go_ret2
    first | exact R.out H3.out | exact R1.out
end
end Go.Proofs.YtlbnlmhcpephbaaGreatDoor

namespace Go.Proofs.YtlbnlmhcpephbaaGreatDoor
open Go.RowKit
set_option maxRecDepth 100000
set_option maxHeartbeats 4000000
def lumB (x : Lu) : List UInt8 := intsB [x.2.1, x.2.2] ++ natsB [x.1.toNat]
def lumsB (ls : List Lu) : List UInt8 := ls.flatMap lumB
section
variable {w W : World} {q b mn n : Nat} {A : Option Addr} {c : Nat} {N lo hi : Int} {ls : List Lu}
theorem lumsB_cut {k : Nat} (h : k < ls.length) : lumsB (ls.take (k + 1)) = lumsB (ls.take k) ++ lumB ls[k] ∧ lumsB (ls.drop k) = lumB ls[k] ++ lumsB (ls.drop (k + 1)) := by
 unfold lumsB
 rw [List.take_succ_eq_append_getElem h, List.flatMap_append, List.flatMap_singleton, List.drop_eq_getElem_cons h, List.flatMap_cons]
 exact ⟨rfl, rfl⟩
theorem lumB_len {x : Lu} (h : 0 < x.1 ∧ x.1 ≤ 8000) (h' : I64 x.2.1 ∧ I64 x.2.2) : (lumB x).length ≤ 30 := by
 have h1 := intsB_len (l := [x.2.1, x.2.2]) fun u hu => by simp only [List.mem_cons, List.not_mem_nil, or_false] at hu; rcases hu with rfl | rfl; exact h'.1; exact h'.2
 have h2 := natsB_len (l := [x.1.toNat]) fun u hu => by simp only [List.mem_cons, List.not_mem_nil, or_false] at hu; omega
 unfold lumB
 rw [List.length_append]
 simp only [List.length_cons, List.length_nil] at h1 h2
 omega
theorem lmwrite_w (h : LmB w q A c mn ls N) (g : LuG ls N lo hi) (hN : N ≤ 8000) (hm : mn ≤ 64) (hb : Below w.heap.size w W) (hq : Qu W b none 0 0 []) (hg : w.heap.size ≤ b) :
  Calls Tryz.prog 375 #[.agg #[pt q], pt b] W fun e w' => e = .returned (.tuple #[]) ∧ ∃ W1 A len cap, Below W.heap.size W W1 ∧ QuI W1 w' b none A len cap (natsB [mn, ls.length] ++ lumsB ls) := by
 have hl8 : ls.length ≤ 8000 := by have := g.1.len; omega
 have b1 := bn W (.cells #[pt q] 136)
 have a1 := At.new W #[pt q] 136
 have cn : W.heap.size ≠ b := fun e => by have := hq.at'.lt; omega
 have CL := Lib.hid fun V (hV : Below w.heap.size w V) => lmlumps_any (h.below hV) hl8
 have MO := Lib.hid fun V (hV : Below w.heap.size w V) => lmmost_any (h.below hV)
 have Z := Lib.hid (And.intro hb (And.intro hq (And.intro hg (And.intro g hN))))
 obtain ⟨n, hn⟩ : ∃ n, ls.length = n := ⟨_, rfl⟩
 have HN := Lib.hid hn
 rw [hn] at hl8 CL ⊢
 clear h g hb hq hg hN hn
 go_enter Tryz.func375, Tryz.ntmps375
 have f1 := a1.one
 have l1 := a1.lt
 go_wp2_with fail
 generalize W.alloc _ = W1 at *
 obtain ⟨c, hc⟩ : ∃ c, W.heap.size = c := ⟨_, rfl⟩
 rw [hc] at a1 f1 l1 cn
 simp only [hc]
 refine (CL.out W1 (keep1 Z.out.1 b1)).mono ?_
 rintro e w3 ⟨A, k, rfl, ho, hb⟩
 replace b1 := keep1 b1 hb
 have J := Lib.hid (WqS.start (keep1 Z.out.1 b1) (a1.below hb) (Qu.below Z.out.2.1 b1) cn Z.out.2.2.1)
 have B1 := Lib.hid b1
 have f3 := J.out.a1.one
 have l3 := J.out.a1.lt
 have O := Lib.hid (own_rd ho)
 clear hb a1 f1 l1 b1 cn CL hc ho
 go_wp2_with fail
 refine (MO.out w3 J.out.bw).mono ?_
 rintro e w4 ⟨rfl, rfl⟩
 have N2 := Lib.hid (J.out.nats_at (n := 2) (Below.refl _ _) [mn, n] (fun u hu => by simp only [List.mem_cons, List.not_mem_nil, or_false] at hu; omega) rfl rfl (by omega))
 clear f3 l3 MO J
 go_wp2_with fail
 refine N2.out.mono ?_
 rintro e w5 ⟨rfl, J, _⟩
 have J : Hid (WqS w w3 136 q b c w5 (natsB [mn, n] ++ lumsB (ls.take 0)) (20 + 30 * 0)) := by show WqS _ _ _ _ _ _ _ _ _; simpa [lumsB] using J
 clear N2
 go_wp2
 go_loopw [6, 22] (fun _ i wr => ∃ k : Nat, k ≤ n ∧ i = .int .i64 k ∧ Hid (WqS w w3 136 q b c wr (natsB [mn, n] ++ lumsB (ls.take k)) (20 + 30 * k))) (fun _ i _ => n - (intOf i).toNat)
 case atStart => exact ⟨0, by omega, rfl, J⟩
 case round =>
  clear J
  obtain ⟨k, hk, rfl, J⟩ := hrel
  by_cases hlt : k < n
  ·have hkl : k < ls.length := by have := HN.out; omega
   have px := Z.out.2.2.2.1.1.pos _ (List.getElem_mem hkl)
   have pn := sumN_ge (fun x hx => (Z.out.2.2.2.1.1.pos x hx).1) _ (List.getElem_mem hkl)
   rw [Z.out.2.2.2.1.1.sum] at pn
   have tk := (lumsB_cut hkl).1
   obtain ⟨G, o, rfl, hG, d1, d2, d3⟩ := Rd.at3 (J.out.old O.out fun u hu => by obtain ⟨x, _, hx⟩ := List.mem_flatMap.1 hu; simp at hx; rcases hx with rfl | rfl | rfl <;> simp).1 hkl
   obtain ⟨⟨x1, x2, x3⟩, hx⟩ : ∃ x, ls[k] = x := ⟨_, rfl⟩
   rw [hx] at d1 d2 d3 px pn tk
   dsimp only at d1 d2 d3 px pn
   obtain ⟨u, rfl⟩ : ∃ u : Nat, x1 = u := ⟨x1.toNat, by omega⟩
   have N3 := Lib.hid (J.out.ints_at (n := 2) (bn wr (.cells #[.int .u64 (u : Int), .int .i64 x2, .int .i64 x3] 235)) [x2, x3] (fun u hu => by simp only [List.mem_cons, List.not_mem_nil, or_false] at hu; rcases hu with rfl | rfl; exact px.2.1; exact px.2.2) (g := wr.heap.size + 1) (by simp) rfl (by omega))
   have aL := At.new wr #[.int .u64 (u : Int), .int .i64 x2, .int .i64 x3] 235
   have E : Hid (natsB [mn, n] ++ lumsB (ls.take k) ++ intsB [x2, x3] ++ natsB [u] = natsB [mn, n] ++ lumsB (ls.take (k + 1))) := by show _ = _; rw [tk]; simp [lumB]
   clear tk hkl hx px J
   go_wp2_with fail
   refine N3.out.mono ?_
   rintro e w6 ⟨rfl, J, K⟩
   have a6 := K _ _ _ (Nat.le_refl _) (aL.below (bn _ _))
   have f6 := a6.three
   have l6 := a6.lt
   have N4 := Lib.hid (J.nats (n := 1) [u] (fun v hv => by have := Z.out.2.2.2.2; simp only [List.mem_singleton] at hv; omega) rfl (by omega))
   clear N3 aL J K d1 d2 d3 hG a6 pn
   go_wp2_with fail
   refine N4.out.mono ?_
   rintro e w7 ⟨rfl, J⟩
   rw [E.out] at J
   have J : Hid (WqS w w3 136 q b c w7 (natsB [mn, n] ++ lumsB (ls.take (k + 1))) (20 + 30 * (k + 1))) := by rw [show 20 + 30 * (k + 1) = 20 + 30 * k + 10 * 2 + 10 * 1 by omega]; exact J
   clear N4 E f6 l6
   go_wp2
   exact ⟨⟨k + 1, by omega, by simp, J⟩, by simp [intOf]; omega⟩
  ·obtain rfl : k = n := by omega
   have R := Lib.hid (J.out.fin B1.out)
   rw [List.take_of_length_le (by have := HN.out; omega)] at R
   clear J hlt
   go_wp2
   exact bodyPost_end (results_none rfl _ _ _) rfl ⟨rfl, R.out⟩
structure LrJ (w W : World) (b r c : Nat) (cv : Array Value) (A : Option Addr) (cap : Nat) (ls : List Lu) (l : List UInt8) : Prop where
 j : RdS w W b [(c, cv, 28), (r, CR 0 0 0 0 0 0 0 0 0 0 0, 28)] l
 own : W.ownsRow (c + 1) 235 3 (.slice A ls.length cap) ls.length (flatL ls)
theorem LrJ.ac {r c : Nat} {cv : Array Value} {l : List UInt8} (h : LrJ w W b r c cv A n ls l) : At W c cv 28 := (h.j.k (c, cv, 28) (by simp)).1
theorem LrJ.ar {r c : Nat} {cv : Array Value} {l : List UInt8} (h : LrJ w W b r c cv A n ls l) : At W r (CR 0 0 0 0 0 0 0 0 0 0 0) 28 := (h.j.k (r, _, _) (by simp)).1
theorem lmread_w {X : World → Nat → List Nat → Prop} (hX : ∀ W W' q Q S, X W q Q → Frame S W W' → Apart Q S → X W' q Q) (g : LuG ls N lo hi) (hN : N ≤ 8000) (hm : mn ≤ 64 ∧ ls.length ≤ mn) (hE : Eye w b (natsB [mn, ls.length] ++ lumsB ls)) (hl : (natsB [mn, ls.length] ++ lumsB ls).length ≤ 300000)
  (hL : ∀ W A c n, Rd W A (flatL ls) → ls.length = n → Calls Tryz.prog 94 #[.int .i64 mn, .slice A n c] W (NwC X W)) :
  Calls Tryz.prog 72 #[pt b] w (RdF b (.agg (CR 6 0 0 0 mn 0 0 0 0 0 0)) Kd.lum.T X w) := by
 obtain ⟨n, hn⟩ : ∃ n, ls.length = n := ⟨_, rfl⟩
 have HN := Lib.hid hn
 rw [hn] at hE hl hm
 have J : Hid (RdS w w b [] (natB mn ++ (natB n ++ lumsB (ls.drop 0)))) := by
  have e : natsB [mn, n] ++ lumsB ls = natB mn ++ (natB n ++ lumsB (ls.drop 0)) := by simp [natsB]
  rw [e] at hE hl
  exact RdS.start hE hl
 have J := Lib.hid (J.out.new (CR 0 0 0 0 0 0 0 0 0 0 0))
 have Z := Lib.hid (And.intro hX (And.intro g (And.intro hN hm)))
 have HL := Lib.hid hL
 have n64 : n ≤ 64 := by omega
 clear hX g hN hm hE hl hL hn
 go_enter Tryz.func72, Tryz.ntmps72
 go_wp2_with fail
 generalize w.alloc _ = W0 at *
 obtain ⟨r, hr⟩ : ∃ r, w.heap.size = r := ⟨_, rfl⟩
 have RZ : Hid (w.heap.size ≤ r) := Nat.le_of_eq hr
 rw [hr] at J
 simp only [hr]
 clear hr
 refine (J.out.small (by have := Z.out.2.2.2; omega)).mono ?_
 rintro e w2 ⟨rfl, J2⟩
 have J := Lib.hid (J2.new (CR 6 0 0 0 mn 0 0 0 0 0 0))
 go_wp2_with fail
 generalize w2.alloc _ = W3 at *
 obtain ⟨c, hc⟩ : ∃ c, w2.heap.size = c := ⟨_, rfl⟩
 have RC : Hid (r < c) := hc ▸ (J2.k (r, CR 0 0 0 0 0 0 0 0 0 0 0, 28) (by simp)).1.lt
 rw [hc] at J
 simp only [hc]
 clear hc J2
 refine (J.out.small (by omega)).mono ?_
 rintro e w4 ⟨rfl, J4⟩
 have J : Hid (LrJ w w4 b r c (CR 6 0 0 0 mn 0 0 0 0 0 0) none 0 (ls.take 0) (lumsB (ls.drop 0))) := ⟨J4, World.ownsRow_nil _ _ _ _⟩
 clear J4
 go_wp2
 go_loopw [6, 14] (fun out i wr => ∃ k : Nat, k ≤ n ∧ i = .int .i64 k ∧ ∃ A cap, out = .slice A k cap ∧ Hid (LrJ w wr b r c (CR 6 0 0 0 mn 0 0 0 0 0 0) A cap (ls.take k) (lumsB (ls.drop k)))) (fun _ i _ => n - (intOf i).toNat)
 case atStart => exact ⟨0, by omega, rfl, none, 0, rfl, J⟩
 case round =>
  clear J
  obtain ⟨k, hk, rfl, A, cap, rfl, JL⟩ := hrel
  by_cases hlt : k < n
  ·have hkl : k < ls.length := by have := HN.out; omega
   have px := Z.out.2.1.1.pos _ (List.getElem_mem hkl)
   have pn := sumN_ge (fun x hx => (Z.out.2.1.1.pos x hx).1) _ (List.getElem_mem hkl)
   rw [Z.out.2.1.1.sum] at pn
   have tk := (lumsB_cut hkl).2
   have T2 := Lib.hid (List.take_succ_eq_append_getElem hkl)
   have TL : Hid ((ls.take k).length = k) := by show _ = _; rw [List.length_take]; omega
   obtain ⟨⟨x1, x2, x3⟩, hx⟩ : ∃ x, ls[k] = x := ⟨_, rfl⟩
   rw [hx] at px pn tk T2
   dsimp only at px pn
   obtain ⟨u, rfl⟩ : ∃ u : Nat, x1 = u := ⟨x1.toNat, by omega⟩
   have hu : 0 < u ∧ u ≤ 9223372036854775807 := by have := Z.out.2.2.1; omega
   have O := Lib.hid JL.out.own
   have B0 : Hid (c + 1 ≤ wr.heap.size ∧ b < w.heap.size ∧ w.heap.size ≤ r) := ⟨JL.out.ac.lt, JL.out.j.j.lt, RZ.out⟩
   have E : Hid (lumsB (ls.drop k) = (natB (zigN x2) ++ (natB (zigN x3) ++ natB u)) ++ lumsB (ls.drop (k + 1))) := by show _ = _; rw [tk]; simp [lumB, intsB, natsB]
   have JJ : RdS wr wr b [] (natB (zigN x2) ++ (natB (zigN x3) ++ (natB u ++ lumsB (ls.drop (k + 1))))) := by
    have := RdS.start JL.out.j.j.eye JL.out.j.ln
    rw [E.out] at this
    simpa using this
   clear tk hkl hx pn
   go_wp2_with fail
   refine (JJ.int px.2.1).mono ?_
   rintro e w5 ⟨rfl, J5⟩
   go_wp2_with fail
   refine (J5.int px.2.2).mono ?_
   rintro e w6 ⟨rfl, J6⟩
   go_wp2_with fail
   refine (J6.count hu).mono ?_
   rintro e w7 ⟨rfl, J7⟩
   have JN := JL.out.j
   rw [E.out] at JN
   have J8 := Lib.hid ((JN.again J7).below (bn w7 (.cells #[.int .u64 (u : Int), .int .i64 x2, .int .i64 x3] 235)))
   have B8 : Hid (c + 1 ≤ (w7.alloc (.cells #[.int .u64 (u : Int), .int .i64 x2, .int .i64 x3] 235)).heap.size) := (J8.out.k (c, CR 6 0 0 0 mn 0 0 0 0 0 0, 28) (by simp)).1.lt
   have nb : ∀ j ∈ blk A, j ∉ [b] := fun j hj hm => by have := (own_blk O.out j hj).1; have := B0.out; have := RC.out; simp only [List.mem_singleton] at hm; omega
   have ow := own_frame (T := []) (own_frame O.out J7.j.fr nb) (Frame.of_below (bn w7 (.cells #[.int .u64 (u : Int), .int .i64 x2, .int .i64 x3] 235))) (fun _ _ => by simp)
   have aV := At.new w7 #[.int .u64 (u : Int), .int .i64 x2, .int .i64 x3] 235
   rw [TL.out] at ow
   obtain ⟨A', c', w9, hr, ho, hF, hB⟩ := run_app_g (cy := 1) (m := 1) (Y := some ⟨w7.heap.size, 0, none⟩) Sl.l.ok ow (ys := flatL [((u : Int), x2, x3)]) rfl (fun q v hq => ⟨w7.heap.size, 0, rfl, aV.lt, by rw [Nat.zero_add]; exact aV.cell (by simpa [flatL] using hq)⟩) (by simp) flatL_one (by omega) B8.out
   dsimp only [Sl.ty] at hr ho
   have J9 : Hid (LrJ w w9 b r c (CR 6 0 0 0 mn 0 0 0 0 0 0) A' c' (ls.take (k + 1)) (lumsB (ls.drop (k + 1)))) := ⟨J8.out.step hF fun j hj => by
     have h1 := (own_blk O.out j hj).1
     have h2 := B0.out
     have h3 := RC.out
     refine ⟨by omega, fun p hp => ?_⟩
     simp only [List.mem_cons, List.not_mem_nil, or_false] at hp
     rcases hp with rfl | rfl <;> dsimp only <;> omega, by rw [T2.out, List.length_append, TL.out]; unfold flatL at *; rw [List.flatMap_append]; exact ho⟩
   have HR := Lib.hid hr
   clear hr ho hF hB aV ow nb J8 B8 JN J7 E B0 O T2 TL JL JJ hu
   go_wp2_with (first | (at_builtin; refine Lib.wpList_append_run _ rfl _ _ _ _ rfl _ _ rfl rfl _ _ HR.out ?_) | fail)
   clear HR
   go_wp2
   exact ⟨⟨k + 1, by omega, by simp, A', c', rfl, J9⟩, by simp [intOf]; omega⟩
  ·obtain rfl : k = n := by omega
   have D := JL.out
   rw [List.take_of_length_le (by have := HN.out; omega), show lumsB (ls.drop k) = [] by rw [List.drop_eq_nil_of_le (by have := HN.out; omega)]; rfl] at D
   have ow := D.own
   rw [HN.out] at ow
   have LD := Lib.hid (HL.out wr A cap k (own_rd ow) HN.out)
   have J := Lib.hid D.j
   have SZ : Hid (w.heap.size ≤ wr.heap.size ∧ r < wr.heap.size) := ⟨D.j.j.fr.size, D.ar.lt⟩
   have f1 := D.ac.el
   have l1 := D.ac.lt
   clear D ow HL hlt JL
   go_wp2_with fail
   refine LD.out.mono ?_
   intro e w8 h8
   obtain ⟨p, f, rfl, hb, hc⟩ := h8.any SZ.out.1 SZ.out.2 Kd.lum.T
   replace J := Lib.hid (J.out.below hb)
   have F := Lib.hid (J.out.fin (r := r) (kd := 6) (pn := 0) (pd := 0) (sd := 0) (mo := mn) (dg := 0) (li := 0) (de := 0) (fa := 0) (wi := 0) (wo := 0) RZ.out Z.out.1 _ _ hc)
   have ar := (J.out.k (r, CR 0 0 0 0 0 0 0 0 0 0 0, 28) (by simp)).1
   have ac := (J.out.k (c, CR 6 0 0 0 mn 0 0 0 0 0 0, 28) (by simp)).1
   have g1 := ar.el
   have m1 := ar.lt
   have g2 := ac.el
   have m2 := ac.lt
   clear LD J SZ Z hb hc h8 f1 l1
   go_wp2
   have d2 := (At.set11 ar (.int .i64 6) (.int .u64 0) (.int .u64 0) (.int .i64 0) (.int .i64 mn) (.int .i64 0) (.int .u64 0) (.int .i64 0) (.int .i64 0) (.int .i64 0) (.int .u64 0)).el
   generalize (((((((((((w8.setCell _ _).setCell _ _).setCell _ _).setCell _ _).setCell _ _).setCell _ _).setCell _ _).setCell _ _).setCell _ _).setCell _ _).setCell _ _) = W10 at *
   exact bodyPost_ret (by simp only [results, Tryz.f72]; simp [go_sem, d2]) rfl F.out
end
def Xl (mo : Int) : CoT := fun w q Q _ N lo hi => ∃ x y, Lm w q Q mo N x y ∧ (N ≠ 0 → x = lo ∧ y = hi)
theorem core_lum (mo : Int) : CoreW .lum 0 0 0 mo 0 0 0 0 0 0 (Xl mo) where
  frame := by
    rintro w w' q Q T m N lo hi ⟨x, y, h, e⟩ hF hn
    exact ⟨x, y, h.frame hF hn, e⟩
  lt := by
    rintro w q Q m N lo hi ⟨x, y, h, e⟩
    exact h.lt
  new w _ := (lmnew_any mo w).mono fun e w' ⟨h, hb⟩ => ⟨h.elim (fun ⟨b, he, h, hb', h2⟩ => .inl ⟨b, _, he, fun j hj => by
      simp only [blk, List.mem_singleton] at hj
      subst hj
      exact ⟨by omega, h.at'.lt⟩, 0, 0, ⟨none, 0, [], rfl, h, ⟨LuS.nil, ⟨by simp, by simp, .inl rfl, .inl rfl⟩⟩, h2, by simp; omega⟩, fun e => absurd rfl e⟩) fun he => .inr ⟨1, by decide, he⟩, hb⟩
  put := by
    rintro w q Q m N lo hi x n ⟨a, c, h, he⟩ h3 hx h0 hs _
    refine (lmput_any h hx h0 (by omega)).mono ?_
    rintro e w' ⟨f, rfl, ⟨hf, hb⟩ | ⟨rfl, hn, Q', mv, h'⟩⟩
    · exact ⟨f, rfl, .inl ⟨hf, _, Mv.of _ hb, a, c, h.frame (T := []) (Frame.of_below hb) fun _ _ => by simp, he⟩⟩
    · exact ⟨0, rfl, .inr ⟨rfl, hn, _, mv, _, _, h', fun _ => ends_c he⟩⟩
  join := by
    rintro w q Q m N lo hi r R m2 M lo2 hi2 ⟨a, c, h, he⟩ ⟨a2, c2, k, he2⟩ ap hmm hs hx hy
    refine (lmjoin_any h k ap (by omega)).mono ?_
    rintro e w' ⟨f, rfl, ⟨hf, hb⟩ | ⟨rfl, Q', mv, h'⟩⟩
    · exact ⟨f, rfl, .inl ⟨hf, Frame.of_below hb⟩⟩
    · refine ⟨0, rfl, .inr ⟨rfl, _, mv, _, _, h', fun z => ?_⟩⟩
      by_cases z2 : M = 0
      · rw [if_pos z2, if_pos z2, if_pos z2, if_pos z2]; exact he (by omega)
      · obtain ⟨rfl, rfl⟩ := he2 z2
        rw [if_neg z2, if_neg z2, if_neg z2, if_neg z2]; exact ends_c he
  tot := by
    rintro w q Q m N lo hi ⟨a, c, ⟨A, k, ls, rfl, h, g, hm⟩, he⟩ h7
    exact ctot_w .lum q _ w (fun h => by cases h) fun W hW => (lmtotal_any (h.below hW)).mono fun e w' ⟨he, hw⟩ => ⟨he, hw ▸ Below.refl _ _⟩
  ends := by
    rintro w q Q m N lo hi ⟨a, c, ⟨A, k, ls, rfl, h, g, hm⟩, he⟩ h7
    rw [← endW_c he]
    exact lmends_any h g (by have := g.1.len; omega)
  code := by
    rintro w q Q m N lo hi ⟨a, c, ⟨A, k, ls, rfl, h, g, hm, hk⟩, he⟩ h3 h7 hx hy
    obtain ⟨mn, rfl⟩ : ∃ n : Nat, mo = n := ⟨mo.toNat, by omega⟩
    have hl : (natsB [mn, ls.length] ++ lumsB ls).length ≤ 20 + 30 * 64 := by
      have h1 := natsB_len (l := [mn, ls.length]) fun u hu => by simp only [List.mem_cons, List.not_mem_nil, or_false] at hu; omega
      have h2 : ∀ l : List Lu, (∀ x ∈ l, (0 < x.1 ∧ x.1 ≤ 8000) ∧ I64 x.2.1 ∧ I64 x.2.2) → (lumsB l).length ≤ 30 * l.length := fun l => by
        induction l with
        | nil => intro _; simp [lumsB]
        | cons x l ih =>
          intro h
          have i1 := ih fun y hy => h y (by simp [hy])
          have i2 := lumB_len (h x (by simp)).1 (h x (by simp)).2
          unfold lumsB at *
          rw [List.flatMap_cons, List.length_append, List.length_cons]
          omega
      have h3 := h2 ls fun x hx => ⟨⟨(g.1.pos x hx).1, by have := sumN_ge (fun x hx => (g.1.pos x hx).1) x hx; rw [g.1.sum] at this; omega⟩, (g.1.pos x hx).2⟩
      rw [List.length_append]
      simp only [List.length_cons, List.length_nil] at h1
      omega
    refine ⟨_, by omega, nats_ne _ _ _, fun W qb hb hq hg => lmwrite_w h g (by omega) (by omega) hb hq hg, fun W eb hT hE => ?_⟩
    refine lmread_w (fun W W' q Q S ⟨x, y, h, e⟩ hF hn => ⟨x, y, h.frame hF hn, e⟩) g (by omega) (by omega) hE (by omega) fun W A n c hR hn => ?_
    refine (lmload_any hR g (by omega) hn).mono ?_
    rintro e w' ⟨⟨b, S, rfl, h', _, hw⟩ | ⟨f, hf, rfl⟩, hb⟩
    · exact ⟨.inl ⟨b, _, rfl, hw, _, _, h', he⟩, hb⟩
    · exact ⟨.inr ⟨f, hf, rfl⟩, hb⟩
end Go.Proofs.YtlbnlmhcpephbaaGreatDoor

namespace Go.Proofs.YtlbnlmhcpephbaaGreatDoor
open Go.RowKit
set_option maxRecDepth 100000
structure LwK where
 T : TypeId
 (X N A P O E S Z L R M D : FuncId)
def lk : Bool → LwK
 | true => ⟨265, 157, 99, 134, 142, 151, 150, 152, 135, 396, 397, 209, 124⟩
 | false => ⟨263, 156, 98, 132, 141, 148, 147, 149, 133, 392, 393, 210, 123⟩
def gp (s : Bool) (e i : Int) : Int := if s then e - i else i - e
def fr (s : Bool) (ps : List (Int × Int)) : Int := (ps.getD (if s then 0 else ps.length - 1) (0, 0)).1
structure LwB (s : Bool) (w : World) (b k : Nat) (T : List Nat) (most : Int) (ps : List (Int × Int)) (l : Int) : Prop where
 at' : At w b #[.int .i64 most, .pointer (some ⟨k, 0, none⟩), .int .u64 l] (lk s).T
 st : Strip w k T most ps
 ne : b ∉ T
 l0 : 0 ≤ l
 m1 : 1 ≤ most ∧ most ≤ 4096
 wn : ∀ x ∈ ps, ∀ y ∈ ps, y.1 - x.1 < most
theorem gd_len {b : Int} : ∀ {ps : List (Int × Int)} {a : Int}, Gd ps → (∀ x ∈ ps, a ≤ x.1 ∧ x.1 < b) → a ≤ b → (ps.length : Int) ≤ b - a
  | [], _, _, _, h => by simp; omega
  | x :: ps, a, h, k, _ => by
    have hx := k x (by simp)
    have := gd_len (a := x.1 + 1) h.tail (fun y hy => ⟨h.head y hy, (k y (by simp [hy])).2⟩) (by omega)
    simp
    omega
theorem wn_len {ps : List (Int × Int)} {m : Int} (h : Gd ps) (k : ∀ x ∈ ps, ∀ y ∈ ps, y.1 - x.1 < m) (hm : 1 ≤ m) : (ps.length : Int) ≤ m := by
 cases ps with
 | nil => simp; omega
 | cons x ps => have := gd_len (a := x.1) (b := x.1 + m) h (fun y hy => ⟨by rcases List.mem_cons.1 hy with rfl | e; omega; have := h.head y e; omega, by have := k x (by simp) y hy; omega⟩) (by omega); omega
theorem wsub {a b : Int} (ha : I64 a) (hb : I64 b) (h : b < a) : IntKind.u64.wrap (IntKind.u64.wrap a - IntKind.u64.wrap b) = a - b := by unfold I64 at *; simp only [IntKind.wrap_u64]; omega
section
variable {s : Bool} {w w' : World} {b k : Nat} {T U : List Nat} {most l n i e : Int} {ps qs : List (Int × Int)}
theorem LwB.frame (h : LwB s w b k T most ps l) (hf : Frame U w w') (hn : Apart (b :: T) U) : LwB s w' b k T most ps l := { h with at' := hf.at h.at' (hn b (by simp)), st := h.st.frame hf fun j hj => hn j (by simp [hj]) }
theorem LwB.below (h : LwB s w b k T most ps l) (hb : Below w.heap.size w w') : LwB s w' b k T most ps l := h.frame (U := []) (Frame.of_below hb) fun _ _ => by simp
theorem LwB.lt (h : LwB s w b k T most ps l) : ∀ j ∈ b :: T, j < w.heap.size := fun j hj => by rcases List.mem_cons.1 hj with rfl | a; exact h.at'.lt; exact h.st.lt j a
theorem far_ok (h : Gd ps) {x : Int × Int} (hx : x ∈ ps) : gp s e x.1 ≤ gp s e (fr s ps) := by
 obtain ⟨j, hj, rfl⟩ := List.getElem_of_mem hx
 have a := h.le (i := 0) (j := j) (by omega) hj
 have c := h.le (i := j) (j := ps.length - 1) (by omega) (by omega)
 rw [show ps.getD j (0, 0) = ps[j] by simp [hj]] at a c
 cases s <;> simp only [gp, fr, reduceIte, Bool.false_eq_true] <;> omega
theorem sout_w (h : Strip w k T most ps) (h0 : ps.length ≠ 0) : ∃ z, (0 < z ∧ z ≤ sumP ps) ∧ Calls Tryz.prog (lk s).X #[.pointer (some ⟨k, 0, none⟩)] w fun e w' => e = .returned (.tuple #[.agg #[.int .i64 (fr s ps), .int .u64 z], .bool true]) ∧ ∃ rs, Strip w' k T most rs ∧ Frame T w w' ∧ sumP rs + z = sumP ps ∧ rs.length < ps.length ∧ ∀ x ∈ rs, x ∈ ps := by
 have key : ∀ i, i < ps.length → ∀ e w', outR k T most ps i w e w' → e = .returned (.tuple #[.agg #[.int .i64 (ps.getD i (0, 0)).1, .int .u64 (ps.getD i (0, 0)).2], .bool true]) ∧ ∃ rs, Strip w' k T most rs ∧ Frame T w w' ∧ sumP rs + (ps.getD i (0, 0)).2 = sumP ps ∧ rs.length < ps.length ∧ ∀ x ∈ rs, x ∈ ps := fun i hi e w' ⟨a, c, d⟩ => by
  unfold outV at a
  rw [if_neg h0] at a c
  exact ⟨a, _, c, d, by have := sumP_outF hi; omega, by have := outF_length hi; omega, fun x hx => outF_mem hx⟩
 have sl : ∀ i, i < ps.length → (ps.getD i (0, 0)).2 ≤ sumP ps := fun i hi => by have := sumP_outF hi; have := sumP_nonneg (gd_outF h.gd i).pos; omega
 cases s
 ·exact ⟨_, ⟨h.gd.pos _ (getD_mem' (i := ps.length - 1) (by omega)), sl _ (by omega)⟩, (slast_any k T most ps w h).mono (key _ (by omega))⟩
 ·exact ⟨_, ⟨h.gd.pos _ (getD_mem' (i := 0) (by omega)), sl _ (by omega)⟩, (sfirst_any k T most ps w h).mono (key _ (by omega))⟩
theorem lout_w {q v : Value} (a : At w b #[.int .i64 most, q, v] (lk s).T) (hm : 1 ≤ most ∧ most ≤ 4096) (hi : I64 i) (he : I64 e) : Calls Tryz.prog (lk s).O #[.pointer (some ⟨b, 0, none⟩), .int .i64 i, .int .i64 e] w fun r w' => r = .returned (.bool (decide (most ≤ gp s e i))) ∧ w = w' := by
 have f1 := a.three
 have wm : IntKind.u64.wrap most = most := by simp only [IntKind.wrap_u64]; omega
 have HM := Lib.hid hm
 rcases Int.lt_trichotomy i e with h | rfl | h
 ·have w1 := wsub he hi h
  rcases Decidable.em (most ≤ e - i) with h2 | h2
  all_goals
   clear a hi he
   cases s
   all_goals
    dsimp only [lk]
    first | go_enter Tryz.func151, Tryz.ntmps151 | go_enter Tryz.func148, Tryz.ntmps148
    go_wp2
    go_ret
    exact ⟨by have := HM.out; simp [gp]; omega, rfl⟩
 ·clear a hi he
  cases s
  all_goals
   dsimp only [lk]
   first | go_enter Tryz.func151, Tryz.ntmps151 | go_enter Tryz.func148, Tryz.ntmps148
   go_wp2
   go_ret
   exact ⟨by have := HM.out; simp [gp]; omega, rfl⟩
 ·have w1 := wsub hi he h
  rcases Decidable.em (most ≤ i - e) with h2 | h2
  all_goals
   clear a hi he
   cases s
   all_goals
    dsimp only [lk]
    first | go_enter Tryz.func151, Tryz.ntmps151 | go_enter Tryz.func148, Tryz.ntmps148
    go_wp2
    go_ret
    exact ⟨by have := HM.out; simp [gp]; omega, rfl⟩
theorem lend_w (h : LwB s w b k T most ps l) : Calls Tryz.prog (lk s).E #[.pointer (some ⟨b, 0, none⟩)] w fun r w' => r = .returned (if ps.length = 0 then .tuple #[.int .i64 0, .bool false] else .tuple #[.int .i64 (fr (!s) ps), .bool true]) ∧ Below w.heap.size w w' := by
 have f1 := h.at'.three
 have SE := Lib.hid (sends_any _ _ _ _ _ h.st)
 unfold endsV at SE
 rcases Decidable.em (ps.length = 0) with h0 | h0 <;> simp only [h0, if_true, if_false] at SE ⊢ <;> clear h h0 <;> cases s
 all_goals
  simp only [fr, lk, Bool.not_true, Bool.not_false, reduceIte, Bool.false_eq_true]
  first | go_enter Tryz.func150, Tryz.ntmps150 | go_enter Tryz.func147, Tryz.ntmps147
  go_wp2_with fail
  refine SE.out.mono ?_
  rintro e w1 ⟨rfl, hb⟩
  go_wp2
  go_ret2
  exact ⟨rfl, hb⟩
theorem ltot_w (h : LwB s w b k T most ps l) (hn : sumP ps + l ≤ 16000) : Calls Tryz.prog (lk s).Z #[.pointer (some ⟨b, 0, none⟩)] w fun e w' => e = .returned (.int .u64 (sumP ps + l)) ∧ Below w.heap.size w w' := by
 have s1 := h.at'
 have H := Lib.hid fun W (hb : Below w.heap.size w W) => stotal_any _ _ _ _ _ (h.below hb).st
 have E : Hid (IntKind.u64.wrap (sumP ps + l) = sumP ps + l) := by have := sumP_nonneg h.st.gd.pos; have := h.l0; show _ = _; simp only [IntKind.wrap_u64]; omega
 clear h hn
 cases s
 all_goals
  dsimp only [lk]
  first | go_enter Tryz.func135, Tryz.ntmps135 | go_enter Tryz.func133, Tryz.ntmps133
  go_wp2
  have hfar1 := fun x : Far w => (x.at s1).three
  refine wp_region_far (by kernel_rfl) (by kernel_rfl) ?_
  repeat go_big_quiet_step (first | (with_reducible refine far_eq (H.out _ (Far.below _))))
  refine wpQuiet_nil ?_
  rintro _ ⟨xq, rfl⟩
  clear hfar1
  rw [E.out]
  go_wp2
  go_ret
  exact ⟨rfl, xq.below⟩
theorem llost_w (h : LwB s w b k T most ps l) : Calls Tryz.prog (lk s).L #[.pointer (some ⟨b, 0, none⟩)] w fun e w' => e = .returned (.int .u64 l) ∧ w = w' := by
 have f1 := h.at'.three
 clear h
 cases s
 all_goals
  dsimp only [lk]
  first | go_enter Tryz.func396, Tryz.ntmps396 | go_enter Tryz.func392, Tryz.ntmps392
  go_wp2
  go_ret
  exact ⟨rfl, rfl⟩
theorem lrow_w (h : LwB s w b k T most ps l) : Calls Tryz.prog (lk s).R #[.pointer (some ⟨b, 0, none⟩)] w (CloR ps w) := by
 have f1 := h.at'.three
 have H := Lib.hid (spairs_any _ _ _ _ _ h.st)
 clear h
 cases s
 all_goals
  dsimp only [lk]
  first | go_enter Tryz.func397, Tryz.ntmps397 | go_enter Tryz.func393, Tryz.ntmps393
  go_wp2_with fail
  refine H.out.mono ?_
  rintro e w1 ⟨A, c, rfl, h⟩
  have h := Lib.hid h
  go_wp2
  go_ret
  exact ⟨_, _, rfl, h.out⟩
def LnR (s : Bool) (most n : Int) (w : World) (e : Ending) (w' : World) : Prop := ((∃ b k T ps l, e = .returned (.tuple #[.pointer (some ⟨b, 0, none⟩), .int .i64 0]) ∧ LwB s w' b k T most ps l ∧ n = sumP ps + l ∧ Within (b :: T) w.heap.size w'.heap.size) ∨ ∃ c : Int, c ≠ 0 ∧ e = .returned (.tuple #[.pointer none, .int .i64 c])) ∧ Below w.heap.size w w'
theorem lnew_w : Calls Tryz.prog (lk s).N #[.int .i64 most] w fun e w' => LnR s most 0 w e w' ∧ (1 ≤ most ∧ most ≤ 4096 → ∃ b, e = .returned (.tuple #[.pointer (some ⟨b, 0, none⟩), .int .i64 0])) := by
 by_cases hm : 1 ≤ most ∧ most ≤ 4096
 ·have SN := Lib.hid (snew_any most w hm.1 hm.2)
  have M := Lib.hid hm
  clear hm
  cases s
  all_goals
   dsimp only [lk]
   first | go_enter Tryz.func99, Tryz.ntmps99 | go_enter Tryz.func98, Tryz.ntmps98
   go_wp2_with fail
   refine SN.out.mono ?_
   rintro e w1 ⟨⟨c, rfl, hc, hS⟩, hb⟩
   have l1 := hS.lt c (by simp)
   have z := hb.size
   have F := fun t => Lib.hid (show LnR t most 0 w (.returned (.tuple #[.pointer (some ⟨w1.heap.size, 0, none⟩), .int .i64 0])) (w1.alloc (.cells #[.int .i64 most, .pointer (some ⟨c, 0, none⟩), .int .u64 0] (lk t).T)) from ⟨.inl ⟨_, c, [c], [], 0, rfl, ⟨At.new _ _ _, hS.below (bn _ _), by simp; omega, Int.le_refl _, M.out, by simp⟩, by simp [sumP], fun j hj => by simp at hj ⊢; omega⟩, keep1 hb (bn _ _)⟩)
   clear hc hS l1 z
   go_wp2
   go_ret2
   exact ⟨(F _).out, fun _ => ⟨_, rfl⟩⟩
 ·have SN := Lib.hid (snew_bad most w (by omega))
  have NM := Lib.hid hm
  clear hm
  cases s
  all_goals
   dsimp only [lk]
   first | go_enter Tryz.func99, Tryz.ntmps99 | go_enter Tryz.func98, Tryz.ntmps98
   go_wp2_with fail
   refine SN.out.mono ?_
   rintro e w1 ⟨rfl, rfl⟩
   go_wp2
   go_ret2
   exact ⟨⟨.inr ⟨_, by decide, rfl⟩, Below.refl _ _⟩, fun h => absurd h NM.out⟩
end
end Go.Proofs.YtlbnlmhcpephbaaGreatDoor

namespace Go.Proofs.YtlbnlmhcpephbaaGreatDoor
open Go.RowKit
set_option maxRecDepth 100000
def ShJ (s : Bool) (b k : Nat) (T : List Nat) (most : Int) (ps : List (Int × Int)) (N : Int) (w : World) (n : Nat) (W : World) : Prop :=
 ∃ qs l, LwB s W b k T most qs l ∧ Frame (b :: T) w W ∧ sumP qs + l = N ∧ (∀ x ∈ qs, x ∈ ps) ∧ qs.length = n
section
variable {s : Bool} {w w' : World} {b k : Nat} {T U : List Nat} {most l n i e x c : Int} {ps qs : List (Int × Int)}
theorem LwB.lost {l2 : Int} (h : LwB s w b k T most ps l) (hl : 0 ≤ l2) : LwB s (w.setCell ⟨b, 2, none⟩ (.int .u64 l2)) b k T most ps l2 :=
 { h with at' := h.at'.set_any 2 _ rfl, st := h.st.frame (Frame.set [b] w b 2 _ (by simp)) fun j hj e => h.ne (by simp at e; exact e ▸ hj), l0 := hl }
theorem endsV_fr (h : ¬ ps.length = 0) : endsV ps = .tuple #[.int .i64 (fr true ps), .int .i64 (fr false ps), .bool true] := if_neg h
theorem fr_mem (h : ¬ ps.length = 0) : ∃ y ∈ ps, y.1 = fr s ps := ⟨_, getD_mem' (by cases s <;> simp <;> omega), rfl⟩
theorem LwB.fr64 (h : LwB s w b k T most ps l) (t : Bool) (h0 : ¬ ps.length = 0) : I64 (fr t ps) := by
 obtain ⟨y, hy, e⟩ := fr_mem (s := t) h0
 exact e ▸ (h.st.ok y hy).1
set_option maxHeartbeats 1000000 in
theorem lshed_w (h : LwB s w b k T most ps l) (he : I64 e) (hs : sumP ps + l ≤ 16000) : Calls Tryz.prog (lk s).S #[.pointer (some ⟨b, 0, none⟩), .int .i64 e] w fun r w' => r = .returned (.tuple #[]) ∧ ∃ qs l', LwB s w' b k T most qs l' ∧ Frame (b :: T) w w' ∧ sumP qs + l' = sumP ps + l ∧ (∀ x ∈ qs, x ∈ ps) ∧ ∀ x ∈ qs, gp s e x.1 < most := by
 have J : Hid (∃ n, ShJ s b k T most ps (sumP ps + l) w n w) := ⟨_, ps, l, h, Frame.refl _ _, rfl, fun _ h => h, rfl⟩
 generalize sumP ps + l = N at *
 have F : Hid (∀ W W' qs l', LwB s W b k T most qs l' → Frame (b :: T) w W → sumP qs + l' = N → (∀ x ∈ qs, x ∈ ps) → Below W.heap.size W W' → (¬ qs.length = 0 → ¬ most ≤ gp s e (fr s qs)) → ∃ qs l', LwB s W' b k T most qs l' ∧ Frame (b :: T) w W' ∧ sumP qs + l' = N ∧ (∀ x ∈ qs, x ∈ ps) ∧ ∀ x ∈ qs, gp s e x.1 < most) := fun W W' qs l' a b c d hb f => ⟨qs, l', a.below hb, b.trans (Frame.of_below hb), c, d, fun x hx => by
  have := far_ok (s := s) (e := e) a.st.gd hx
  have := f fun z => by rw [List.eq_nil_of_length_eq_zero z] at hx; cases hx
  omega⟩
 have OU : Hid (∀ W qs l', LwB s W b k T most qs l' → ¬ qs.length = 0 → ∃ g : Bool, (g = false → ¬ most ≤ gp s e (fr s qs)) ∧ Calls Tryz.prog (lk s).O #[.pointer (some ⟨b, 0, none⟩), .int .i64 (fr s qs), .int .i64 e] W fun r w' => r = .returned (.bool g) ∧ W = w') := fun W qs l' h h0 => ⟨_, of_decide_eq_false, lout_w h.at' h.m1 (h.fr64 s h0) he⟩
 have ST : Hid (∀ W qs l', LwB s W b k T most qs l' → Frame (b :: T) w W → sumP qs + l' = N → (∀ x ∈ qs, x ∈ ps) → ¬ qs.length = 0 → ∃ z, IntKind.u64.wrap (l' + z) = l' + z ∧ Calls Tryz.prog (lk s).X #[.pointer (some ⟨k, 0, none⟩)] W fun r W3 => r = .returned (.tuple #[.agg #[.int .i64 (fr s qs), .int .u64 z], .bool true]) ∧ At W3 b #[.int .i64 most, .pointer (some ⟨k, 0, none⟩), .int .u64 l'] (lk s).T ∧ ∀ o, ∃ n, n < qs.length ∧ ShJ s b k T most ps N w n ((W3.alloc o).setCell ⟨b, 2, none⟩ (.int .u64 (l' + z))).drew) := fun W qs l' h hF hN hm h0 => by
  obtain ⟨z, hz, C⟩ := sout_w (s := s) h.st h0
  refine ⟨z, by have := hz.2; have := h.l0; simp only [IntKind.wrap_u64]; omega, C.mono ?_⟩
  rintro r W3 ⟨rfl, rs, hS, hF3, hs3, hl, hsub⟩
  have h3 : LwB s W3 b k T most rs l' := { h with at' := hF3.at h.at' h.ne, st := hS, wn := fun x hx y hy => h.wn x (hsub x hx) y (hsub y hy) }
  exact ⟨rfl, h3.at', fun o => ⟨rs.length, hl, rs, l' + z, ((h3.below (bn _ o)).lost (by have := h.l0; omega)).below (Below.refl _ _).drew, (((hF.trans (hF3.mono fun j hj => by simp [hj])).trans (Frame.of_below (bn _ o))).setc (.inl (by simp)) 2 _).drew, by omega, fun x hx => hm x (hsub x hx), rfl⟩⟩
 obtain ⟨R, hR⟩ : ∃ R, ShJ s b k T most ps N w = R := ⟨_, rfl⟩
 have O : Hid (∀ n W, R n W → ∃ qs l', LwB s W b k T most qs l' ∧ Frame (b :: T) w W ∧ sumP qs + l' = N ∧ (∀ x ∈ qs, x ∈ ps) ∧ qs.length = n) := by rw [← hR]; exact fun _ _ h => h
 rw [hR] at J ST
 clear h he hs hR
 cases s
 all_goals
  dsimp only [lk]
  first | go_enter Tryz.func152, Tryz.ntmps152 | go_enter Tryz.func149, Tryz.ntmps149
  go_wp2
  go_loopw [4, 5, 6, 7, 8] (fun _ _ _ _ _ wr => Hid (∃ n, R n wr)) (fun _ _ _ _ _ wr => mu fun n => R n wr)
  case atStart => exact J
  case round =>
   clear J
   have J := mu_spec hrel.out
   obtain ⟨n, hn⟩ : ∃ n, mu (fun n => R n wr) = n := ⟨_, rfl⟩
   rw [hn] at J
   have MU := Lib.hid hn
   obtain ⟨qs, l', h, hF, hN, hm, hn⟩ := O.out _ _ J
   have f1 := h.at'.three
   have s1 := h.at'.lt
   by_cases h0 : qs.length = 0
   ·have FIN := Lib.hid fun W hb => F.out wr W qs l' h hF hN hm hb fun e => absurd h0 e
    have SE := Lib.hid (sends_any _ _ _ _ _ h.st)
    rw [show endsV qs = .tuple #[.int .i64 0, .int .i64 0, .bool false] from if_pos h0] at SE
    clear h hF hN hm F hn hrel h0 J ST OU O
    go_wp2_with fail
    refine SE.out.mono ?_
    rintro r w1 ⟨rfl, hb⟩
    have FIN := Lib.hid (FIN.out w1 hb)
    clear hb
    go_wp2
    exact bodyPost_ret (results_none rfl _ _ _) rfl ⟨rfl, FIN.out⟩
   have SE := Lib.hid (sends_any _ _ _ _ _ h.st)
   rw [endsV_fr h0] at SE
   have X := Lib.hid (And.intro h (And.intro hF (And.intro hN (And.intro hm (And.intro hn h0)))))
   clear h hF hN hm hn hrel h0 J
   go_wp2_with fail
   refine SE.out.mono ?_
   rintro r w1 ⟨rfl, hb⟩
   have h := X.out.1.below hb
   have hF := Lib.hid (X.out.2.1.trans (Frame.of_below hb))
   have f2 := h.at'.three
   have l2 := h.at'.lt
   have FIN := Lib.hid (F.out w1 w1 qs l' h hF.out X.out.2.2.1 X.out.2.2.2.1 (Below.refl _ _))
   obtain ⟨z, hz, C⟩ := ST.out w1 qs l' h hF.out X.out.2.2.1 X.out.2.2.2.1 X.out.2.2.2.2.2
   obtain ⟨g, hg, OU⟩ := OU.out w1 qs l' h X.out.2.2.2.2.2
   replace OU := Lib.hid OU
   replace hg := Lib.hid hg
   replace C := Lib.hid C
   clear hb SE h f1 s1 F ST O hF
   go_wp2_with fail
   refine OU.out.mono ?_
   rintro r w2 ⟨rfl, rfl⟩
   cases g
   rotate_left
   ·clear FIN OU hg
    go_wp2_with fail
    refine C.out.mono ?_
    rintro r w3 ⟨rfl, s3, J⟩
    have J := Lib.hid J
    have f3 := fun o => (s3.alloc o).three
    have l3 := fun o => (s3.alloc o).lt
    clear C f2 l2 s3
    go_wp2
    go_region
    go_wp2
    go_roundw
    case rel => obtain ⟨n, _, h⟩ := J.out _; exact ⟨n, h⟩
    case measure => obtain ⟨n, e, h⟩ := J.out _; exact Nat.lt_of_le_of_lt (mu_le h) (by have := MU.out; have := X.out.2.2.2.2.1; omega)
   ·have FIN := Lib.hid (FIN.out fun _ => hg.out rfl)
    clear hg C OU
    go_wp2
    exact bodyPost_ret (results_none rfl _ _ _) rfl ⟨rfl, FIN.out⟩
end
end Go.Proofs.YtlbnlmhcpephbaaGreatDoor
