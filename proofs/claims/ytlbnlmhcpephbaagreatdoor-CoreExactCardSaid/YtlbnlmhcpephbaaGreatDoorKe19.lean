/- Texts of this claim, joined, indents halved: EBn4, Sort64, EWs, SortW, EGr1, EGr2. -/
import Derived.Test.YtlbnlmhcpephbaaGreatDoorProg
import Derived.Shelf.SortG.Plain
import Derived.Shelf.SortG.SortNone
import Derived.Ground.SlgnProg
import Derived.Lib.SliceRun
import Derived.Sort.OwnSortedInts
import Derived.Test.YtlbnlmhcpephbaaGreatDoorKe18
namespace Go.Proofs.YtlbnlmhcpephbaaGreatDoor
open Go.RowKit
set_option maxRecDepth 100000
section
variable {s : Bool} {w w' W wr : World} {b t g k c c0 c1 j : Nat} {K : Bool → Nat} {S : Bool → List Nat} {TS T S0 S1 : List Nat} {most z y x v : Int} {n l N : Bool → Int} {q0 q1 : Value} {qs : List (Int × Int)} {A : Option Addr} {e : Ending} {rv lv : Array Value} {P : Bool → List (Int × Int)} {C : Bool → Nat} {B : Bool → Option Addr}
theorem bld_w {cc : Nat} {l : Int} (gd : Gd qs) (ok : okP qs) (hr : RdP w A qs) (h0 : 0 ≤ l) (hs : sumP qs + l ≤ 16000) (hl : qs.length ≤ 16000) : Calls Tryz.prog 101 #[.int .i64 (sdI s), .int .i64 most, .slice A qs.length cc, .int .u64 l] w fun e w' => (∃ v c, e = .returned (.tuple #[v, .int .i64 c]) ∧ ((c = 0 ∧ ∃ b S, v = .iface (lkU s) (.pointer (some ⟨b, 0, none⟩)) ∧ Lw s w' b S most (sumP qs + l) ∧ Within S w.heap.size w'.heap.size) ∨ c ≠ 0 ∧ v = .nilIface)) ∧ Below w.heap.size w w' := by
 have D := Lib.hid (lload_w (s := s) (most := most) (cc := cc) gd ok hr h0 hs hl)
 generalize sumP qs + l = N at *
 obtain ⟨m, hm⟩ : ∃ m, qs.length = m := ⟨_, rfl⟩
 rw [hm] at D ⊢
 clear gd ok hr h0 hs hl hm
 cases s
 all_goals
  dsimp only [sdI, reduceIte, Bool.false_eq_true]
  go_enter Tryz.func101, Tryz.ntmps101
  go_wp2_with fail
  refine D.out.mono ?_
  rintro e w1 ⟨⟨b, k, T, ps, l', rfl, h, e, wi⟩ | ⟨c, hc, rfl⟩, hb⟩
  ·have R : Hid (Lw _ w1 b (b :: T) most N ∧ Within (b :: T) w.heap.size w1.heap.size) := ⟨⟨k, T, ps, l', rfl, h, e⟩, wi⟩
   clear h e wi D
   go_wp2
   go_ret2
   exact ⟨⟨_, _, rfl, .inl ⟨rfl, b, _, rfl, R.out⟩⟩, hb⟩
  ·have d0 : (c != 0) = true := by simpa using hc
   have HC := Lib.hid hc
   clear D hc
   go_wp2
   go_ret2
   exact ⟨⟨_, _, rfl, .inr ⟨HC.out, rfl⟩⟩, hb⟩
structure BlJ (w : World) (g : Nat) (rv lv : Array Value) (s : Bool) (most : Int) (N : Bool → Int) (k : Nat) (q0 q1 : Value) (c0 : Nat) (S0 : List Nat) (c1 : Nat) (S1 : List Nat) (wr : World) : Prop where
 bl : Below w.heap.size w wr
 a0 : At wr g rv 223
 a1 : At wr (g + 1) lv 221
 a2 : At wr (g + 1 + 1) #[q0, q1] 248
 gw : w.heap.size ≤ g
 s0 : 0 < k → q0 = .iface (lkU s) (.pointer (some ⟨c0, 0, none⟩)) ∧ Lw s wr c0 S0 most (N true) ∧ ∀ j ∈ S0, g + 1 + 1 < j
 s1 : 1 < k → q1 = .iface (lkU s) (.pointer (some ⟨c1, 0, none⟩)) ∧ Lw s wr c1 S1 most (N false) ∧ (∀ j ∈ S1, g + 1 + 1 < j) ∧ Apart S0 S1
theorem BlJ.below (h : BlJ w g rv lv s most N k q0 q1 c0 S0 c1 S1 wr) (hb : Below wr.heap.size wr w') : BlJ w g rv lv s most N k q0 q1 c0 S0 c1 S1 w' :=
 ⟨keep1 h.bl hb, h.a0.below hb, h.a1.below hb, h.a2.below hb, h.gw, fun e => ⟨(h.s0 e).1, (h.s0 e).2.1.below hb, (h.s0 e).2.2⟩, fun e => ⟨(h.s1 e).1, (h.s1 e).2.1.below hb, (h.s1 e).2.2⟩⟩
def sK (k : Nat) : Bool := k == 0
theorem BlJ.cs (h : BlJ w g #[.slice (B true) (P true).length (C true), .slice (B false) (P false).length (C false)] #[.int .u64 (l true), .int .u64 (l false)] s most N k q0 q1 c0 S0 c1 S1 wr) (hj : j < 2) : wr.cell? ⟨g, j, none⟩ = some (.slice (B (sK j)) (P (sK j)).length (C (sK j))) ∧ wr.cell? ⟨g + 1, j, none⟩ = some (.int .u64 (l (sK j))) ∧ ∃ v, wr.cell? ⟨g + 1 + 1, j, none⟩ = some v := by
 rcases (by omega : j = 0 ∨ j = 1) with rfl | rfl
 ·exact ⟨h.a0.cell rfl, h.a1.cell rfl, _, h.a2.cell rfl⟩
 ·exact ⟨h.a0.cell rfl, h.a1.cell rfl, _, h.a2.cell rfl⟩
theorem BlJ.step (h : BlJ w g rv lv s most N k q0 q1 c0 S0 c1 S1 wr) (hk : k < 2) (hb : Below wr.heap.size wr w') (hS : Lw s w' c T most (N (sK k))) (wi : Within T wr.heap.size w'.heap.size) :
  ∃ q0 q1 c0 S0 c1 S1, BlJ w g rv lv s most N (k + 1) q0 q1 c0 S0 c1 S1 (w'.setCell ⟨g + 1 + 1, k, none⟩ (.iface (lkU s) (.pointer (some ⟨c, 0, none⟩)))) := by
 have f := Frame.set [g + 1 + 1] w' (g + 1 + 1) k (.iface (lkU s) (.pointer (some ⟨c, 0, none⟩))) (by simp)
 have h' := h.below hb
 have gl := h.a2.lt
 have gw := h.gw
 have BB := f.below h'.bl h'.bl.size fun j hj => by simp at hj; omega
 have a0 := f.at h'.a0 (by simp; omega)
 have a1 := f.at h'.a1 (by simp)
 have hS' := hS.frame f fun j hj e => by have := wi j hj; simp at e; omega
 have hT : ∀ j ∈ T, g + 1 + 1 < j := fun j hj => by have := wi j hj; omega
 rcases (by omega : k = 0 ∨ k = 1) with rfl | rfl
 ·exact ⟨_, q1, c, T, c1, S1, BB, a0, a1, h'.a2.set_any 0 _ rfl, gw, fun _ => ⟨rfl, hS', hT⟩, fun e => by omega⟩
 ·obtain ⟨r1, r2, r3⟩ := h'.s0 (by omega)
  have lt := (h.s0 (by omega)).2.1.lt
  exact ⟨q0, _, c0, S0, c, T, BB, a0, a1, h'.a2.set_any 1 _ rfl, gw, fun _ => ⟨r1, r2.frame f fun j hj e => by have := r3 j hj; simp at e; omega, r3⟩, fun _ => ⟨rfl, hS', hT, fun j hj m => by have := lt j hj; have := (wi j m).1; omega⟩⟩
def BlR (b t : Nat) (TS : List Nat) (s : Bool) (S : Bool → List Nat) (most M : Int) (w w' : World) : Prop := ∃ K S' n z, BnC w' b t TS s K S' most n z ∧ Mv (bS b TS S) (bS b TS S') w w' ∧ bN n z = M
theorem BnC.load (h : BnC w b t TS s K S most n z) (J : BlJ w g rv lv s most N 2 q0 q1 c0 S0 c1 S1 wr) (hy : 0 ≤ y) : BlR b t TS s S most (bN N y) w (((wr.setCell ⟨b, 3, none⟩ q0).setCell ⟨b, 4, none⟩ q1).setCell ⟨b, 5, none⟩ (.int .u64 y)) := by
 have bl := h.at'.lt
 have tl := h.tab.lt
 have gw := J.gw
 obtain ⟨r1, r2, r3⟩ := J.s0 (by omega)
 obtain ⟨p1, p2, p3, p4⟩ := J.s1 (by omega)
 subst r1 p1
 have h' := h.below J.bl
 have f := ((Frame.set [b] wr b 3 (.iface (lkU s) (.pointer (some ⟨c0, 0, none⟩))) (by simp)).setc (b := b) (.inl (by simp)) 4 (.iface (lkU s) (.pointer (some ⟨c1, 0, none⟩)))).setc (b := b) (.inl (by simp)) 5 (.int .u64 y)
 refine ⟨fun i => if i then c0 else c1, fun i => if i then S0 else S1, N, y, ⟨((h'.at'.set_any 3 _ rfl).set_any 4 _ rfl).set_any 5 _ rfl, h'.tab.frame f fun j hj e => h.ne.1 (by simp at e; exact e ▸ hj), fun i => ?_, hy, h.ne.1, fun i => ?_, p4⟩, ⟨fun j hj => ?_, (Frame.of_below J.bl).trans (f.mono (by simp [bS]))⟩, rfl⟩
 ·cases i
  ·exact p2.frame f fun j hj e => by have := p3 j hj; simp at e; omega
  ·exact r2.frame f fun j hj e => by have := r3 j hj; simp at e; omega
 ·cases i <;> simp only [reduceIte, Bool.false_eq_true]
  ·exact ⟨fun m => by have := p3 _ m; omega, fun j hj m => by have := tl j hj; have := p3 j m; omega⟩
  ·exact ⟨fun m => by have := r3 _ m; omega, fun j hj m => by have := tl j hj; have := r3 j m; omega⟩
 ·simp only [bS, List.mem_cons, List.mem_append, reduceIte, Bool.false_eq_true] at hj ⊢
  rcases hj with e | e | e | e
  ·exact .inl (.inl e)
  ·exact .inl (.inr (.inl e))
  ·exact .inr (by have := r3 j e; omega)
  ·exact .inr (by have := p3 j e; omega)
structure BlH (b g k : Nat) (cs : Array Value) (u v : Value) (W : World) : Prop where
 a : At W b cs 208
 b : W.cell? ⟨g, k, none⟩ = some u ∧ W.cell? ⟨g + 1, k, none⟩ = some v ∧ g + 1 < W.heap.size ∧ g < W.heap.size
theorem BlH.below {cs : Array Value} {u v : Value} (h : BlH b g k cs u v W) (hb : Below W.heap.size W w') : BlH b g k cs u v w' := ⟨h.a.below hb, cellB hb h.b.2.2.2 h.b.1, cellB hb h.b.2.2.1 h.b.2.1, Nat.lt_of_lt_of_le h.b.2.2.1 hb.size, Nat.lt_of_lt_of_le h.b.2.2.2 hb.size⟩
theorem BlH.set {cs : Array Value} {u v x : Value} (h : BlH b g k cs u v W) (hb : b ≠ g + 1 + 1) : BlH b g k cs u v (W.setCell ⟨g + 1 + 1, k, none⟩ x) := by
 have B := (Below.refl (g + 1 + 1) W).setCell (p := ⟨g + 1 + 1, k, none⟩) (Nat.le_refl _) x
 exact ⟨h.a.set_other (p := ⟨g + 1 + 1, k, none⟩) hb x, cellB B (by omega) h.b.1, cellB B (by omega) h.b.2.1, by simpa [World.setCell] using h.b.2.2.1, by simpa [World.setCell] using h.b.2.2.2⟩
set_option maxHeartbeats 4000000 in
theorem bload_w (h : BnC w b t TS s K S most n z) (hP : BnP P l N) (hR : ∀ i, RdP w (B i) (P i)) (hy : 0 ≤ y) (hs : bN N y ≤ 16000) : Calls Tryz.prog 86 #[.pointer (some ⟨b, 0, none⟩), .agg #[.slice (B true) (P true).length (C true), .slice (B false) (P false).length (C false)], .agg #[.int .u64 (l true), .int .u64 (l false)], .int .u64 y] w fun e w' => ∃ c : Int, e = .returned (.int .i64 c) ∧ (c ≠ 0 ∧ Below w.heap.size w w' ∨ c = 0 ∧ BlR b t TS s S most (bN N y) w w') := by
 have f1 := h.at'.c6
 have l1 := h.at'.lt
 have H := Lib.hid (And.intro h (And.intro hP (And.intro hR (And.intro hy hs))))
 have J : Hid (BlJ w w.heap.size #[.slice (B true) (P true).length (C true), .slice (B false) (P false).length (C false)] #[.int .u64 (l true), .int .u64 (l false)] s most N 0 .nilIface .nilIface 0 [] 0 [] (((w.alloc (.cells #[.slice (B true) (P true).length (C true), .slice (B false) (P false).length (C false)] 223)).alloc (.cells #[.int .u64 (l true), .int .u64 (l false)] 221)).alloc (.cells #[.nilIface, .nilIface] 248))) :=
  ⟨keep1 (keep1 (bn _ _) (bn _ _)) (bn _ _), ((At.new w _ _).below (bn _ _)).below (bn _ _), At.below (At.new' _ _ _ (by simp)) (bn _ _), At.new' _ _ _ (by simp), Nat.le_refl _, fun e => by omega, fun e => by omega⟩
 clear h hP hR hy hs
 go_enter Tryz.func86, Tryz.ntmps86
 go_wp2
 clear f1 l1
 generalize ((w.alloc _).alloc _).alloc _ = W0 at *
 have CS : Hid (∀ k q0 q1 c0 S0 c1 S1 wr, BlJ w w.heap.size #[.slice (B true) (P true).length (C true), .slice (B false) (P false).length (C false)] #[.int .u64 (l true), .int .u64 (l false)] s most N k q0 q1 c0 S0 c1 S1 wr → _) := fun k q0 q1 c0 S0 c1 S1 wr h => h.cs (j := k)
 generalize #[Value.slice (B true) (P true).length (C true), .slice (B false) (P false).length (C false)] = rv at *
 generalize #[Value.int .u64 (l true), .int .u64 (l false)] = lv at *
 have F : Hid (∀ (c : Int) W, c ≠ 0 → Below w.heap.size w W → ∃ d : Int, Ending.returned (.int .i64 c) = .returned (.int .i64 d) ∧ (d ≠ 0 ∧ Below w.heap.size w W ∨ d = 0 ∧ BlR b t TS s S most (bN N y) w W)) := fun c W h k => ⟨c, rfl, .inl ⟨h, k⟩⟩
 obtain ⟨r1, r2⟩ := tb_m.2
 go_loopw [10, 12, 13, 18, 25] (fun _ _ _ i _ wr => ∃ k : Nat, k ≤ 2 ∧ i = .int .i64 k ∧ ∃ q0 q1 c0 S0 c1 S1, Hid (BlJ w w.heap.size rv lv s most N k q0 q1 c0 S0 c1 S1 wr)) (fun _ _ _ i _ _ => 2 - (intOf i).toNat)
 case atStart => exact ⟨0, by omega, rfl, _, _, _, _, _, _, J⟩
 case round =>
  clear J
  obtain ⟨k, hk, rfl, q0, q1, c0, S0, c1, S1, J⟩ := hrel
  by_cases hlt : k < 2
  ·obtain ⟨d1, d2, d3⟩ := CS.out _ _ _ _ _ _ _ _ J.out hlt
   have k0 : (0 : Int) ≤ k := by omega
   have k1 : (k : Int) < 2 := by omega
   have k2 : IntKind.i64.wrap ((k : Int) + 1) = ((k + 1 : Nat) : Int) := by simp only [IntKind.wrap_i64]; omega
   have l0 := J.out.a0.lt
   have hp := H.out.2.1.gd (sK k)
   have hl := H.out.2.1.l0 (sK k)
   have hq := H.out.2.1.sm (sK k)
   have RA := Lib.hid (H.out.2.2.1 (sK k))
   have bd : 0 ≤ sumP (P (!sK k)) := sumP_nonneg (H.out.2.1.gd (!sK k)).1.pos
   have bd2 : N (sK k) ≤ 16000 := by have := H.out.2.2.2; have := H.out.2.1.l0 (!sK k); have := H.out.2.1.sm (!sK k); unfold bN at *; generalize sK k = i at *; cases i <;> simp at * <;> omega
   have LD := Lib.hid fun W A (cc : Nat) (hr : RdP W A (P (sK k))) => bld_w (s := s) (most := most) (cc := cc) (w := W) hp.1 hp.2.1 hr hl (by omega) (by have := hp.2.2; omega)
   rw [← hq] at LD
   obtain ⟨m, hm⟩ : ∃ m, (P (sK k)).length = m := ⟨_, rfl⟩
   have HM := Lib.hid hm
   have OK := Lib.hid hp.2.1
   have h4 := hp.2.2
   obtain ⟨A, hA⟩ : ∃ A, B (sK k) = A := ⟨_, rfl⟩
   obtain ⟨cc, hc⟩ : ∃ c, C (sK k) = c := ⟨_, rfl⟩
   obtain ⟨lo, hlo⟩ : ∃ c, l (sK k) = c := ⟨_, rfl⟩
   replace CS := Lib.hid (CS.out k)
   rw [hA, hc, hlo, hm] at CS
   rw [hA] at RA
   rw [hlo] at LD
   rw [hA, hc, hm] at d1
   rw [hm] at LD h4
   clear hA hc hlo
   clear hp hq hl bd bd2 hm d2 d3
   go_wp2
   clear d1 l0
   go_loopw [12, 25] (fun _ i wi => ∃ j : Nat, j ≤ m ∧ i = .int .i64 j ∧ Hid (Below wr.heap.size wr wi)) (fun _ i _ => m - (intOf i).toNat)
   case atStart => exact ⟨0, by omega, rfl, Below.refl _ _⟩
   case round =>
    obtain ⟨j, hj, rfl, BW⟩ := hrel
    have Jw := Lib.hid (J.out.below BW.out)
    by_cases hjt : j < m
    ·have hjl : j < (P (sK k)).length := by have := HM.out; omega
     obtain ⟨g, o', e, hg, d1, d2⟩ := (RA.out.below Jw.out.bl).at j hjl
     cases e
     have j0 : (0 : Int) ≤ j := by omega
     have j1 : (j : Int) < m := by omega
     have j2 : IntKind.i64.wrap ((j : Int) + 1) = ((j + 1 : Nat) : Int) := by simp only [IntKind.wrap_i64]; omega
     obtain ⟨r, RP⟩ := crep_w H.out.1.tab (OK.out.at j hjl).1
     generalize (P (sK k))[j].1 = x at *
     generalize (P (sK k))[j].2 = c at *
     have aP := At.new wr #[.int .i64 x, .int .u64 c] 247
     have hb := bn wr (.cells #[.int .i64 x, .int .u64 c] 247)
     replace BW := Lib.hid (keep1 BW.out hb)
     have BJ := keep1 Jw.out.bl hb
     have s1 := (H.out.1.below BJ).at'
     replace RP := Lib.hid fun W hw => RP W (keep1 BJ hw)
     replace BJ := Lib.hid BJ
     clear hjl hb Jw
     go_upto_region 10 with fail
     clear d1 d2 hg
     generalize wr.alloc _ = W4 at *
     generalize wr.heap.size = pb at *
     by_cases hx : x < 0
     ·have R := Lib.hid fun (xq : Far W4) => F.out 1 xq.far (by decide) (keep1 BJ.out xq.below)
      have hfar1 := fun x : Far W4 => (x.at s1).c6
      have hfar2 := fun x : Far W4 => (x.at aP).two
      refine wp_region_far (by kernel_rfl) (by kernel_rfl) ?_
      repeat go_big_quiet_step (first | (fail))
      refine wpQuiet_nil ?_
      rintro _ ⟨xq, rfl⟩
      clear hfar1 hfar2
      replace R := Lib.hid (R.out xq)
      clear s1 aP
      go_wp2
      go_ret
      exact R.out
     have hx' : decide (x < 0) = false := decide_eq_false hx
     have hfar1 := fun x : Far W4 => (x.at s1).c6
     have hfar2 := fun x : Far W4 => (x.at aP).two
     refine wp_region_far (by kernel_rfl) (by kernel_rfl) ?_
     repeat go_big_quiet_step (first | (with_reducible refine far_eq (RP.out _ (Far.below _))))
     refine wpQuiet_nil ?_
     rintro _ ⟨xq, rfl⟩
     clear hfar1 hfar2
     replace BW := Lib.hid (keep1 BW.out xq.below)
     have R := Lib.hid (F.out 1 xq.far (by decide) (keep1 BJ.out xq.below))
     generalize xq.far = W5 at *
     clear s1 aP BJ RP xq
     by_cases hr : r = 0
     ·subst hr
      go_wp2
      go_ret
      exact R.out
     ·have hr' := beq_eq_false_iff_ne.2 hr
      go_wp2
      go_roundw
      case rel => exact ⟨j + 1, by omega, by simp, BW⟩
      case measure => simp [intOf]; omega
    ·obtain rfl : j = m := by omega
     have Jd := Jw.out.below (Below.refl _ _).drew
     obtain ⟨d1, d2, -⟩ := CS.out _ _ _ _ _ _ _ Jd hlt
     have hT : BlH b w.heap.size k _ _ _ wr.drew := ⟨(H.out.1.below Jd.bl).at', d1, d2, Jd.a1.lt, Jd.a0.lt⟩
     have nb : b ≠ w.heap.size + 1 + 1 := by have := H.out.1.at'.lt; omega
     replace BW := Lib.hid (keep1 BW.out (Below.refl _ _).drew)
     have RB := Lib.hid (RA.out.below Jd.bl)
     replace Jd := Lib.hid Jd
     clear d1 d2 Jw hjt
     go_upto_region 14 with fail
     refine held_h (by kernel_rfl) (HeldS.mk' hT) (fun hHeld => ?_)
     generalize wr.drew = W4 at *
     have hne := hHeld.ne
     have hf1 := fun x => (hHeld.get x).a.c6
     have hf2 := fun x => (hHeld.get x).b
     refine runH [15] 7 hHeld ?_
     simp only [runL, runN, runOps_true, runOps_false, runOps_nil]
     repeat go_big_quiet_step (fail)
     refine wpQuiet_nil ?_
     refine readyH 15 fun K hK => ?_
     go_simp
     go_wp2_with (go_at_call 101; refine (LD.out W4 A cc RB.out).mono ?_; rintro e w5 ⟨⟨v, c, rfl, hv⟩, hb⟩)
     refine hK.out _ _ ?_ (fun hHeld => ?_)
     clear hK K
     ·exact HeldS.mk' (hT.below hb)
     replace hT := hT.below hb
     clear hf1 hf2
     refine runH [0, 16, 4] 2 hHeld ?_
     simp only [runL, runN, runOps_true, runOps_false, runOps_nil]
     repeat go_big_quiet_step (fail)
     refine wpQuiet_nil ?_
     have Je := Jd.out.below hb
     obtain ⟨-, -, v3, z3⟩ := CS.out _ _ _ _ _ _ _ Je hlt
     have l3 := Je.a2.lt
     have f3 := Je.a2.frozen k
     rcases hv with ⟨rfl, c, T, rfl, hS, wi⟩ | ⟨hc, rfl⟩
     ·have J := Lib.hid (BlJ.step (c := c) (T := T) Jd.out hlt hb hS wi)
      clear hS wi Je
      refine readyH 20 fun K hK => ?_
      go_simp
      go_wp2
      refine hK.out _ _ (HeldS.mk' (hT.set nb)) (fun hHeld => ?_)
      clear hK K
      refine runH [0, 21, 1] 0 hHeld ?_
      simp only [runL, runN, runOps_true, runOps_false, runOps_nil]
      repeat go_big_quiet_step (fail)
      refine wpQuiet_nil ?_
      refine doneH ?_
      clear z3 l3 f3 hT hHeld hne
      go_wp2
      go_roundw
      case rel => obtain ⟨q0, q1, c0, S0, c1, S1, h⟩ := J.out; exact ⟨k + 1, by omega, by simp, q0, q1, c0, S0, c1, S1, h⟩
      case measure => simp [intOf]; omega
     ·have d0 : (c != 0) = true := by simpa using hc
      have R := Lib.hid (F.out c (w5.setCell ⟨w.heap.size + 1 + 1, k, none⟩ .nilIface) hc (Je.bl.setCell (p := ⟨w.heap.size + 1 + 1, k, none⟩) (by show w.heap.size ≤ w.heap.size + 1 + 1; omega) _))
      clear Je
      refine readyH 20 fun K hK => ?_
      go_simp
      go_wp2
      refine hK.out _ _ (HeldS.mk' (hT.set nb)) (fun hHeld => ?_)
      clear hK K
      refine runH [0, 21, 1] 0 hHeld ?_
      simp only [runL, runN, runOps_true, runOps_false, runOps_nil]
      repeat go_big_quiet_step (fail)
      refine wpQuiet_nil ?_
      refine doneH ?_
      clear z3 l3 f3 hT hHeld hne
      go_wp2
      go_ret
      exact R.out
  ·obtain rfl : k = 2 := by omega
   have J := J.out.below (Below.refl _ _).drew
   obtain ⟨e0, h0, -⟩ := J.s0 (by omega)
   obtain ⟨e1, h1, -⟩ := J.s1 (by omega)
   subst e0 e1
   have bd : N true ≤ 16000 ∧ N false ≤ 16000 := by have := H.out.2.2.2; have := h0.nn; have := h1.nn; unfold bN at *; omega
   have U : Hid (U64 (N true) ∧ U64 (N false) ∧ U64 y) := by have := H.out.2.2.2; have := h0.nn; have := h1.nn; unfold bN at *; unfold U64; exact ⟨by omega, by omega, by omega⟩
   have TT : Hid (∀ W, Below wr.drew.heap.size wr.drew W → (Calls Tryz.prog (lk s).Z #[.pointer (some ⟨c0, 0, none⟩)] W fun e w' => e = .returned (.int .u64 (N true)) ∧ Below W.heap.size W w') ∧ Calls Tryz.prog (lk s).Z #[.pointer (some ⟨c1, 0, none⟩)] W fun e w' => e = .returned (.int .u64 (N false)) ∧ Below W.heap.size W w') := fun W hb => by
    obtain ⟨k, T, ps, l, _, h, e⟩ := h0.below hb
    obtain ⟨k2, T2, ps2, l2, _, h', e'⟩ := h1.below hb
    rw [e, e']
    exact ⟨ltot_w h (e ▸ bd.1), ltot_w h' (e' ▸ bd.2)⟩
   obtain ⟨m1, m2⟩ := (lk_m s).1
   have hT : AtH _ _ _ wr.drew := J.a2
   replace J := Lib.hid J
   have bx : Hid (Below wr.drew.heap.size wr.drew wr.drew) := Below.refl _ _
   clear h0 h1 bd hlt
   go_upto_region 18 with fail
   refine held_h (by kernel_rfl) (HeldS.mk' hT) (fun hHeld => ?_)
   generalize wr.drew = W4 at *
   have hne := hHeld.ne
   have hf1 := fun x => (hHeld.get x).a.two
   refine runH [2, 1, 2, 1, 1] 9 hHeld ?_
   simp only [runL, runN, runOps_true, runOps_false, runOps_nil]
   repeat go_big_quiet_step (fail)
   refine wpQuiet_nil ?_
   clear hf1
   refine readyH 2 fun K hK => ?_
   go_simp
   refine (TT.out _ (Below.refl _ _)).1.mono ?_
   rintro e w5 ⟨rfl, hb⟩
   refine hK.out _ _ ?_ (fun hHeld => ?_)
   clear hK K
   ·exact HeldS.mk' (hT.a.below hb)
   replace hT : AtH _ _ _ w5 := hT.a.below hb
   replace J := Lib.hid (J.out.below hb)
   refine readyH 5 fun K hK => ?_
   go_simp
   refine (TT.out _ hb).2.mono ?_
   rintro e w6 ⟨rfl, hb2⟩
   refine hK.out _ _ ?_ (fun hHeld => ?_)
   clear hK K
   ·exact HeldS.mk' (hT.a.below hb2)
   replace hT : AtH _ _ _ w6 := hT.a.below hb2
   replace J := Lib.hid (J.out.below hb2)
   clear hb hb2 TT m1 m2 bx
   have ba := bn w6 (.cells #[.int .u64 (N true), .int .u64 (N false), .int .u64 y] 23)
   have PL := Lib.hid (plus3_w (At.new w6 #[.int .u64 (N true), .int .u64 (N false), .int .u64 y] 23) U.out)
   replace hT : AtH _ _ _ (w6.alloc (.cells #[.int .u64 (N true), .int .u64 (N false), .int .u64 y] 23)) := hT.a.below ba
   replace J := Lib.hid (J.out.below ba)
   clear ba
   refine readyH 7 fun K hK => ?_
   go_simp
   refine hK.out _ _ (HeldS.mk' hT) (fun hHeld => ?_)
   clear hK K
   refine readyH 8 fun K hK => ?_
   go_simp
   go_wp2_with (go_at_call 102; refine PL.out.mono ?_; rintro e w5 ⟨⟨pq, ok, rfl⟩, rfl⟩)
   refine hK.out _ _ ?_ (fun hHeld => ?_)
   clear hK K
   ·exact HeldS.mk' hT
   clear PL
   refine runH [0, 9, 5] 0 hHeld ?_
   simp only [runL, runN, runOps_true, runOps_false, runOps_nil]
   repeat go_big_quiet_step (fail)
   refine wpQuiet_nil ?_
   refine doneH ?_
   clear hHeld hne
   generalize w6.alloc _ = W5 at *
   cases ok
   ·have R := Lib.hid (F.out 1 W5 (by decide) J.out.bl)
    clear F
    go_wp2
    go_ret
    exact R.out
   have nb : w.heap.size + 1 + 1 ≠ b := by have := H.out.1.at'.lt; omega
   have J := J.out.below (Below.refl _ _).drew
   have FIN := Lib.hid (H.out.1.load J H.out.2.2.2.1)
   have s8 := (H.out.1.below J.bl).at'
   replace hT : AtH _ _ _ W5.drew := J.a2
   have s9 : AtH _ _ _ _ := At.set_other (p := ⟨b, 3, none⟩) hT.a nb (.iface (lkU s) (.pointer (some ⟨c0, 0, none⟩)))
   have s10 : AtH _ _ _ _ := At.set_other (p := ⟨b, 4, none⟩) s9.a nb (.iface (lkU s) (.pointer (some ⟨c1, 0, none⟩)))
   have s11 : AtH _ _ _ _ := At.set_other (p := ⟨b, 5, none⟩) s10.a nb (.int .u64 y)
   have f8 := s8.c6
   have l8 := s8.lt
   clear J F s8 nb
   go_upto_region 21 with fail
   refine held_h (by kernel_rfl) (HeldS.mk' hT) (fun hHeld => ?_)
   generalize W5.drew = W8 at *
   have hne := hHeld.ne
   have hf1 := fun x => (hHeld.get x).a.two
   refine runH [10] 7 hHeld ?_
   simp only [runL, runN, runOps_true, runOps_false, runOps_nil]
   repeat go_big_quiet_step (fail)
   refine wpQuiet_nil ?_
   clear hf1
   refine readyH 10 fun K hK => ?_
   go_simp
   go_wp2
   refine hK.out _ _ (HeldS.mk' s9) (fun hHeld => ?_)
   clear hK K
   refine runH [0, 11, 2] 4 hHeld ?_
   simp only [runL, runN, runOps_true, runOps_false, runOps_nil]
   repeat go_big_quiet_step (fail)
   refine wpQuiet_nil ?_
   refine readyH 13 fun K hK => ?_
   go_simp
   go_wp2
   refine hK.out _ _ (HeldS.mk' s10) (fun hHeld => ?_)
   clear hK K
   refine runH [0, 14, 2] 1 hHeld ?_
   simp only [runL, runN, runOps_true, runOps_false, runOps_nil]
   repeat go_big_quiet_step (fail)
   refine wpQuiet_nil ?_
   refine readyH 16 fun K hK => ?_
   go_simp
   go_wp2
   refine hK.out _ _ (HeldS.mk' s11) (fun hHeld => ?_)
   clear hK K
   refine doneH ?_
   clear hne hHeld hT s9 s10 s11 f8 l8
   go_wp2
   go_ret
   exact ⟨0, rfl, .inr ⟨rfl, FIN.out⟩⟩
end
end Go.Proofs.YtlbnlmhcpephbaaGreatDoor

namespace Go.Proofs
open Go.Shelf
def Tryz.sort64_ren : Go.Shelf.Ren := ⟨fun | 53 => 276 | 64 => 246 | 63 => 280 | 78 => 255 | 79 => 146 | 70 => 285 | 71 => 286 | 72 => 287 | 73 => 288 | 74 => 289 | 75 => 290 | 59 => 291 | 76 => 292 | 77 => 293 | 88 => 298 | 89 => 257 | 90 => 258 | 91 => 299 | 92 => 300 | 68 => 301 | 96 => 303 | n => n, fun | 22 => 171 | 23 => 2 | 3 => 3 | 51 => 73 | 0 => 0 | 67 => 185 | 69 => 23 | 4 => 4 | 61 => 343 | 60 => 342 | 44 => 254 | 5 => 5 | 9 => 9 | 75 => 349 | 79 => 352 | 83 => 354 | 84 => 355 | n => n, fun | n => n⟩
theorem Tryz.sort64 : Go.Proofs.SlLaysN.n53 Tryz.prog Tryz.sort64_ren := {
 mixed := by kernel_rfl
 f53 := ⟨Tryz.f276.name, by decide, Tryz.func276.trans (congrArg some (by kernel_rfl))⟩
 f59 := ⟨Tryz.f291.name, by decide, Tryz.func291.trans (congrArg some (by kernel_rfl))⟩
 f63 := ⟨Tryz.f280.name, by decide, Tryz.func280.trans (congrArg some (by kernel_rfl))⟩
 f64 := Tryz.func246.trans (congrArg some (by kernel_rfl))
 f68 := ⟨Tryz.f301.name, by decide, Tryz.func301.trans (congrArg some (by kernel_rfl))⟩
 f70 := ⟨Tryz.f285.name, by decide, Tryz.func285.trans (congrArg some (by kernel_rfl))⟩
 f71 := ⟨Tryz.f286.name, by decide, Tryz.func286.trans (congrArg some (by kernel_rfl))⟩
 f72 := ⟨Tryz.f287.name, by decide, Tryz.func287.trans (congrArg some (by kernel_rfl))⟩
 f73 := ⟨Tryz.f288.name, by decide, Tryz.func288.trans (congrArg some (by kernel_rfl))⟩
 f74 := ⟨Tryz.f289.name, by decide, Tryz.func289.trans (congrArg some (by kernel_rfl))⟩
 f75 := ⟨Tryz.f290.name, by decide, Tryz.func290.trans (congrArg some (by kernel_rfl))⟩
 f76 := ⟨Tryz.f292.name, by decide, Tryz.func292.trans (congrArg some (by kernel_rfl))⟩
 f77 := ⟨Tryz.f293.name, by decide, Tryz.func293.trans (congrArg some (by kernel_rfl))⟩
 f78 := Tryz.func255.trans (congrArg some (by kernel_rfl))
 f79 := Tryz.func146.trans (congrArg some (by kernel_rfl))
 f88 := ⟨Tryz.f298.name, by decide, Tryz.func298.trans (congrArg some (by kernel_rfl))⟩
 f89 := Tryz.func257.trans (congrArg some (by kernel_rfl))
 f90 := Tryz.func258.trans (congrArg some (by kernel_rfl))
 f91 := ⟨Tryz.f299.name, by decide, Tryz.func299.trans (congrArg some (by kernel_rfl))⟩
 f92 := ⟨Tryz.f300.name, by decide, Tryz.func300.trans (congrArg some (by kernel_rfl))⟩
 f96 := ⟨Tryz.f303.name, by decide, Tryz.func303.trans (congrArg some (by kernel_rfl))⟩
 t0 := Tryz.underlying0
 a0 := Tryz.isAgg0
 z0 := Tryz.sizeOf0
 v0 := Tryz.zeroValue0
 t3 := Tryz.underlying3
 a3 := Tryz.isAgg3
 z3 := Tryz.sizeOf3
 v3 := Tryz.zeroValue3
 t4 := Tryz.underlying4
 a4 := Tryz.isAgg4
 z4 := Tryz.sizeOf4
 v4 := Tryz.zeroValue4
 t5 := Tryz.underlying5
 a5 := Tryz.isAgg5
 z5 := Tryz.sizeOf5
 v5 := Tryz.zeroValue5
 t9 := Tryz.underlying9
 a9 := Tryz.isAgg9
 z9 := Tryz.sizeOf9
 v9 := Tryz.zeroValue9
 t22 := Tryz.underlying171
 a22 := Tryz.isAgg171
 z22 := Tryz.sizeOf171
 v22 := Tryz.zeroValue171
 t23 := Tryz.underlying2
 a23 := Tryz.isAgg2
 z23 := Tryz.sizeOf2
 v23 := Tryz.zeroValue2
 t44 := Tryz.underlying254
 a44 := Tryz.isAgg254
 z44 := Tryz.sizeOf254
 v44 := Tryz.zeroValue254
 t51 := Tryz.underlying73
 a51 := Tryz.isAgg73
 z51 := Tryz.sizeOf73
 v51 := Tryz.zeroValue73
 t60 := Tryz.underlying342
 a60 := Tryz.isAgg342
 z60 := Tryz.sizeOf342
 v60 := Tryz.zeroValue342
 t61 := Tryz.underlying343
 a61 := Tryz.isAgg343
 z61 := Tryz.sizeOf343
 v61 := Tryz.zeroValue343
 t67 := Tryz.underlying185
 a67 := Tryz.isAgg185
 z67 := Tryz.sizeOf185
 v67 := Tryz.zeroValue185
 t69 := Tryz.underlying23
 a69 := Tryz.isAgg23
 z69 := Tryz.sizeOf23
 v69 := Tryz.zeroValue23
 t75 := Tryz.underlying349
 a75 := Tryz.isAgg349
 z75 := Tryz.sizeOf349
 v75 := Tryz.zeroValue349
 t79 := Tryz.underlying352
 a79 := Tryz.isAgg352
 z79 := Tryz.sizeOf352
 v79 := Tryz.zeroValue352
 t83 := Tryz.underlying354
 a83 := Tryz.isAgg354
 z83 := Tryz.sizeOf354
 v83 := Tryz.zeroValue354
 t84 := Tryz.underlying355
 a84 := Tryz.isAgg355
 z84 := Tryz.sizeOf355
 v84 := Tryz.zeroValue355 }
end Go.Proofs

namespace Go.Proofs.YtlbnlmhcpephbaaGreatDoor
open Go.RowKit
def OwnW (base : Nat) (w : World) (A : Option Addr) (cap : Nat) (xs : List Int) : Prop := w.ownsRow base 2 1 (.slice A xs.length cap) xs.length (xs.map (Value.int .i64))
def RdW (w : World) (A : Option Addr) (xs : List Int) : Prop := Rd w A (xs.map (Value.int .i64))
def tyW : Ty := ⟨171, 2, 1, 8, .int .i64 0⟩
theorem tyW_ok : tyW.Ok := ⟨by kernel_rfl, by kernel_rfl, rfl, rfl, by decide, by decide⟩
theorem Tryz.underlyingW : Tryz.prog.underlying 171 = some (.slice 2) := tyW_ok.u
theorem Tryz.infoWs : ∃ i, Tryz.prog.info? 2 = some i ∧ i.zero = some (.int .i64 0) ∧ i.size = 1 ∧ i.bytes = 8 := tyW_ok.get
section
variable {w w' W : World} {A : Option Addr} {xs ps : List Int} {base cap c k : Nat} {x : Int} {S : List Nat}
theorem RdW.below (h : RdW w A xs) (hb : Below w.heap.size w w') : RdW w' A xs := Rd.below h hb
theorem RdW.at (h : RdW w A xs) (j : Nat) (hj : j < xs.length) : ∃ g o, A = some ⟨g, o, none⟩ ∧ g < w.heap.size ∧ w.cell? ⟨g, o + j, none⟩ = some (.int .i64 (xs[j]'hj)) := h j _ (by rw [List.getElem?_map, List.getElem?_eq_getElem hj]; rfl)
theorem OwnW.nil (base : Nat) (w : World) : OwnW base w none 0 [] := World.ownsRow_nil w base _ 1
theorem OwnW.frame (h : OwnW base w A cap xs) (hf : Frame S w w') (hn : ∀ k ∈ blk A, k ∉ S) : OwnW base w' A cap xs := own_frame h hf hn
theorem OwnW.below (h : OwnW base w A cap xs) (hb : Below w.heap.size w w') : OwnW base w' A cap xs := h.frame (S := []) (Frame.of_below hb) fun _ _ => by simp
theorem OwnW.rd (h : OwnW base w A cap xs) : RdW w A xs := own_rd h
theorem OwnW.base_le (h : OwnW base w A cap xs) : ∀ g, A = some g → base ≤ g.block ∧ g.block < w.heap.size := fun g e => own_blk h g.block (by rw [e]; simp [blk])
theorem one_w : ∀ u ∈ xs.map (Value.int .i64), u.oneCell' = true := by intro u hu; obtain ⟨x, _, rfl⟩ := List.mem_map.1 hu; rfl
theorem run_appW (base : Nat) (A : Option Addr) (cap : Nat) (ps qs : List Int) (w : World) (hown : OwnW base w A cap ps) (ad : Addr) (c : Nat) (hR : RdW w (some ad) qs)
  (hlen : ps.length + qs.length ≤ 1099511627776) (hb : base ≤ w.heap.size) :
  ∃ A' cap' w', (Builtin.append_ #[171, 171] 171 #[.slice A ps.length cap, .slice (some ad) qs.length c]).run Tryz.prog w = .ok (.slice A' (ps.length + qs.length) cap') w' ∧
   OwnW base w' A' cap' (ps ++ qs) ∧ Frame (blk A) w w' ∧ ∀ k ∈ blk A', k ∈ blk A ∨ w.heap.size ≤ k := by
 obtain ⟨A', c', w', hr, ho, hf, hk⟩ := run_app_g (cy := c) (m := qs.length) tyW_ok hown (by simp [tyW]) hR (by simp) one_w hlen hb
 rw [← List.map_append] at ho
 exact ⟨A', c', w', hr, by unfold OwnW; rw [List.length_append]; exact ho, hf, hk⟩
theorem app_w (h : OwnW base w A c xs) (hl : xs.length ≤ 1048576) (hz : base ≤ w.heap.size) (h' : Below w.heap.size w W) :
  ∃ A' c' w', (Builtin.append_ #[171, 171] 171 #[.slice A xs.length c, .slice (some ⟨W.heap.size, 0, none⟩) 1 1]).run Tryz.prog (W.alloc (.cells #[.int .i64 x] 2)) = .ok (.slice A' (xs.length + 1) c') w' ∧ OwnW base w' A' c' (xs ++ [x]) ∧ Frame (blk A) W w' ∧ ∀ k ∈ blk A', k ∈ blk A ∨ w.heap.size ≤ k := by
 have hb2 := keep1 h' (bn W (.cells #[.int .i64 x] 2))
 have aN := At.new W #[.int .i64 x] 2
 obtain ⟨A', c', w', hr, ho, hf, hk⟩ := run_appW base A c xs [x] _ (h.below hb2) ⟨W.heap.size, 0, none⟩ 1 (fun j u hu => ⟨_, 0, rfl, aN.lt, by rw [Nat.zero_add]; exact aN.cell (by simpa using hu)⟩) (by simp; omega) (Nat.le_trans hz hb2.size)
 exact ⟨A', c', w', hr, ho, (Frame.of_below (bn _ _)).trans hf, fun k hk' => (hk k hk').imp id (Nat.le_trans hb2.size)⟩
set_option maxRecDepth 100000 in
set_option maxHeartbeats 2000000 in
theorem cloneR_any (A : Option Addr) (c n : Nat) (ps : List Int) (w : World) (hR : RdW w A ps) (hn : ps.length = n) (hz : A = none → n = 0) (hlen : n ≤ 1048576) :
    Calls Tryz.prog 117 #[.slice A n c] w fun e w' => ∃ A' c', e = .returned (.slice A' n c') ∧ OwnW w.heap.size w' A' c' ps ∧ Below w.heap.size w w' := by
  have q : ∀ (w : World) (a : Option Addr) (n c n' c' : Nat), (binOp .eql 171 (.slice a n c) (.slice none n' c')).run Tryz.prog w = .ok (.bool a.isNone) w := fun w a n c n' c' => Lib.run_eql_slice_nil w _ _ a n c n' c' Tryz.underlyingW
  cases A with
  | none =>
    obtain rfl := hz rfl
    obtain rfl := List.eq_nil_of_length_eq_zero hn
    go_enter Tryz.func117, Tryz.ntmps117
    go_wp2
    go_ret
    exact ⟨none, 0, rfl, OwnW.nil _ _, Below.refl _ _⟩
  | some a =>
    subst hn
    obtain ⟨A', c', w', hr, ho, hf, hk⟩ := run_appW w.heap.size (some ⟨w.heap.size, 0, none⟩) 0 [] ps (w.alloc (.cells #[] 2)) (World.ownsRow_made w #[] 0 (Nat.le_refl _) (Nat.zero_le _) rfl) a c (hR.below (bn _ _)) (by simp; omega) (by simp)
    simp only [List.length_nil, Nat.zero_add] at hr
    have R : Hid (∃ A'' c'', Ending.returned (.slice A' ps.length c') = .returned (.slice A'' ps.length c'') ∧ OwnW w.heap.size w' A'' c'' ps ∧ Below w.heap.size w w') := ⟨A', c', rfl, ho, hf.below (bn _ _) (by simp) fun k hk => by simp [blk] at hk; omega⟩
    replace hr := Lib.hid hr
    clear ho hf hk hR hz
    generalize ps.length = n at *
    go_enter Tryz.func117, Tryz.ntmps117
    go_wp2_with (at_builtin; refine Lib.wpList_append_run _ rfl _ _ _ _ rfl _ _ rfl rfl _ _ hr.out ?_)
    go_ret
    exact R.out
end
end Go.Proofs.YtlbnlmhcpephbaaGreatDoor

namespace Go.Proofs.YtlbnlmhcpephbaaGreatDoor
open Go.RowKit
theorem sortW_any (base : Nat) (A : Option Addr) (c : Nat) (xs : List Int) (w : World) (hown : OwnW base w A c xs) (hlen : xs.length ≤ 1048576) :
  Calls Tryz.prog 276 #[.slice A xs.length c] w fun e w' => e = .returned (.tuple #[]) ∧ OwnW base w' A c (xs.mergeSort fun x y => decide (x ≤ y)) ∧ Frame (blk A) w w' := by
 have hl : (xs.mergeSort fun x y => decide (x ≤ y)).length = xs.length := List.length_mergeSort _
 rcases hown.2 with ⟨e, hn⟩ | ⟨g, cp, cur, e, hg, hc, h1, h2, h3, h4⟩
 ·simp only [Value.slice.injEq] at e
  obtain ⟨rfl, _, rfl⟩ := e
  obtain rfl : xs = [] := List.eq_nil_of_length_eq_zero hn
  refine (AnyG.slices_Sort_int_none Tryz.sort64 none 0 w).mono ?_
  rintro e w' ⟨rfl, rfl⟩
  exact ⟨rfl, by rw [List.mergeSort_nil]; exact OwnW.nil _ _, Frame.refl _ _⟩
 ·simp only [Value.slice.injEq] at e
  obtain ⟨rfl, _, rfl⟩ := e
  refine (AnyG.slices_Sort_int Tryz.sort64 g 0 c xs w (holds_of_blockI hc (by simpa using h4)) (Array.getElem?_eq_some_iff.1 hc).1 (by omega)).mono ?_
  rintro e w' ⟨rfl, n, os, rfl⟩
  have ho := ownsRow_sortedI (w := w) (n := n) (os := os) hl hg hc h1 h2 h3
  refine ⟨rfl, ?_, frame_grown (A := some ⟨g, 0, none⟩) (n := xs.length) (c := c) (grownBy_sortedI _)⟩
  unfold OwnW
  rw [hl]
  exact ho
end Go.Proofs.YtlbnlmhcpephbaaGreatDoor

namespace Go.Proofs.YtlbnlmhcpephbaaGreatDoor
open Go.RowKit
theorem At.c5 {w : World} {b : Nat} {T : TypeId} {v0 v1 v2 v3 v4 : Value} (h : At w b #[v0, v1, v2, v3, v4] T) : w.cell? ⟨b, 0, none⟩ = some v0 ∧ w.cell? ⟨b, 1, none⟩ = some v1 ∧ w.cell? ⟨b, 2, none⟩ = some v2 ∧ w.cell? ⟨b, 3, none⟩ = some v3 ∧ w.cell? ⟨b, 4, none⟩ = some v4 ∧ ∀ i, w.frozen? ⟨b, i, none⟩ = false := ⟨h.cell rfl, h.cell rfl, h.cell rfl, h.cell rfl, h.cell rfl, h.frozen⟩
structure GrB (w : World) (b : Nat) (u v T : Int) (R W : Option Addr) (rc wc : Nat) (ts : List Tu) (ws : List Int) : Prop where
 box : At w b #[.int .u64 u, .int .u64 v, .slice R ts.length rc, .slice W ws.length wc, .int .u64 T] 173
 own : OwT 0 w R rc ts
 wai : OwnW 0 w W wc ws
 nb : b ∉ blk R ∧ b ∉ blk W ∧ ∀ k ∈ blk R, k ∉ blk W
def GkW (b : Nat) (cs : Array Value) (W : World) : Prop := At W b cs 173
theorem GkW.a {b : Nat} {cs : Array Value} {W : World} (h : GkW b cs W) : At W b cs 173 := h
def GrI (ts : List Tu) (ws : List Int) (T lo hi : Int) : Prop := TuS ts (T - ws.length) ∧ EnV (vT ts ++ ws) lo hi ∧ ∀ x ∈ ws, I64 x
section
variable {w w' W1 : World} {b k rc wc rc' wc' : Nat} {u v T lo hi x : Int} {ts us : List Tu} {ws xs : List Int} {R R' W W' : Option Addr} {S : List Nat}
theorem GrI.len (h : GrI ts ws T lo hi) : (ts.length : Int) + ws.length ≤ T := by have := h.1.len; omega
theorem GrB.lt (h : GrB w b u v T R W rc wc ts ws) : ∀ k ∈ b :: (blk R ++ blk W), k < w.heap.size := by
 intro k hk
 simp only [List.mem_cons, List.mem_append] at hk
 rcases hk with rfl | hk | hk
 ·exact h.box.lt
 ·exact (own_blk h.own k hk).2
 ·exact (own_blk h.wai k hk).2
theorem GrB.frame (h : GrB w b u v T R W rc wc ts ws) (hF : Frame S w w') (hn : Apart (b :: (blk R ++ blk W)) S) : GrB w' b u v T R W rc wc ts ws :=
 ⟨hF.at h.box (hn b (by simp)), own_frame h.own hF fun k hk => hn k (by simp [hk]), h.wai.frame hF fun k hk => hn k (by simp [hk]), h.nb⟩
theorem GrB.below (h : GrB w b u v T R W rc wc ts ws) (hb : Below w.heap.size w w') : GrB w' b u v T R W rc wc ts ws := h.frame (S := []) (Frame.of_below hb) fun _ _ => by simp
theorem GrB.put (h : GrB w b u v T R W rc wc ts ws) (hF : Frame (blk R) w w') (ho : OwT 0 w' R' rc' us) (hm : ∀ j ∈ blk R', j ∈ blk R ∨ w.heap.size ≤ j) :
  GrB (w'.setCell ⟨b, 2, none⟩ (.slice R' us.length rc')) b u v T R' W rc' wc us ws ∧ Mv (b :: (blk R ++ blk W)) (b :: (blk R' ++ blk W)) w (w'.setCell ⟨b, 2, none⟩ (.slice R' us.length rc')) := by
 have l := h.lt
 have n1 : b ∉ blk R' := fun hb => (hm b hb).elim h.nb.1 fun e => by have := l b (by simp); omega
 have f := Frame.set [b] w' b 2 (.slice R' us.length rc') (by simp)
 refine ⟨⟨(hF.at h.box h.nb.1).set_any 2 _ rfl, own_frame ho f fun k hk e => ?_, (h.wai.frame hF fun k hk hk' => h.nb.2.2 k hk' hk).frame f fun k hk e => ?_, n1, h.nb.2.1, fun k hk hk' => ?_⟩, fun k hk => ?_, (hF.mono fun k hk => by simp [hk]).setc (.inl (by simp)) _ _⟩
 ·simp at e; exact n1 (e ▸ hk)
 ·simp at e; exact h.nb.2.1 (e ▸ hk)
 ·exact (hm k hk).elim (fun e => h.nb.2.2 k e hk') fun e => by have := l k (by simp [hk']); omega
 ·simp only [List.mem_cons, List.mem_append] at hk ⊢
  rcases hk with e | hk | hk
  ·exact .inl (.inl e)
  ·exact (hm k hk).imp (fun e => .inr (.inl e)) id
  ·exact .inl (.inr (.inr hk))
theorem GrB.wait (h : GrB w b u v T R W rc wc ts ws) (hF : Frame (blk W) w w') (ho : OwnW 0 w' W' wc' xs) (hm : ∀ j ∈ blk W', j ∈ blk W ∨ w.heap.size ≤ j) :
  GrB (w'.setCell ⟨b, 3, none⟩ (.slice W' xs.length wc')) b u v T R W' rc wc' ts xs ∧ Mv (b :: (blk R ++ blk W)) (b :: (blk R ++ blk W')) w (w'.setCell ⟨b, 3, none⟩ (.slice W' xs.length wc')) := by
 have l := h.lt
 have n1 : b ∉ blk W' := fun hb => (hm b hb).elim h.nb.2.1 fun e => by have := l b (by simp); omega
 have f := Frame.set [b] w' b 3 (.slice W' xs.length wc') (by simp)
 refine ⟨⟨(hF.at h.box h.nb.2.1).set_any 3 _ rfl, own_frame (own_frame h.own hF fun k hk => h.nb.2.2 k hk) f fun k hk e => ?_, ho.frame f fun k hk e => ?_, h.nb.1, n1, fun k hk hk' => ?_⟩, fun k hk => ?_, (hF.mono fun k hk => by simp [hk]).setc (.inl (by simp)) _ _⟩
 ·simp at e; exact h.nb.1 (e ▸ hk)
 ·simp at e; exact n1 (e ▸ hk)
 ·exact (hm k hk').elim (h.nb.2.2 k hk) fun e => by have := l k (by simp [hk]); omega
 ·simp only [List.mem_cons, List.mem_append] at hk ⊢
  rcases hk with e | hk | hk
  ·exact .inl (.inl e)
  ·exact .inl (.inr (.inl hk))
  ·exact (hm k hk).imp (fun e => .inr (.inr e)) id
theorem gtotal_any {A B : Value} (h : At w b #[.int .u64 u, .int .u64 v, A, B, .int .u64 T] 173) : Calls Tryz.prog 273 #[.pointer (some ⟨b, 0, none⟩)] w fun e w' => e = .returned (.int .u64 T) ∧ w = w' := by
 have f1 := h.c5
 go_enter Tryz.func273, Tryz.ntmps273
 go_wp2
 go_ret
 exact ⟨rfl, rfl⟩
def FlJ (b : Nat) (u v T : Int) (S : List Nat) (W : Option Addr) (wc : Nat) (ts : List Tu) (ws : List Int) (w : World) (k : Nat) (wr : World) : Prop :=
 ∃ t1 R1 rc1, GrB wr b u v T R1 W rc1 wc t1 ws ∧ TuS t1 (T - ws.length + k) ∧ (∀ y, y ∈ vT t1 ∨ y ∈ ws.drop k ↔ y ∈ vT ts ∨ y ∈ ws) ∧ Mv S (b :: (blk R1 ++ blk W)) w wr
def FluR (b : Nat) (u v T lo hi : Int) (S : List Nat) (w : World) (e : Ending) (w' : World) : Prop :=
 e = .returned (.tuple #[]) ∧ ∃ t1 R1 W1 rc1 wc1, GrB w' b u v T R1 W1 rc1 wc1 t1 [] ∧ GrI t1 [] T lo hi ∧ Mv S (b :: (blk R1 ++ blk W1)) w w'
theorem aft_pos {n : Nat} (h : Pos (aftS x ts) n k) : Pos (fun i => if x < (ts.getD i (0, 0, 0)).1 then 1 else -1) n k := by
 unfold aftS asg at h
 simpa using h
theorem FlJ.step {t1 : List Tu} {R1 : Option Addr} {rc1 : Nat} (hk : k < ws.length) (h1 : GrB W1 b u v T R1 W rc1 wc t1 ws) (h2 : TuS t1 (T - ws.length + k)) (h3 : ∀ y, y ∈ vT t1 ∨ y ∈ ws.drop k ↔ y ∈ vT ts ∨ y ∈ ws) (h4 : Mv S (b :: (blk R1 ++ blk W)) w W1) (hx : I64 ws[k]) {e : Ending} (r : TinR 0 R1 t1 ws[k] W1 e w') :
  ∃ A' c', e = .returned (.slice A' (t1.length + 1) c') ∧ Frame (blk R1) W1 w' ∧ FlJ b u v T S W wc ts ws w (k + 1) (w'.setCell ⟨b, 2, none⟩ (.slice A' (t1.length + 1) c')) := by
 obtain ⟨p, d, A', c', rfl, hp, hd, ho, hF, hm⟩ := r
 obtain ⟨i1, i2⟩ := h2.ins (aft_pos hp) hx hd
 have a := h1.put hF ho hm
 rw [show (t1.take p ++ (ws[k], 1, d) :: t1.drop p).length = t1.length + 1 by have := hp.le; simp; omega] at a
 refine ⟨A', c', rfl, hF, _, A', c', a.1, by rw [show T - ws.length + ((k + 1 : Nat) : Int) = T - ws.length + k + 1 by omega]; exact i1, fun y => ?_, h4.trans a.2⟩
 rw [i2, ← h3, List.drop_eq_getElem_cons hk, List.mem_cons]
 grind
set_option maxRecDepth 100000 in
set_option maxHeartbeats 1000000 in
theorem gflush_any (h : GrB w b u v T R W rc wc ts ws) (g : GrI ts ws T lo hi) (hT : T ≤ 8000) (hv : U64 v) : Calls Tryz.prog 270 #[.pointer (some ⟨b, 0, none⟩)] w (FluR b u v T lo hi (b :: (blk R ++ blk W)) w) := by
 by_cases hn : ws = []
 ·subst hn
  have HF : Hid (FluR b u v T lo hi (b :: (blk R ++ blk W)) w (.returned (.tuple #[])) w) := ⟨rfl, ts, R, W, rc, wc, h, g, Mv.of _ (Below.refl _ _)⟩
  have f1 := h.box.c5
  have l1 := h.box.lt
  rw [List.length_nil] at f1
  clear h g hT hv
  go_enter Tryz.func270, Tryz.ntmps270
  go_wp2
  exact bodyPost_ret (results_none rfl _ _ _) rfl HF.out
 obtain ⟨xs, hxs⟩ : ∃ xs, (ws.mergeSort fun x y => decide (x ≤ y)) = xs := ⟨_, rfl⟩
 have hp : xs.Perm ws := hxs ▸ List.mergeSort_perm _ _
 have hl := hp.length_eq
 have gl := g.len
 have n0 : 0 < ws.length := List.length_pos_iff.2 hn
 have SO := Lib.hid (sortW_any 0 W wc ws w h.wai (by omega))
 rw [hxs] at SO
 have J0 : Hid (∀ w1, OwnW 0 w1 W wc xs → Frame (blk W) w w1 → FlJ b u v T (b :: (blk R ++ blk W)) W wc ts xs w 0 w1) := fun w1 ho hF =>
  ⟨ts, R, rc, ⟨by rw [hl]; exact hF.at h.box h.nb.2.1, own_frame h.own hF h.nb.2.2, ho, h.nb⟩, by rw [hl]; simpa using g.1, by simp, GrownS.refl _ _, hF.mono fun k hk => by simp [hk]⟩
 have FIN : Hid (∀ t1, (∀ y, y ∈ vT t1 ↔ y ∈ vT ts ∨ y ∈ xs) → EnV (vT t1) lo hi) := fun t1 hm => g.2.1.congr fun y => by rw [hm, List.mem_append, hp.mem_iff]
 have IX : Hid (∀ x ∈ xs, I64 x) := fun x hx => g.2.2 x (hp.mem_iff.1 hx)
 obtain ⟨n, hnn⟩ : ∃ n, ws.length = n := ⟨_, rfl⟩
 have B : Hid (xs.length = n ∧ 0 < n ∧ (n : Int) ≤ T ∧ T ≤ 8000 ∧ U64 v) := ⟨by omega, by omega, by omega, hT, hv⟩
 have f1 := h.box.c5
 have l1 := h.box.lt
 have n8 : n ≤ 8000 := by have := B.out; omega
 have n1 : (n == 0) = false := beq_eq_false_iff_ne.2 (by omega)
 have n2 : ((n : Int) == 0) = false := beq_eq_false_iff_ne.2 (by omega)
 rw [hnn] at f1 SO
 clear h g hT hv hxs hp hl gl n0 hnn hn
 go_enter Tryz.func270, Tryz.ntmps270
 go_wp2_with fail
 refine SO.out.mono ?_
 rintro e w1 ⟨rfl, hO, hF⟩
 have J0 := Lib.hid (J0.out w1 hO hF)
 obtain ⟨t1, R1, rc1, h1, _⟩ := J0.out
 have f2 := h1.box.c5
 have l2 := h1.box.lt
 rw [B.out.1] at f2
 clear hO hF f1 l1 SO h1
 go_wp2
 clear f2 l2
 go_loopw [3, 24] (fun _ i wr => ∃ k : Nat, k ≤ n ∧ i = .int .i64 k ∧ Hid (FlJ b u v T (b :: (blk R ++ blk W)) W wc ts xs w k wr)) (fun _ i _ => n - (intOf i).toNat)
 case atStart => exact ⟨0, by omega, rfl, J0⟩
 case round =>
  clear J0
  obtain ⟨k, hk, rfl, J⟩ := hrel
  obtain ⟨t1, R1, rc1, h1, h2, h3, h4⟩ := J.out
  by_cases hlt : k < n
  ·have hkl : k < xs.length := by have := B.out.1; omega
   obtain ⟨g, o, e, hg, hc⟩ := h1.wai.rd.at k hkl
   have len := h2.len
   rw [B.out.1] at len
   have t8 : t1.length ≤ 8000 := by have := B.out; omega
   have TI := Lib.hid (tin_any (x := xs[k]) h1.own h2.srt t8 (Nat.zero_le _))
   have ST := Lib.hid fun e w' r => FlJ.step (e := e) (w' := w') hkl h1 h2 h3 h4 (IX.out _ (List.getElem_mem hkl)) r
   have f2 := h1.box.c5
   have l2 := h1.box.lt
   have AT := Lib.hid (And.intro h1.box h1.nb.1)
   rw [B.out.1] at f2 AT
   generalize xs[k] = x at *
   generalize t1.length = m at *
   subst e
   clear J h1 h2 h3 h4 len hkl
   go_wp2_with fail
   refine TI.out.mono ?_
   rintro e w3 r
   obtain ⟨A', c', rfl, hF, J⟩ := ST.out e w3 r
   have J := Lib.hid J
   have s3 := hF.at AT.out.1 AT.out.2
   have f3 := s3.c5
   have l3 := s3.lt
   clear hF ST TI r AT f2 l2 s3 hc
   go_wp2
   go_roundw
   case rel => exact ⟨k + 1, by omega, by simp, J⟩
   case measure => simp [intOf]; omega
  ·obtain rfl : k = n := by omega
   have e0 : xs.drop k = [] := List.drop_of_length_le (by have := B.out; omega)
   rw [B.out.1, show T - (k : Int) + k = T by omega] at h2
   rw [e0] at h3
   have EN := Lib.hid (FIN.out t1 fun y => by rw [← h3 y]; simp)
   obtain ⟨h5, m5⟩ := h1.wait (Frame.refl _ _) (OwnW.nil 0 wr) (by simp [blk])
   have f2 := h1.box.c5
   have l2 := h1.box.lt
   have t8 := h2.len
   rw [B.out.1] at f2
   have Z := Lib.hid (And.intro h2 (h4.trans m5))
   clear J h1 h2 h3 h4 m5 e0 hlt FIN IX
   go_wp2
   change GrB (wr.setCell ⟨b, 3, none⟩ (.slice none 0 0)) b u v T R1 none rc1 0 t1 [] at h5
   generalize wr.setCell _ _ = W3 at *
   have SQ := Lib.hid fun L W (hb : Below W3.heap.size W3 W) => tsq_any (L := L) (h5.below hb).own Z.out.1 EN.out B.out.2.2.2.1
   have AT := Lib.hid (And.intro h5.box h5.nb.1)
   have H5 := Lib.hid h5
   have L8 : Hid (t1.length ≤ 8000) := by have := B.out; show _ ≤ _; omega
   obtain ⟨y, hy⟩ := limit_any (u := u) (v := v) (N := T) B.out.2.2.2.2 (by unfold U64; have := B.out; omega)
   have LM := Lib.hid hy
   clear f2 l2 h5 hy t8
   have bx : Below W3.heap.size W3 W3.drew := (Below.refl _ _).drew
   have hT : GkW b _ W3.drew := AT.out.1.drew
   generalize t1.length = m at *
   refine until_h 17 (by kernel_rfl) (HeldS.mk' hT) (fun hHeld => ?_)
   generalize W3.drew = W4 at *
   have hne := hHeld.ne
   have hneF := heldT W4
   have hf1 := fun x => (hHeld.get x).a.c5
   refine runV [4, 1, 3, 1, 3] 8 hHeld ?_
   simp only [runL, runN, runOps_true, runOps_false, runOps_nil]
   repeat go_big_quiet_step (fail)
   refine wpQuiet_nil ?_
   refine runW [0, 4, 1, 3, 1, 3, 1] 5 hHeld ?_
   simp only [runL, runN, runOps_true, runOps_false, runOps_nil]
   repeat go_big_quiet_step (fail)
   refine wpQuiet_nil ?_
   clear hf1 hne
   refine readyU 13 fun K hK => ?_
   go_simp
   go_wp2_with (go_at_call 115; refine (LM.out _).mono ?_; rintro e w5 ⟨rfl, hb⟩)
   replace hT : GkW b _ w5 := hT.a.below hb
   replace bx := keep1 bx hb
   have SQ := Lib.hid (SQ.out y w5 bx)
   refine hK.out _ _ (fun _ => HeldS.mk' hT) ?_
   clear hK K hb
   refine readyU 14 fun K hK => ?_
   go_simp
   go_wp2_with (go_at_call 278; refine SQ.out.mono ?_; rintro e w6 ⟨qs, rfl, o6, s6, e6, F6⟩)
   replace hT : GkW b _ w6 := F6.at hT.a AT.out.2
   have h7 := (H5.out.below bx).put F6 o6 fun j hj => .inl hj
   have R : Hid (FluR b u v T lo hi (b :: (blk R ++ blk W)) w (.returned (.tuple #[])) (w6.setCell ⟨b, 2, none⟩ (.slice R1 qs.length rc1))) := ⟨rfl, qs, R1, none, rc1, 0, h7.1, ⟨by simpa using s6, by simpa using e6, by simp⟩, Z.out.2.trans ((Mv.of _ bx).trans h7.2)⟩
   refine hK.out _ _ (fun _ => HeldS.mk' hT) ?_
   clear hK K o6 s6 e6 F6 SQ h7 Z
   have hHeld := HeldS.mk' hT
   have f6 := hT.a.c5
   have l6 := hT.a.lt
   refine runV [0, 15, 2] 1 hHeld ?_
   simp only [runL, runN, runOps_true, runOps_false, runOps_nil]
   repeat go_big_quiet_step (fail)
   refine wpQuiet_nil ?_
   refine readyU 17 fun K hK => ?_
   go_simp
   go_wp2
   refine hK.out _ _ (fun h => late_no h (by kernel_rfl)) ?_
   clear hK K
   refine doneU ?_
   go_wp2
   exact bodyPost_end (results_none rfl _ _ _) rfl R.out
end
end Go.Proofs.YtlbnlmhcpephbaaGreatDoor

namespace Go.Proofs.YtlbnlmhcpephbaaGreatDoor
open Go.RowKit
def Gk (w : World) (b : Nat) (S : List Nat) (u v n lo hi : Int) : Prop := ∃ R W rc wc ts ws, S = b :: (blk R ++ blk W) ∧ GrB w b u v n R W rc wc ts ws ∧ GrI ts ws n lo hi ∧ ws.length ≤ 15 ∧ U64 v
section
variable {w w' W1 : World} {b k rc wc rc' wc' : Nat} {u v T N n lo hi x : Int} {ts us : List Tu} {ws xs : List Int} {R R' W W' : Option Addr} {S S2 : List Nat}
theorem Gk.frame (h : Gk w b S u v n lo hi) (hF : Frame S2 w w') (hn : Apart S S2) : Gk w' b S u v n lo hi := by
 obtain ⟨R, W, rc, wc, ts, ws, rfl, h, r⟩ := h
 exact ⟨R, W, rc, wc, ts, ws, rfl, h.frame hF hn, r⟩
theorem Gk.below (h : Gk w b S u v n lo hi) (hb : Below w.heap.size w w') : Gk w' b S u v n lo hi := h.frame (S2 := []) (Frame.of_below hb) fun _ _ => by simp
theorem Gk.lt (h : Gk w b S u v n lo hi) : (∀ k ∈ S, k < w.heap.size) ∧ b ∈ S := by
 obtain ⟨R, W, rc, wc, ts, ws, rfl, h, _⟩ := h
 exact ⟨h.lt, by simp⟩
theorem GrI.zero (h : GrI ts ws T lo hi) : T = 0 ↔ vT ts ++ ws = [] := by
 have := h.len
 refine ⟨fun e => ?_, fun e => ?_⟩
 ·rw [List.eq_nil_of_length_eq_zero (l := ws) (by omega), List.eq_nil_of_length_eq_zero (l := ts) (by omega)]; rfl
 ·obtain ⟨e, rfl⟩ := List.append_eq_nil_iff.1 e
  have s := h.1.sum
  rw [show ts = [] by simpa [vT] using e] at s
  simp [sumT] at s
  omega
theorem Gk.n0 (h : Gk w b S u v n lo hi) : 0 ≤ n := by
 obtain ⟨R, W, rc, wc, ts, ws, rfl, _, h, _⟩ := h
 have := h.len
 omega
theorem GrI.wait (h : GrI ts ws T lo hi) (hx : I64 x) : GrI ts (ws ++ [x]) (T + 1) (lowE T lo x) (highE T hi x) :=
 ⟨by rw [List.length_append, List.length_singleton, show T + 1 - ((ws.length + 1 : Nat) : Int) = T - ws.length by omega]; exact h.1, h.2.1.lay (fun u => by simp; grind) h.zero, fun y hy => (List.mem_append.1 hy).elim (h.2.2 y) fun e => by simp at e; exact e ▸ hx⟩
theorem GrB.tot (h : GrB w b u v T R W rc wc ts ws) : GrB (w.setCell ⟨b, 4, none⟩ (.int .u64 N)) b u v N R W rc wc ts ws ∧ Mv (b :: (blk R ++ blk W)) (b :: (blk R ++ blk W)) w (w.setCell ⟨b, 4, none⟩ (.int .u64 N)) := by
 have f := Frame.set [b] w b 4 (.int .u64 N) (by simp)
 exact ⟨⟨h.box.set_any 4 _ rfl, own_frame h.own f fun k hk e => by simp at e; exact h.nb.1 (e ▸ hk), h.wai.frame f fun k hk e => by simp at e; exact h.nb.2.1 (e ▸ hk), h.nb⟩, GrownS.refl _ _, f.mono (by simp)⟩
def loA (k : Nat) (N lo x : Int) : Int := if k = 0 then lo else lowE N lo x
def hiA (k : Nat) (N hi x : Int) : Int := if k = 0 then hi else highE N hi x
theorem loA_s (lo x : Int) (h : 0 ≤ N) : lowE (N + k) (loA k N lo x) x = loA (k + 1) N lo x := by
 unfold loA lowE
 rw [if_neg (show ¬ k + 1 = 0 by omega)]
 rcases Nat.eq_zero_or_pos k with rfl | h
 ·simp
 ·rw [if_neg (show ¬ N + (k : Int) = 0 by omega), if_neg (show ¬ k = 0 by omega)]
  split <;> omega
theorem hiA_s (hi x : Int) (h : 0 ≤ N) : highE (N + k) (hiA k N hi x) x = hiA (k + 1) N hi x := by
 unfold hiA highE
 rw [if_neg (show ¬ k + 1 = 0 by omega)]
 rcases Nat.eq_zero_or_pos k with rfl | h
 ·simp
 ·rw [if_neg (show ¬ N + (k : Int) = 0 by omega), if_neg (show ¬ k = 0 by omega)]
  split <;> omega
def PutJ (b : Nat) (S : List Nat) (u v N lo hi x : Int) (w : World) (k : Nat) (W : World) : Prop := ∃ S', Mv S S' w W ∧ Gk W b S' u v (N + k) (loA k N lo x) (hiA k N hi x)
def GpR (b : Nat) (S : List Nat) (u v N lo hi x n : Int) (w : World) (e : Ending) (w' : World) : Prop :=
 ∃ c : Int, e = .returned (.int .i64 c) ∧ (c ≠ 0 ∧ Below w.heap.size w w' ∨ c = 0 ∧ 0 < n ∧ ∃ S', Mv S S' w w' ∧ Gk w' b S' u v (N + n) (lowE N lo x) (highE N hi x))
theorem PutJ.step {w5 : World} (h : GrB w' b u v (N + k) R W rc wc ts ws) (g : GrI ts ws (N + k) (loA k N lo x) (hiA k N hi x)) (hx : I64 x) (hN : 0 ≤ N) (hv : U64 v) (h8 : N + k + 1 ≤ 8000) (m : Mv S (b :: (blk R ++ blk W)) w w') (hF : Frame (blk W) w' w5) (ho : OwnW 0 w5 W' wc' (ws ++ [x])) (hm : ∀ j ∈ blk W', j ∈ blk W ∨ w'.heap.size ≤ j) :
  let V := (w5.setCell ⟨b, 3, none⟩ (.slice W' (ws.length + 1) wc')).setCell ⟨b, 4, none⟩ (.int .u64 (N + k + 1))
  At V b #[.int .u64 u, .int .u64 v, .slice R ts.length rc, .slice W' (ws.length + 1) wc', .int .u64 (N + k + 1)] 173 ∧ (ws.length + 1 ≤ 15 → PutJ b S u v N lo hi x w (k + 1) V) ∧
   Calls Tryz.prog 270 #[.pointer (some ⟨b, 0, none⟩)] V fun e w6 => e = .returned (.tuple #[]) ∧ PutJ b S u v N lo hi x w (k + 1) w6 := by
 obtain ⟨h1, m1⟩ := h.wait hF ho hm
 rw [List.length_append, List.length_singleton] at h1 m1
 obtain ⟨h2, m2⟩ := h1.tot (N := N + k + 1)
 have g2 := g.wait hx
 rw [loA_s lo x hN, hiA_s hi x hN] at g2
 have e : N + ((k + 1 : Nat) : Int) = N + k + 1 := by omega
 refine ⟨by have := h2.box; rwa [List.length_append] at this, fun hl => ⟨_, m.trans (m1.trans m2), R, W', rc, wc', ts, ws ++ [x], rfl, e ▸ h2, e ▸ g2, by rw [List.length_append]; exact hl, hv⟩, (gflush_any h2 g2 h8 hv).mono ?_⟩
 rintro e' w6 ⟨rfl, t1, R1, W1, rc1, wc1, h3, g3, m3⟩
 exact ⟨rfl, _, (m.trans (m1.trans m2)).trans m3, R1, W1, rc1, wc1, t1, [], rfl, e ▸ h3, e ▸ g3, by simp, hv⟩
set_option maxRecDepth 100000 in
set_option maxHeartbeats 1000000 in
theorem gput_any (h : Gk w b S u v N lo hi) (hx : I64 x) (h0 : 0 ≤ n) (hN : N + n ≤ 8000) : Calls Tryz.prog 271 #[.pointer (some ⟨b, 0, none⟩), .int .i64 x, .int .u64 n] w (GpR b S u v N lo hi x n w) := by
 by_cases hz : n = 0 ∨ 1024 < n
 ·clear h
  rcases hz with rfl | hz
  all_goals
   try have d0 : (n == 0) = false := beq_eq_false_iff_ne.2 (by omega)
   go_enter Tryz.func271, Tryz.ntmps271
   go_wp2
   go_ret
   exact ⟨_, rfl, .inl ⟨by decide, Below.refl _ _⟩⟩
 obtain ⟨m, rfl⟩ : ∃ m : Nat, n = m := ⟨n.toNat, by omega⟩
 have nn := h.n0
 have PL := Lib.hid (plus2_new (a := N) (b := m) (Below.refl w.heap.size w) nn h0 (by omega))
 have J0 : Hid (∀ W, Below w.heap.size w W → PutJ b S u v N lo hi x w 0 W) := fun W hb => ⟨S, Mv.of _ hb, by simpa [loA, hiA] using h.below hb⟩
 have Z := Lib.hid (And.intro hx (And.intro nn hN))
 obtain ⟨R, W, rc, wc, ts, ws, _, h, _⟩ := h
 have f1 := h.box.c5
 have l1 := h.box.lt
 have d0 : ((m : Int) == 0) = false := beq_eq_false_iff_ne.2 (by omega)
 have d1 : decide ((1024 : Int) < m) = false := decide_eq_false (by omega)
 have d2 : decide (1024 < m) = false := decide_eq_false (by omega)
 clear h hz hx h0 hN nn
 go_enter Tryz.func271, Tryz.ntmps271
 go_wp2_with fail
 refine PL.out.mono ?_
 rintro e w2 ⟨rfl, hb⟩
 have J0 := Lib.hid (J0.out w2 hb)
 clear PL hb f1 l1
 go_wp2
 go_loopw [31] (fun i wr => ∃ k : Nat, k ≤ m ∧ i = .int .u64 k ∧ Hid (PutJ b S u v N lo hi x w k wr)) (fun i _ => m - (intOf i).toNat)
 case atStart => exact ⟨0, by omega, rfl, J0⟩
 case round =>
  clear J0 d1 d2
  obtain ⟨k, hk, rfl, J⟩ := hrel
  by_cases hlt : k < m
  ·obtain ⟨S', mv, R, W, rc, wc, ts, ws, rfl, h, g, l15, hv⟩ := J.out
   obtain ⟨A', c', w5, hr, ho, hf, hm⟩ := app_w (x := x) h.wai (by omega) (Nat.zero_le _) (Below.refl _ _)
   obtain ⟨s7, p7, F7⟩ := PutJ.step h g Z.out.1 Z.out.2.1 hv (by have := Z.out; omega) mv hf ho hm
   have s5 := hf.at h.box h.nb.2.1
   have f1 := h.box.c5
   have l1 := h.box.lt
   have v1 : IntKind.u64.wrap (N + k + 1) = N + k + 1 := by have := Z.out; simp only [IntKind.wrap_u64]; omega
   have v2 : IntKind.u64.wrap ((k : Int) + 1) = ((k + 1 : Nat) : Int) := by have := Z.out; simp only [IntKind.wrap_u64]; omega
   have p7 := Lib.hid p7
   have F7 := Lib.hid F7
   replace hr := Lib.hid hr
   generalize ws.length = q at *
   generalize ts.length = r at *
   clear J h g mv ho hf hm hv d0
   go_wp2_with (first | (at_builtin; refine Lib.wpList_append_run _ rfl _ _ _ _ rfl _ _ rfl rfl _ _ hr.out ?_; have f5 := s5.c5; have l5 := s5.lt; clear f1 l1 hr) | fail)
   ·refine F7.out.mono ?_
    rintro e w6 ⟨rfl, J⟩
    have J := Lib.hid J
    clear f5 l5 s5 p7 F7 s7
    go_wp2
    go_roundw
    case rel => exact ⟨k + 1, by omega, by simp, J⟩
    case measure => simp [intOf]; omega
   ·exact ⟨⟨k + 1, by omega, by simp, p7.out (by omega)⟩, by simp [intOf]; omega⟩
  ·obtain rfl : k = m := by omega
   have R : Hid (GpR b S u v N lo hi x k w (.returned (.int .i64 0)) wr) := by
    obtain ⟨S', mv, g⟩ := J.out
    have k0 : ¬ k = 0 := fun e => by subst e; simp at d0
    unfold loA hiA at g
    rw [if_neg k0, if_neg k0] at g
    exact ⟨0, rfl, .inr ⟨rfl, by omega, S', mv, g⟩⟩
   clear J d0
   go_wp2
   go_ret
   exact R.out
end
end Go.Proofs.YtlbnlmhcpephbaaGreatDoor
