/- Texts of this claim, joined, indents halved: EKp, ECo, EGr5, EGr6, EGr7, EKg. -/
import Derived.Test.YtlbnlmhcpephbaaGreatDoorProg
import Derived.Test.YtlbnlmhcpephbaaGreatDoorKe20
namespace Go.Proofs.YtlbnlmhcpephbaaGreatDoor
open Go.RowKit
set_option maxRecDepth 100000
set_option maxHeartbeats 8000000
theorem rd_arr {W W' : World} {xB n m k j : Nat} {A B C : Option Addr} {ps : List (Int × Int)} {T : TypeId} (hR : RdP W A ps) (a : At W xB #[.slice B n m, .slice C k j] T) (hF : Frame [xB] W W') : RdP W' A ps := by
 by_cases h0 : ps = []
 ·subst h0; exact RdP.nil _ _
 ·refine hF.rd hR fun g hg hm => ?_
  obtain ⟨g', o, e, hlt, hc, _⟩ := hR.at 0 (by cases ps with | nil => exact absurd rfl h0 | cons _ _ => simp)
  rw [hg] at e
  cases e
  simp only [List.mem_singleton] at hm
  subst hm
  unfold At at a
  simp only [Nat.zero_mul, Nat.add_zero] at hc
  rw [World.cell?] at hc
  simp [a] at hc
  match o, hc with
  | 0, hc => simp at hc
  | 1, hc => simp at hc
  | o + 2, hc => simp at hc
theorem RdS.arr {w W : World} {b xB : Nat} {K : List (Nat × Array Value × TypeId)} {l : List UInt8} {T : TypeId} {u0 v0 : Value} (h : RdS w W b ((xB, #[u0, v0], T) :: K) l) (hx : ∀ p ∈ K, p.1 ≠ xB) (hw : w.heap.size ≤ xB) (u v : Value) : RdS w ((W.setCell ⟨xB, 0, none⟩ u).setCell ⟨xB, 1, none⟩ v) b ((xB, #[u, v], T) :: K) l ∧ Frame [xB] W ((W.setCell ⟨xB, 0, none⟩ u).setCell ⟨xB, 1, none⟩ v) := by
 have F := (Frame.set [xB] W xB 0 u (by simp)).trans (Frame.set [xB] _ xB 1 v (by simp))
 refine ⟨⟨h.j.own F hw, h.ln, fun p hp => ?_⟩, F⟩
 rcases List.mem_cons.1 hp with rfl | hp
 ·exact ⟨(((h.k (xB, #[u0, v0], T) (by simp)).1.set_any 0 u rfl).set_any 1 v rfl), hw⟩
 ·exact ⟨F.at (h.k p (by simp [hp])).1 (by simp [hx p hp]), (h.k p (by simp [hp])).2⟩
theorem RdS.fresh {w W : World} {b : Nat} {K : List (Nat × Array Value × TypeId)} {l : List UInt8} (h : RdS w W b K l) (k : Nat) (hk : W.heap.size ≤ k) : w.heap.size ≤ k ∧ ∀ p ∈ K, p.1 ≠ k := ⟨Nat.le_trans h.j.fr.size hk, fun p hp e => by have := (h.k p hp).1.lt; omega⟩
theorem Lx.frame {w w' : World} {b : Nat} {U T : List Nat} {u v sd most N lo hi : Int} (h : Lx w b U u v sd most N lo hi) (hF : Frame T w w') (hn : Apart U T) : Lx w' b U u v sd most N lo hi := by
 obtain ⟨q, t, TS, s, K, S, n, z, x, y, rfl, h, e⟩ := h
 exact ⟨q, t, TS, s, K, S, n, z, x, y, rfl, h.frame hF hn, e⟩
theorem LsC.load {w w' : World} {b q t : Nat} {TS : List Nat} {s : Bool} {K : Bool → Nat} {S : Bool → List Nat} {u v sd most z lo hi M : Int} {n : Bool → Int} (h : LsC w b q t TS s K S u v sd most n z lo hi) (r : BlR q t TS s S most M w w') : ∃ K' S' n z, LsC w' b q t TS s K' S' u v sd most n z lo hi ∧ Mv (b :: bS q TS S) (b :: bS q TS S') w w' ∧ bN n z = M := by
 obtain ⟨K', S', n', z', h', m, e⟩ := r
 exact ⟨K', S', n', z', ⟨m.f.at h.at' h.ne, h', fun k => (m.g b k).elim h.ne fun z => by have := h.at'.lt; omega, h.sd⟩, m.cons b, e⟩
section
variable {w W : World} {q b un vn sn mn zn l0 l1 : Nat} {P : Bool → List (Int × Int)} {l N : Bool → Int} {x y : Int}
theorem lsread_w (hd : un ≤ 4294967296 ∧ vn ≤ 4294967296 ∧ sn ≤ 1 ∧ mn ≤ 4096 ∧ zn ≤ 8000) (hP : BnP P l N) (hl : l true = l0 ∧ l false = l1) (hs : bN N zn ≤ 8000) (hN : ∀ i, 0 ≤ N i) (hx : I64 x ∧ I64 y) (hn : ∀ i, (P i).length ≤ mn ∧ (P i).length ≤ 4096) (hE : Eye w b (natsB [un, vn, sn, mn] ++ intsB [x, y] ++ natsB [zn, l0, l1] ++ rowB (P true) ++ rowB (P false))) (hlen : (natsB [un, vn, sn, mn] ++ intsB [x, y] ++ natsB [zn, l0, l1] ++ rowB (P true) ++ rowB (P false)).length ≤ 300000) :
  Calls Tryz.prog 67 #[pt b] w (RdF b (.agg (CR 1 un vn sn mn 0 0 0 0 0 0)) Kd.log.T (fun W q Q => Lx W q Q un vn sn mn (bN N zn) x y) w) := by
 have J : Hid (RdS w w b [] (natB un ++ (natB vn ++ (natB sn ++ (natB mn ++ (natB (zigN x) ++ (natB (zigN y) ++ (natB zn ++ (natB l0 ++ (natB l1 ++ (rowB (P true) ++ (rowB (P false) ++ [])))))))))))) := by
  have e : natsB [un, vn, sn, mn] ++ intsB [x, y] ++ natsB [zn, l0, l1] ++ rowB (P true) ++ rowB (P false) = natB un ++ (natB vn ++ (natB sn ++ (natB mn ++ (natB (zigN x) ++ (natB (zigN y) ++ (natB zn ++ (natB l0 ++ (natB l1 ++ (rowB (P true) ++ (rowB (P false) ++ [])))))))))) := by simp [natsB, intsB]
  rw [e] at hE hlen
  exact RdS.start hE hlen
 have J := Lib.hid (J.out.new (CR 0 0 0 0 0 0 0 0 0 0 0))
 have po := bputok hP hs (by omega) hN
 have lb : l0 ≤ 8000 ∧ l1 ≤ 8000 := by have := (po true).2; have := (po false).2; omega
 obtain ⟨n0, e0⟩ : ∃ n, (P true).length = n := ⟨_, rfl⟩
 obtain ⟨n1, e1⟩ : ∃ n, (P false).length = n := ⟨_, rfl⟩
 have HN : Hid (n0 ≤ mn ∧ n1 ≤ mn ∧ n0 ≤ 4096 ∧ n1 ≤ 4096) := by have := hn true; have := hn false; show _ ∧ _; omega
 have Z := Lib.hid (And.intro hd (And.intro hx (And.intro (fun i => (po i).1) (And.intro e0 (And.intro e1 lb)))))
 have PP := Lib.hid (And.intro hP (And.intro hl (And.intro hs hN)))
 clear hd hx hP hl hs hN hn hE hlen e0 e1 po lb
 go_enter Tryz.func67, Tryz.ntmps67
 go_wp2_with fail
 generalize w.alloc _ = W0 at *
 obtain ⟨r, hr⟩ : ∃ r, w.heap.size = r := ⟨_, rfl⟩
 have RZ : Hid (w.heap.size ≤ r) := Nat.le_of_eq hr
 rw [hr] at J
 simp only [hr]
 clear hr
 refine (spart_any b un vn _ W0 J.out.j.eye Z.out.1.1 Z.out.1.2.1 (by have := J.out.ln; simp only [List.length_append] at this ⊢; omega)).mono ?_
 rintro e w1 ⟨rfl, hE, hF⟩
 have J1 : RdS w w1 b _ _ := RdS.read (l := natB un ++ natB vn) (by rw [List.append_assoc]; exact J.out) hE hF
 clear hE hF
 go_wp2_with fail
 refine (J1.small (by have := Z.out.1; omega)).mono ?_
 rintro e w2 ⟨rfl, J2⟩
 go_wp2_with fail
 refine (J2.small (by have := Z.out.1; omega)).mono ?_
 rintro e w3 ⟨rfl, J3⟩
 have J := Lib.hid (J3.new (CR 1 un vn sn mn 0 0 0 0 0 0))
 go_wp2_with fail
 generalize w3.alloc _ = W3 at *
 obtain ⟨c, hc⟩ : ∃ c, w3.heap.size = c := ⟨_, rfl⟩
 rw [hc] at J
 simp only [hc]
 clear hc J1 J2 J3
 refine (J.out.int Z.out.2.1.1).mono ?_
 rintro e w4 ⟨rfl, J⟩
 go_wp2_with fail
 refine (J.int Z.out.2.1.2).mono ?_
 rintro e w5 ⟨rfl, J⟩
 go_wp2_with fail
 refine (J.nat (by have := Z.out.1; omega) (by have := Z.out.1; omega)).mono ?_
 rintro e w6 ⟨rfl, J⟩
 go_wp2_with fail
 refine (J.nat (by have := Z.out.2.2; omega) (by have := Z.out.2.2; omega)).mono ?_
 rintro e w7 ⟨rfl, J⟩
 go_wp2_with fail
 refine (J.nat (by have := Z.out.2.2; omega) (by have := Z.out.2.2; omega)).mono ?_
 rintro e w8 ⟨rfl, J⟩
 have J := Lib.hid (J.new #[.int .u64 (l0 : Int), .int .u64 (l1 : Int)] 221)
 go_wp2_with fail
 generalize w8.alloc _ = W9 at *
 obtain ⟨lB, hc⟩ : ∃ c, w8.heap.size = c := ⟨_, rfl⟩
 rw [hc] at J
 simp only [hc]
 clear hc
 replace J := Lib.hid (J.out.below (Below.refl _ _).drew)
 refine held_h (S := HeldS (AtH c (CR 1 un vn sn mn 0 0 0 0 0 0) 28)) (by kernel_rfl) (HeldS.mk' (J.out.k (c, _, _) (by simp)).1) (fun hHeld => ?_)
 generalize W9.drew = V at *
 have hne := hHeld.ne
 have hf := fun x => (hHeld.get x).a.el
 refine runH [3, 1, 3] 5 hHeld ?_
 simp only [runL, runN, runOps_true, runOps_false, runOps_nil]
 repeat go_big_quiet_step (fail)
 refine wpQuiet_nil ?_
 clear hf
 refine wpAnyH_ready (rs := [3, 9]) (by kernel_rfl) (by simp) ?_
 refine AllReadyH.cons rfl (fun K hK => ?_) (AllReadyH.cons rfl (fun K hK => ?_) (AllReadyH.nil))
 go_simp
 go_wp2_with (go_at_call 83; refine (J.out.row (n := n0) (Z.out.2.2.1 true) Z.out.2.2.2.1 (by have := HN.out; have := Z.out.1; omega)).mono ?_; rintro e V1 ⟨A0, c0, rfl, r0, J1, _⟩)
 refine hK.out _ _ (HeldS.mk' (J1.k (c, _, _) (by simp)).1) (fun hHeld => ?_)
 replace J := Lib.hid J1
 have R0 := Lib.hid r0
 clear hK K r0 J1
 refine wpAnyH_ready (rs := [7, 9]) (by kernel_rfl) (by simp) ?_
 refine AllReadyH.cons rfl (fun K hK => ?_) (AllReadyH.cons rfl (fun K hK => ?_) (AllReadyH.nil))
 go_simp
 go_wp2_with (go_at_call 83; refine (J.out.row (n := n1) (Z.out.2.2.1 false) Z.out.2.2.2.2.1 (by have := HN.out; have := Z.out.1; omega)).mono ?_; rintro e V2 ⟨A1, c1, rfl, r1, J1, kp⟩)
 refine hK.out _ _ (HeldS.mk' (J1.k (c, _, _) (by simp)).1) (fun hHeld => ?_)
 replace J := Lib.hid J1
 replace R0 := Lib.hid (kp _ _ R0.out)
 have R1 := Lib.hid r1
 clear hK K r1 J1 kp
 refine runH [0, 8, 1] 2 hHeld ?_
 simp only [runL, runN, runOps_true, runOps_false, runOps_nil]
 repeat go_big_quiet_step (fail)
 refine wpQuiet_nil ?_
 refine readyH 9 fun K hK => ?_
 go_simp
 go_wp2
 have XN : Hid (lB ≠ V2.heap.size ∧ c ≠ V2.heap.size ∧ r ≠ V2.heap.size ∧ w.heap.size ≤ V2.heap.size) := ⟨Nat.ne_of_lt (J.out.k _ (.head _)).1.lt, Nat.ne_of_lt (J.out.k _ (.tail _ (.head _))).1.lt, Nat.ne_of_lt (J.out.k _ (.tail _ (.tail _ (.head _)))).1.lt, J.out.j.fr.size⟩
 replace J := Lib.hid (J.out.new #[.slice none 0 0, .slice none 0 0] 223)
 replace R0 := Lib.hid (RdP.below R0.out (bn V2 (.cells #[.slice none 0 0, .slice none 0 0] 223)))
 replace R1 := Lib.hid (RdP.below R1.out (bn V2 (.cells #[.slice none 0 0, .slice none 0 0] 223)))
 refine hK.out _ _ (HeldS.mk' (J.out.k (c, _, _) (by simp)).1) (fun hHeld => ?_)
 clear hK K
 generalize V2.alloc _ = VA at *
 generalize V2.heap.size = xB at *
 rotate_left
 go_simp
 go_wp2
 have XN : Hid (lB ≠ V1.heap.size ∧ c ≠ V1.heap.size ∧ r ≠ V1.heap.size ∧ w.heap.size ≤ V1.heap.size) := ⟨Nat.ne_of_lt (J.out.k _ (.head _)).1.lt, Nat.ne_of_lt (J.out.k _ (.tail _ (.head _))).1.lt, Nat.ne_of_lt (J.out.k _ (.tail _ (.tail _ (.head _)))).1.lt, J.out.j.fr.size⟩
 replace J := Lib.hid (J.out.new #[.slice none 0 0, .slice none 0 0] 223)
 replace R0 := Lib.hid (RdP.below R0.out (bn V1 (.cells #[.slice none 0 0, .slice none 0 0] 223)))
 refine hK.out _ _ (HeldS.mk' (J.out.k (c, _, _) (by simp)).1) (fun hHeld => ?_)
 clear hK K
 generalize V1.alloc _ = VA at *
 generalize V1.heap.size = xB at *
 refine readyH 7 fun K hK => ?_
 go_simp
 go_wp2_with (go_at_call 83; refine (J.out.row (n := n1) (Z.out.2.2.1 false) Z.out.2.2.2.2.1 (by have := HN.out; have := Z.out.1; omega)).mono ?_; rintro e V2 ⟨A1, c1, rfl, r1, J1, kp⟩)
 refine hK.out _ _ (HeldS.mk' (J1.k (c, _, _) (by simp)).1) (fun hHeld => ?_)
 replace J := Lib.hid J1
 replace R0 := Lib.hid (kp _ _ R0.out)
 have R1 := Lib.hid r1
 clear hK K r1 J1 kp
 refine runH [0, 8, 1] 1 hHeld ?_
 simp only [runL, runN, runOps_true, runOps_false, runOps_nil]
 repeat go_big_quiet_step (fail)
 refine wpQuiet_nil ?_
 rotate_left
 go_simp
 go_wp2
 have XN : Hid (lB ≠ V.heap.size ∧ c ≠ V.heap.size ∧ r ≠ V.heap.size ∧ w.heap.size ≤ V.heap.size) := ⟨Nat.ne_of_lt (J.out.k _ (.head _)).1.lt, Nat.ne_of_lt (J.out.k _ (.tail _ (.head _))).1.lt, Nat.ne_of_lt (J.out.k _ (.tail _ (.tail _ (.head _)))).1.lt, J.out.j.fr.size⟩
 replace J := Lib.hid (J.out.new #[.slice none 0 0, .slice none 0 0] 223)
 refine hK.out _ _ (HeldS.mk' (J.out.k (c, _, _) (by simp)).1) (fun hHeld => ?_)
 clear hK K
 generalize V.alloc _ = VA at *
 generalize V.heap.size = xB at *
 refine readyH 3 fun K hK => ?_
 go_simp
 go_wp2_with (go_at_call 83; refine (J.out.row (n := n0) (Z.out.2.2.1 true) Z.out.2.2.2.1 (by have := HN.out; have := Z.out.1; omega)).mono ?_; rintro e V1 ⟨A0, c0, rfl, r0, J1, _⟩)
 refine hK.out _ _ (HeldS.mk' (J1.k (c, _, _) (by simp)).1) (fun hHeld => ?_)
 replace J := Lib.hid J1
 have R0 := Lib.hid r0
 clear hK K r0 J1
 refine readyH 7 fun K hK => ?_
 go_simp
 go_wp2_with (go_at_call 83; refine (J.out.row (n := n1) (Z.out.2.2.1 false) Z.out.2.2.2.2.1 (by have := HN.out; have := Z.out.1; omega)).mono ?_; rintro e V2 ⟨A1, c1, rfl, r1, J1, kp⟩)
 refine hK.out _ _ (HeldS.mk' (J1.k (c, _, _) (by simp)).1) (fun hHeld => ?_)
 replace J := Lib.hid J1
 replace R0 := Lib.hid (kp _ _ R0.out)
 have R1 := Lib.hid r1
 clear hK K r1 J1 kp
 refine runH [0, 8, 1] 1 hHeld ?_
 simp only [runL, runN, runOps_true, runOps_false, runOps_nil]
 repeat go_big_quiet_step (fail)
 refine wpQuiet_nil ?_
 all_goals
  have ax := (J.out.k (xB, #[.slice none 0 0, .slice none 0 0], 223) (by simp)).1
  have fx := ax.two
  have lx := ax.lt
  refine readyH 10 fun K hK => ?_
  go_simp
  go_wp2
  have D := J.out.arr (fun p hp => by simp only [List.mem_cons, List.not_mem_nil, or_false] at hp; have := XN.out; rcases hp with rfl | rfl | rfl <;> dsimp only <;> omega) XN.out.2.2.2 (.slice A0 n0 c0) (.slice A1 n1 c1)
  refine hK.out _ _ (HeldS.mk' (D.1.k (c, _, _) (by simp)).1) (fun hHeld => ?_)
  clear hK K
  refine doneH ?_
  replace R0 := Lib.hid (rd_arr R0.out ax D.2)
  replace R1 := Lib.hid (rd_arr R1.out ax D.2)
  replace J := Lib.hid D.1
  clear D hHeld hne ax fx lx
  have f1 := (J.out.k (c, CR 1 un vn sn mn 0 0 0 0 0 0, 28) (by simp)).1.el
  have l1' := (J.out.k (c, CR 1 un vn sn mn 0 0 0 0 0 0, 28) (by simp)).1.lt
  go_wp2_with fail
  have FR := Lib.hid J.out.fresh
  refine (lsnew_w (by unfold U64; have := Z.out.1; omega) (by unfold U64; have := Z.out.1; omega)).mono ?_
  rintro e V4 ⟨⟨B, q, t, TS, s, K, S, rfl, hL, wi, _⟩ | ⟨f, hf, rfl⟩, hb⟩
  rotate_left
  have d0 : (f == 0) = false := by simpa using hf
  replace J := Lib.hid ((J.out.below hb).below (Below.refl _ _).drew)
  have hT : At2 xB _ _ lB _ _ V4.drew := ⟨(J.out.k (xB, #[.slice A0 n0 c0, .slice A1 n1 c1], 223) (by simp)).1, (J.out.k (lB, #[.int .u64 (l0 : Int), .int .u64 (l1 : Int)], 221) (by simp)).1⟩
  clear hf hb f1 l1' FR R0 R1 PP
  go_wp2_with fail
  refine held_h (by kernel_rfl) (HeldS.mk' hT) (fun hHeld => ?_)
  generalize V4.drew = V5 at *
  have hne := hHeld.ne
  have hf1 := fun x => (hHeld.get x).a.two
  have hf2 := fun x => (hHeld.get x).b.two
  refine runH [1] 22 hHeld ?_
  simp only [runL, runN, runOps_true, runOps_false, runOps_nil]
  repeat go_big_quiet_step (fail)
  refine wpQuiet_nil ?_
  refine readyH 1 fun K hK => ?_
  go_simp
  go_wp2_with (go_at_call 84; refine (ebad_any b _ V5 J.out.j.eye).mono ?_; rintro e w6 ⟨rfl, rfl⟩)
  refine hK.out _ _ ?_ (fun hHeld => ?_)
  clear hK K
  ·exact hHeld
  refine runH [0, 2, 7, 1, 3] 11 hHeld ?_
  simp only [runL, runN, runOps_true, runOps_false, runOps_nil]
  repeat go_big_quiet_step (fail)
  refine wpQuiet_nil ?_
  refine readyH 9 fun K hK => ?_
  go_simp
  refine hK.out _ _ ?_ (fun hHeld => ?_)
  clear hK K
  ·exact hHeld
  clear hK K
  refine readyH 13 fun K hK => ?_
  go_simp
  refine hK.out _ _ ?_ (fun hHeld => ?_)
  clear hK K
  ·exact hHeld
  clear hK K
  refine runH [0, 14, 6] 3 hHeld ?_
  simp only [runL, runN, runOps_true, runOps_false, runOps_nil]
  repeat go_big_quiet_step (fail)
  refine wpQuiet_nil ?_
  refine readyH 20 fun K hK => ?_
  go_simp
  refine hK.out _ _ ?_ (fun hHeld => ?_)
  clear hK K
  ·exact hHeld
  clear hK K
  refine runH [0, 21, 2] 0 hHeld ?_
  simp only [runL, runN, runOps_true, runOps_false, runOps_nil]
  repeat go_big_quiet_step (fail)
  refine wpQuiet_nil ?_
  refine doneH ?_
  have F := Lib.hid (J.out.fin (r := r) (kd := 1) (pn := un) (pd := vn) (sd := sn) (mo := mn) (dg := 0) (li := 0) (de := 0) (fa := 0) (wi := 0) (wo := 0) (T := Kd.log.T) (X := fun W q Q => Lx W q Q un vn sn mn (bN N zn) x y) RZ.out (fun _ _ _ _ _ h hF hn => h.frame hF hn) (.iface Kd.log.T (.agg #[.pointer none])) false (.inl rfl))
  clear hHeld hne hf1 hf2 hT d0
  rotate_left
  focus
   have HQ : Hid (∀ j ∈ B :: bS q TS S, w.heap.size ≤ j ∧ ∀ p ∈ [(xB, #[.slice A0 n0 c0, .slice A1 n1 c1], 223), (lB, #[.int .u64 (l0 : Int), .int .u64 (l1 : Int)], 221), (c, CR 1 un vn sn mn 0 0 0 0 0 0, 28), (r, CR 0 0 0 0 0 0 0 0 0 0 0, 28)], p.1 ≠ j) := fun j hj => FR.out j (wi j hj).1
   have b4 := hb.drew
   replace J := Lib.hid (J.out.below b4)
   have H := Lib.hid (hL.below (Below.refl _ _).drew)
   replace R0 := Lib.hid (RdP.below R0.out b4)
   replace R1 := Lib.hid (RdP.below R1.out b4)
   have hT : At2 xB _ _ lB _ _ V4.drew := ⟨(J.out.k (xB, #[.slice A0 n0 c0, .slice A1 n1 c1], 223) (by simp)).1, (J.out.k (lB, #[.int .u64 (l0 : Int), .int .u64 (l1 : Int)], 221) (by simp)).1⟩
   clear hb b4 hL wi FR f1 l1'
   go_wp2_with fail
   refine held_h (by kernel_rfl) (HeldS.mk' hT) (fun hHeld => ?_)
   generalize V4.drew = V5 at *
   have hne := hHeld.ne
   have hf1 := fun x => (hHeld.get x).a.two
   have hf2 := fun x => (hHeld.get x).b.two
   have FZ := Lib.hid J.out.fresh
   have LD := Lib.hid (bload_w (B := fun i => cond i A0 A1) (C := fun i => cond i c0 c1) (y := zn) H.out.bn PP.out.1 (fun i => by cases i; exact R1.out; exact R0.out) (by omega) (by have := PP.out.2.2.1; omega))
   rw [Z.out.2.2.2.1, Z.out.2.2.2.2.1, PP.out.2.1.1, PP.out.2.1.2] at LD
   dsimp only [cond_true, cond_false] at LD
   refine runH [1] 22 hHeld ?_
   simp only [runL, runN, runOps_true, runOps_false, runOps_nil]
   repeat go_big_quiet_step (fail)
   refine wpQuiet_nil ?_
   refine readyH 1 fun K hK => ?_
   go_simp
   go_wp2_with (go_at_call 84; refine (ebad_any b _ V5 J.out.j.eye).mono ?_; rintro e w6 ⟨rfl, rfl⟩)
   refine hK.out _ _ ?_ (fun hHeld => ?_)
   clear hK K
   ·exact hHeld
   refine runH [0, 2, 7, 1, 3] 11 hHeld ?_
   simp only [runL, runN, runOps_true, runOps_false, runOps_nil]
   repeat go_big_quiet_step (fail)
   refine wpQuiet_nil ?_
   refine readyH 9 fun K hK => ?_
   go_simp
   go_wp2_with (go_at_call 85; refine (lsbins_w H.out).mono ?_; rintro e w6 ⟨rfl, rfl⟩)
   refine hK.out _ _ ?_ (fun hHeld => ?_)
   clear hK K
   ·exact hHeld
   clear hf1 hf2
   refine readyH 13 fun K hK => ?_
   go_simp
   go_wp2_with (go_at_call 86; refine LD.out.mono ?_; rintro e w6 ⟨cc, rfl, h6⟩; have F6 : Frame (B :: bS q TS S) V5 w6 := h6.elim (fun h => Frame.of_below h.2) fun h => (h.2.elim fun _ h => h.elim fun _ h => h.elim fun _ h => h.elim fun _ h => h.2.1.f).mono fun k hk => List.mem_cons_of_mem _ hk)
   refine hK.out _ _ ?_ (fun hHeld => ?_)
   clear hK K
   ·exact HeldS.mk' (hT.frame F6 (fun m => (HQ.out _ m).2 _ (.head _) rfl) fun m => (HQ.out _ m).2 _ (.tail _ (.head _)) rfl)
   replace J := Lib.hid (J.out.step F6 HQ.out)
   replace hT := hT.frame F6 (fun m => (HQ.out _ m).2 _ (.head _) rfl) fun m => (HQ.out _ m).2 _ (.tail _ (.head _)) rfl
   clear LD
   rcases h6 with ⟨hc, _⟩ | ⟨rfl, r6⟩
   have d0 : (cc == 0) = false := by simpa using hc
   clear R0 R1 H HQ hc F6
   refine runH [0, 14, 6] 3 hHeld ?_
   simp only [runL, runN, runOps_true, runOps_false, runOps_nil]
   repeat go_big_quiet_step (fail)
   refine wpQuiet_nil ?_
   refine readyH 20 fun K hK => ?_
   go_simp
   refine hK.out _ _ ?_ (fun hHeld => ?_)
   clear hK K
   ·exact hHeld
   clear hK K
   refine runH [0, 21, 2] 0 hHeld ?_
   simp only [runL, runN, runOps_true, runOps_false, runOps_nil]
   repeat go_big_quiet_step (fail)
   refine wpQuiet_nil ?_
   refine doneH ?_
   have F := Lib.hid (J.out.fin (r := r) (kd := 1) (pn := un) (pd := vn) (sd := sn) (mo := mn) (dg := 0) (li := 0) (de := 0) (fa := 0) (wi := 0) (wo := 0) (T := Kd.log.T) (X := fun W q Q => Lx W q Q un vn sn mn (bN N zn) x y) RZ.out (fun _ _ _ _ _ h hF hn => h.frame hF hn) (.iface Kd.log.T (.agg #[pt B])) false (.inl rfl))
   clear hHeld hne hT d0
   rotate_left
   focus
    obtain ⟨K', S', n', z', hL, m, e6⟩ := H.out.load r6
    have LT := Lib.hid J.out.j.fr.size
    have HQ' : Hid (∀ j ∈ B :: bS q TS S', w.heap.size ≤ j ∧ ∀ p ∈ [(xB, #[.slice A0 n0 c0, .slice A1 n1 c1], 223), (lB, #[.int .u64 (l0 : Int), .int .u64 (l1 : Int)], 221), (c, CR 1 un vn sn mn 0 0 0 0 0 0, 28), (r, CR 0 0 0 0 0 0 0 0 0 0 0, 28)], p.1 ≠ j) := fun j hj => (m.g j hj).elim (HQ.out j) (FZ.out j)
    have H := Lib.hid (And.intro hL e6)
    clear R0 R1 HQ F6 FZ hL m e6 r6 LT
    have SE := Lib.hid (lsset_w (x := x) (y := y) H.out.1 (by have := H.out.2; have := PP.out.2.2.1; omega))
    refine runH [0, 14, 6] 3 hHeld ?_
    simp only [runL, runN, runOps_true, runOps_false, runOps_nil]
    repeat go_big_quiet_step (fail)
    refine wpQuiet_nil ?_
    refine readyH 20 fun K hK => ?_
    go_simp
    go_wp2_with (go_at_call 87; refine SE.out.mono ?_; rintro e w7 ⟨g, rfl, h7⟩; have F7 : Frame (B :: bS q TS S') w6 w7 := h7.elim (fun h => Frame.of_below h.2) fun h => h.2.2.mono fun k hk => by rw [List.mem_singleton] at hk; subst hk; exact .head _)
    refine hK.out _ _ ?_ (fun hHeld => ?_)
    clear hK K
    ·exact HeldS.mk' (hT.frame F7 (fun m => (HQ'.out _ m).2 _ (.head _) rfl) fun m => (HQ'.out _ m).2 _ (.tail _ (.head _)) rfl)
    replace J := Lib.hid (J.out.step F7 HQ'.out)
    refine runH [0, 21, 2] 0 hHeld ?_
    simp only [runL, runN, runOps_true, runOps_false, runOps_nil]
    repeat go_big_quiet_step (fail)
    refine wpQuiet_nil ?_
    refine doneH ?_
    have F := Lib.hid (J.out.fin (r := r) (kd := 1) (pn := un) (pd := vn) (sd := sn) (mo := mn) (dg := 0) (li := 0) (de := 0) (fa := 0) (wi := 0) (wo := 0) (T := Kd.log.T) (X := fun W q Q => Lx W q Q un vn sn mn (bN N zn) x y) RZ.out (fun _ _ _ _ _ h hF hn => h.frame hF hn) (.iface Kd.log.T (.agg #[pt B])) g (h7.imp (fun h => h.1) fun ⟨hg, h, _⟩ => ⟨hg, B, B :: bS q TS S', rfl, fun j hj => ⟨(HQ'.out j hj).1, h.lt j hj⟩, fun hm => (HQ'.out r hm).2 (r, CR 0 0 0 0 0 0 0 0 0 0 0, 28) (by simp) rfl, q, t, TS, s, K', S', n', z', x, y, rfl, h, H.out.2.symm, fun _ => ⟨rfl, rfl⟩⟩))
    clear hHeld hne hT SE H h7 F7 HQ'
  all_goals
   have ar := (J.out.k (r, CR 0 0 0 0 0 0 0 0 0 0 0, 28) (by simp)).1
   have ac := (J.out.k (c, CR 1 un vn sn mn 0 0 0 0 0 0, 28) (by simp)).1
   have g1 := ar.el
   have m1 := ar.lt
   have g2 := ac.el
   have m2 := ac.lt
   clear J Z
   go_wp2
   have d2 := (At.set11 ar (.int .i64 1) (.int .u64 un) (.int .u64 vn) (.int .i64 sn) (.int .i64 mn) (.int .i64 0) (.int .u64 0) (.int .i64 0) (.int .i64 0) (.int .i64 0) (.int .u64 0)).el
   generalize (((((((((((World.setCell _ _ _).setCell _ _).setCell _ _).setCell _ _).setCell _ _).setCell _ _).setCell _ _).setCell _ _).setCell _ _).setCell _ _).setCell _ _) = W10 at *
   exact bodyPost_ret (by simp only [results, Tryz.f67]; simp [go_sem, d2]) rfl F.out
end
end Go.Proofs.YtlbnlmhcpephbaaGreatDoor

namespace Go.Proofs.YtlbnlmhcpephbaaGreatDoor
open Go.RowKit
set_option maxRecDepth 100000
def Xo (pn pd sd mo : Int) : CoT := fun w q Q _ N lo hi => Lx w q Q pn pd sd mo N lo hi ∧ (0 ≤ pn ∧ pn ≤ 2147483648) ∧ 0 ≤ pd ∧ pd ≤ 2147483648
theorem core_log (pn pd sd mo : Int) (hp : U64 pn) (hd : U64 pd) : CoreW .log pn pd sd mo 0 0 0 0 0 0 (Xo pn pd sd mo) where
 frame := by
  rintro w w' q Q T m N lo hi ⟨⟨q', t, U, s, K, S, n, z, x, y, rfl, h, e1, e2⟩, hu⟩ hF hn
  exact ⟨⟨q', t, U, s, K, S, n, z, x, y, rfl, h.frame hF hn, e1, e2⟩, hu⟩
 lt := by
  rintro w q Q m N lo hi ⟨⟨q', t, U, s, K, S, n, z, x, y, rfl, h, e1, e2⟩, hu⟩
  exact h.lt
 new w _ := (lsnew_w hp hd).mono fun e w' ⟨h, hb⟩ => ⟨h.elim (fun ⟨b, q, t, TS, s, K, S, he, h, hw, h1, h2⟩ => .inl ⟨b, _, he, hw, ⟨q, t, TS, s, K, S, _, _, _, _, rfl, h, rfl, fun e => absurd rfl e⟩, ⟨hp.1, h1⟩, hd.1, h2⟩) fun ⟨c, hc, he⟩ => .inr ⟨c, hc, he⟩, hb⟩
 put := by
  rintro w q Q m N lo hi x n ⟨h, hu⟩ h3 hx h0 hs _
  refine (lsput_w h hx h0 (by omega)).mono ?_
  rintro e w' ⟨f, rfl, ⟨hf, mv, h'⟩ | ⟨rfl, hn, Q', mv, h'⟩⟩
  ·exact ⟨f, rfl, .inl ⟨hf, _, mv, h', hu⟩⟩
  ·exact ⟨0, rfl, .inr ⟨rfl, hn, _, mv, h', hu⟩⟩
 join := by
  rintro w q Q m N lo hi r R m2 M lo2 hi2 ⟨h, hu⟩ ⟨k, _⟩ ap hmm hs hx hy
  refine (lsjoin_w h k ap (by omega)).mono ?_
  rintro e w' ⟨rfl, Q', mv, h'⟩
  exact ⟨0, rfl, .inr ⟨rfl, _, mv, h', hu⟩⟩
 tot := by
  rintro w q Q m N lo hi ⟨⟨q', t, U, s, K, S, n, z, x, y, rfl, h, rfl, e2⟩, hu⟩ h7
  exact ctot_log q q' _ w (fun W hW => lsbins_w (h.below hW)) fun W hW => btot_w (h.bn.below hW) (by omega)
 ends := by
  rintro w q Q m N lo hi ⟨⟨q', t, U, s, K, S, n, z, x, y, rfl, h, rfl, e2⟩, hu⟩ h7
  rw [← endW_c e2]
  exact lsendz_w h (by omega)
 code := by
  rintro w q Q m N lo hi ⟨⟨q', t, U, s, K, S, n, z, x, y, rfl, h, rfl, e2⟩, h1, h2⟩ h3 h7 hx hy
  obtain ⟨un, rfl⟩ : ∃ n : Nat, pn = n := ⟨pn.toNat, by omega⟩
  obtain ⟨vn, rfl⟩ : ∃ n : Nat, pd = n := ⟨pd.toNat, by omega⟩
  have hm : 1 ≤ mo ∧ mo ≤ 4096 := by obtain ⟨_, _, _, _, _, k, _⟩ := h.bn.st true; exact k.m1
  obtain ⟨mn, rfl⟩ : ∃ n : Nat, mo = n := ⟨mo.toNat, by omega⟩
  have hz0 := h.bn.z0
  obtain ⟨zn, rfl⟩ : ∃ n : Nat, z = n := ⟨z.toNat, by omega⟩
  obtain ⟨P, l, hP, hlm, hR⟩ := brows_w h.bn
  have hN := fun i => (h.bn.st i).nn
  have po := bputok (z := (zn : Int)) hP (by omega) (by omega) hN
  obtain ⟨l0, e0⟩ : ∃ n : Nat, l true = n := ⟨(l true).toNat, by have := (po true).2; omega⟩
  obtain ⟨l1, e1⟩ : ∃ n : Nat, l false = n := ⟨(l false).toNat, by have := (po false).2; omega⟩
  have hn : ∀ i, (P i).length ≤ mn ∧ (P i).length ≤ 4096 := fun i => by have := hlm i; omega
  have zb : zn ≤ 8000 := by have := hN true; have := hN false; unfold bN at h7; omega
  have lb : l0 ≤ 8000 ∧ l1 ≤ 8000 := by have := (po true).2; have := (po false).2; omega
  obtain rfl := h.sd
  have hsn : sdI s = (sN s : Int) := by cases s <;> rfl
  have s1 : sN s ≤ 1 := by cases s <;> decide
  have hl : (natsB [un, vn, sN s, mn] ++ intsB [zE (bN n zn) lo, zE (bN n zn) hi] ++ natsB [zn, l0, l1] ++ rowB (P true) ++ rowB (P false)).length ≤ 262144 := by
   have a1 := natsB_len (l := [un, vn, sN s, mn]) fun u hu => by simp only [List.mem_cons, List.not_mem_nil, or_false] at hu; omega
   have a2 := intsB_len (l := [zE (bN n zn) lo, zE (bN n zn) hi]) fun u hu => by simp only [List.mem_cons, List.not_mem_nil, or_false] at hu; rcases hu with rfl | rfl; exact zE_i hx; exact zE_i hy
   have a3 := natsB_len (l := [zn, l0, l1]) fun u hu => by simp only [List.mem_cons, List.not_mem_nil, or_false] at hu; omega
   have a4 := rowB_le (po true).1 rfl (by have := hn true; omega)
   have a5 := rowB_le (po false).1 rfl (by have := hn false; omega)
   have := hn true
   have := hn false
   simp only [List.length_append, List.length_cons, List.length_nil] at *
   omega
  refine ⟨_, hl, ?_, fun W qb hb hq hg => lswrite_w h hP ⟨e0, e1⟩ hR (zE_i hx) (zE_i hy) (zE_w e2) (fun z => ⟨zE_0 z, zE_0 z⟩) (by omega) (fun i => (hn i).2) (by omega) hb hq hg, fun W eb hT hE => ?_⟩
  ·simp only [List.append_assoc]; exact nats_ne _ _ _
  ·have hr := lsread_w (by omega) hP ⟨e0, e1⟩ (by omega) hN ⟨zE_i hx, zE_i hy⟩ hn hE (by omega)
   rw [hsn]
   refine hr.mono ?_
   rintro e w' (⟨q, Q, rfl, hw, k, hE, hF⟩ | h)
   ·obtain ⟨q', t, U, s', K, S, n', z, a, c, rfl, k, e3, e4⟩ := k
    exact .inl ⟨q, _, rfl, hw, ⟨⟨q', t, U, s', K, S, n', z, a, c, rfl, hsn ▸ k, e3, fun e => by obtain ⟨rfl, rfl⟩ := e4 e; exact ⟨zE_1 e, zE_1 e⟩⟩, h1, h2⟩, hE, hF⟩
   ·exact .inr h
end Go.Proofs.YtlbnlmhcpephbaaGreatDoor

namespace Go.Proofs.YtlbnlmhcpephbaaGreatDoor
open Go.RowKit
section
variable {w w' W1 : World} {b o c k m rc wc : Nat} {u v T N M n lo hi lo2 hi2 x a : Int} {ts us : List Tu} {ws xs : List Int} {A R W : Option Addr} {S S2 : List Nat} {s : Bool}
theorem TuS.zero (h : TuS ts n) : n = 0 ↔ vT ts = [] := by
 have := h.len
 refine ⟨fun e => by rw [List.eq_nil_of_length_eq_zero (l := ts) (by omega)]; rfl, fun e => ?_⟩
 have s := h.sum
 rw [show ts = [] by simpa [vT] using e] at s
 simpa [sumT] using s.symm
def GjR (b : Nat) (S : List Nat) (u v N lo hi M lo2 hi2 : Int) (w : World) (e : Ending) (w' : World) : Prop :=
 ∃ c : Int, e = .returned (.int .i64 c) ∧ (c ≠ 0 ∧ Below w.heap.size w w' ∨ c = 0 ∧ ∃ S', Mv S S' w w' ∧ Gk w' b S' u v (N + M) (if M = 0 then lo else lowE N lo lo2) (if M = 0 then hi else highE N hi hi2))
set_option maxRecDepth 100000 in
set_option maxHeartbeats 1000000 in
theorem gjoin_any (h : Gk w b S u v N lo hi) (k : Gk w o S2 u v M lo2 hi2) (ap : Apart S S2) (hN : N + M ≤ 8000) : Calls Tryz.prog 309 #[.pointer (some ⟨b, 0, none⟩), .pointer (some ⟨o, 0, none⟩)] w (GjR b S u v N lo hi M lo2 hi2 w) := by
 have n0 := h.n0
 have m0 := k.n0
 obtain ⟨R, W, rc, wc, ts, ws, rfl, D, g, hl, hv⟩ := h
 obtain ⟨R2, W2, rc2, wc2, t2, ws2, rfl, E, gk, _⟩ := k
 have s1 := D.box
 have t1 := E.box
 have f1 := s1.c5
 have f2 := t1.c5
 have l1 := s1.lt
 have l2 := t1.lt
 have DE := Lib.hid (And.intro D (And.intro E ap))
 have G := Lib.hid (And.intro g (And.intro gk (And.intro n0 (And.intro m0 (And.intro hN hv)))))
 clear D E g gk hN ap hl hv n0 m0
 go_enter Tryz.func309, Tryz.ntmps309
 go_wp2
 go_quiet (fail)
 have hb : Below w.heap.size w (w.drewN nq).drew := ((Below.refl _ _).drewN _).drew
 go_upto_region 5 with fail
 have hT : At2 b _ _ o _ _ (w.drewN nq).drew := ⟨s1.below hb, t1.below hb⟩
 refine held_h (by kernel_rfl) (HeldS.mk' hT) (fun hHeld => ?_)
 clear f1 f2 l1 l2 s1 t1
 generalize (w.drewN nq).drew = V0 at *
 have hne := hHeld.ne
 have hf1 := fun x => (hHeld.get x).a.c5
 have hf2 := fun x => (hHeld.get x).b.c5
 refine runH [8] 7 hHeld ?_
 simp only [runL, runN, runOps_true, runOps_false, runOps_nil]
 repeat go_big_quiet_step (fail)
 refine wpQuiet_nil ?_
 clear hf1 hf2
 have PL := Lib.hid (plus2_new (a := N) (b := M) hb G.out.2.2.1 G.out.2.2.2.1 (by have := G.out; omega))
 refine readyH 8 fun K hK => ?_
 go_simp
 refine hK.out _ _ (HeldS.mk' (hT.below (bn _ _))) (fun hHeld => ?_)
 clear hK K
 refine readyH 9 fun K hK => ?_
 go_simp
 go_wp2_with (go_at_call 102; refine PL.out.mono ?_; rintro e w2 ⟨rfl, hb2⟩)
 refine hK.out _ _ ?_ (fun hHeld => ?_)
 clear hK K
 ·exact HeldS.mk' ⟨DE.out.1.box.below hb2, DE.out.2.1.box.below hb2⟩
 refine runH [0, 10, 5] 0 hHeld ?_
 simp only [runL, runN, runOps_true, runOps_false, runOps_nil]
 repeat go_big_quiet_step (fail)
 refine wpQuiet_nil ?_
 refine doneH ?_
 have FL := Lib.hid (gflush_any (DE.out.1.below hb2) G.out.1 (by have := G.out; omega) G.out.2.2.2.2.2)
 have H2 := Lib.hid hb2
 clear hHeld hT hb PL hne hb2
 go_wp2_with fail
 refine FL.out.mono ?_
 rintro e w3 ⟨rfl, t3, R3, W3, rc3, wc3, h3, g3, m3⟩
 have E3 := (DE.out.2.1.below H2.out).frame m3.f DE.out.2.2.symm
 have FD := Lib.hid fun W' (hb : Below w3.heap.size w3 W') => gflushed_any (E3.below hb) G.out.2.1 (by have := G.out; omega) G.out.2.2.2.2.2
 have M3 := Lib.hid ((Mv.of _ H2.out).trans m3)
 have H3 := Lib.hid (And.intro h3 (And.intro (show TuS t3 N by simpa using g3.1) (show EnV (vT t3) lo hi by simpa using g3.2.1)))
 have T3 := h3.box
 obtain ⟨n3, hn3⟩ : ∃ n, t3.length = n := ⟨_, rfl⟩
 have N3 := Lib.hid hn3
 rw [hn3] at T3
 clear FL E3 h3 g3 m3 H2 hn3
 go_upto_region 9 with fail
 have hT : GkW b _ w3.drew := T3.drew
 have bx : Below w3.heap.size w3 w3.drew := (Below.refl _ _).drew
 refine held_h (by kernel_rfl) (HeldS.mk' hT) (fun hHeld => ?_)
 clear T3
 generalize w3.drew = W4 at *
 have hne := hHeld.ne
 have hf1 := fun z => (hHeld.get z).a.c5
 refine runH [5] 3 hHeld ?_
 simp only [runL, runN, runOps_true, runOps_false, runOps_nil]
 repeat go_big_quiet_step (fail)
 refine wpQuiet_nil ?_
 clear hf1 hne
 refine readyH 5 fun K hK => ?_
 go_simp
 go_wp2_with (go_at_call 313; refine (FD.out W4 bx).mono ?_; rintro e w5 ⟨A5, c5, us, rfl, rd5, s5, e5, b5⟩)
 replace hT : GkW b _ w5 := hT.a.below b5
 replace bx := keep1 bx b5
 have MG := Lib.hid (tmg_any (c := rc3) (c2 := c5) ((own_rd H3.out.1.own).below bx) rd5 H3.out.2.1 s5 N3.out rfl (by have := H3.out.2.1.len; have := G.out; have := N3.out; omega) (by have := s5.len; have := G.out; omega))
 have Z5 := Lib.hid (And.intro s5 e5)
 refine hK.out _ _ (HeldS.mk' hT) (fun hHeld => ?_)
 clear hK K rd5 s5 e5 b5 FD
 generalize us.length = n5 at *
 refine readyH 6 fun K hK => ?_
 go_simp
 go_wp2_with (go_at_call 312; refine MG.out.mono ?_; rintro e w6 ⟨A6, c6, qs, rfl, o6, s6, i6, b6⟩)
 replace hT : GkW b _ w6 := hT.a.below b6
 rw [H3.out.2.1.sum, Z5.out.1.sum] at s6
 have e6 := H3.out.2.2.join Z5.out.2 i6 H3.out.2.1.zero Z5.out.1.zero
 have O6 := Lib.hid (And.intro o6 (And.intro s6 e6))
 have n6 : Hid (w3.heap.size ≤ w5.heap.size) := bx.size
 replace bx := keep1 bx b6
 refine hK.out _ _ (HeldS.mk' hT) (fun hHeld => ?_)
 clear hK K o6 s6 e6 i6 b6 MG
 refine readyH 7 fun K hK => ?_
 go_simp
 refine hK.out _ _ (HeldS.mk' hT) (fun hHeld => ?_)
 clear hK K
 refine doneH ?_
 obtain ⟨y, hy⟩ := limit_any (u := u) (v := v) (N := N + M) G.out.2.2.2.2.2 (by unfold U64; have := G.out; omega)
 have LM := Lib.hid (hy w6)
 have f6 := hT.a.c5
 have l6 := hT.a.lt
 have B6 := Lib.hid bx
 clear hy hHeld hT bx
 go_wp2_with fail
 refine LM.out.mono ?_
 rintro e w7 ⟨rfl, b7⟩
 have SQ := Lib.hid (tsq_any (L := y) (own_frame (T := []) O6.out.1 (Frame.of_below b7) fun _ _ => by simp) O6.out.2.1 O6.out.2.2 G.out.2.2.2.2.1)
 have B7 := Lib.hid (keep1 B6.out b7)
 clear b7 f6 l6 LM
 generalize qs.length = n7 at *
 go_wp2_with fail
 refine SQ.out.mono ?_
 rintro e w8 ⟨q8, rfl, o8, s8, e8, F8⟩
 have nA : ∀ k ∈ blk A6, w3.heap.size ≤ k := fun k hk => Nat.le_trans n6.out (own_blk O6.out.1 k hk).1
 have b8 := F8.below B7.out B7.out.size nA
 have h9 := H3.out.1.put (Frame.of_below b8) (own_low o8 (Nat.zero_le _)) fun k hk => .inr (nA k hk)
 have h10 := h9.1.tot (N := N + M)
 have R : Hid (GjR b (b :: (blk R ++ blk W)) u v N lo hi M lo2 hi2 w (.returned (.int .i64 0)) ((w8.setCell ⟨b, 2, none⟩ (.slice A6 q8.length c6)).setCell ⟨b, 4, none⟩ (.int .u64 (N + M)))) := ⟨0, rfl, .inr ⟨rfl, _, M3.out.trans (h9.2.trans h10.2), A6, W3, c6, wc3, q8, [], rfl, h10.1, ⟨by simpa using s8, by simpa using e8, by simp⟩, by simp, G.out.2.2.2.2.2⟩⟩
 have s8 := H3.out.1.box.below b8
 have f8 := s8.c5
 have l8 := s8.lt
 clear o8 e8 F8 SQ nA b8 h9 h10 s8
 go_wp2
 go_ret
 exact R.out
end
end Go.Proofs.YtlbnlmhcpephbaaGreatDoor

namespace Go.Proofs.YtlbnlmhcpephbaaGreatDoor
open Go.RowKit
section
variable {w w' W1 : World} {b o c c2 k m q rc wc : Nat} {u v T N M n lo hi lo2 hi2 x a : Int} {ts us : List Tu} {ws xs : List Int} {A B R W : Option Addr} {S S2 : List Nat} {s : Bool}
set_option maxRecDepth 100000 in
set_option maxHeartbeats 1000000 in
theorem gload_any (hr : OwT 0 w A c ts) (hw : OwnW 0 w B c2 ws) (g : GrI ts ws n lo hi) (hn : n ≤ 8000) (hv : U64 v) (hm : ts.length = m) (hq : ws.length = q) : Calls Tryz.prog 91 #[.agg #[.int .u64 u, .int .u64 v], .slice A m c, .slice B q c2] w (GkN u v n lo hi w) := by
 have gl := g.len
 rw [hm, hq] at gl
 have g1 : TuS ts (n - q) := hq ▸ g.1
 have F : Hid (∀ W, Below w.heap.size w W → GkN u v n lo hi w (.returned (.tuple #[.pointer none, .int .i64 1])) W) := fun W hb => ⟨.inr ⟨1, by decide, rfl⟩, hb⟩
 have H := Lib.hid (And.intro hr (And.intro hw (And.intro hm hq)))
 have G := Lib.hid (And.intro g (And.intro hn (And.intro hv g1)))
 have aB := At.new w #[.int .u64 u, .int .u64 v] 25
 have bA := bn w (.cells #[.int .u64 u, .int .u64 v] 25)
 have f1 := aB.two
 have l1 := aB.lt
 have C := Lib.hid (gnew_any (u := u) (w := w.alloc (.cells #[.int .u64 u, .int .u64 v] 25)) hv)
 clear hr hw g hn hv hm hq g1
 go_enter Tryz.func91, Tryz.ntmps91
 go_wp2_with fail
 refine C.out.mono ?_
 rintro e w1 ⟨hN, hb⟩
 replace aB := aB.below hb
 clear C f1 l1
 rcases hN with ⟨b, rfl, hz, D, _⟩ | ⟨f, hf, rfl⟩
 rotate_left
 ·have R : Hid (GkN u v n lo hi w (.returned (.tuple #[.pointer none, .int .i64 f])) w1) := ⟨.inr ⟨f, hf, rfl⟩, keep1 bA hb⟩
  have d0 : (f != 0) = true := by simpa using hf
  clear hb aB bA F H G
  go_wp2
  go_ret2
  exact R.out
 have hb1 := keep1 bA hb
 have TT := Lib.hid (ttot_any (c := c) ((own_rd H.out.1).below hb1) G.out.2.2.2 H.out.2.2.1 (by have := G.out; omega))
 have zb : w.heap.size ≤ b := Nat.le_trans bA.size hz
 clear hb bA hz
 go_wp2_with fail
 refine TT.out.mono ?_
 rintro e w2 ⟨rfl, hb⟩
 replace aB := aB.below hb
 replace D := D.below hb
 replace hb1 := keep1 hb1 hb
 have v1 : IntKind.u64.wrap (q : Int) = q := by have := G.out; simp only [IntKind.wrap_u64]; omega
 have PL := Lib.hid (plus2_new (a := n - q) (b := q) (Below.refl w2.heap.size w2) (by omega) (by omega) (by have := G.out; omega))
 have v2 : n - (q : Int) + q = n := by omega
 rw [v2] at PL
 clear hb TT v2
 go_wp2_with fail
 refine PL.out.mono ?_
 rintro e w3 ⟨rfl, hb⟩
 replace aB := aB.below hb
 replace D := D.below hb
 replace hb1 := keep1 hb1 hb
 have GD := Lib.hid (tgood_any (c := c) ((own_rd H.out.1).below hb1) G.out.2.2.2 H.out.2.2.1 (by have := G.out; omega))
 clear hb PL v1
 go_wp2_with fail
 refine GD.out.mono ?_
 rintro e w4 ⟨⟨gd, rfl⟩, hb⟩
 replace aB := aB.below hb
 replace D := D.below hb
 replace hb1 := keep1 hb1 hb
 clear hb GD
 have F4 := Lib.hid (F.out w4 hb1)
 by_cases hok : gd = true ∧ q < 16
 rotate_left
 ·have d1 : gd = false ∨ gd = true ∧ decide ((16 : Int) ≤ q) = true ∧ decide (16 ≤ q) = true := by cases gd <;> simp at hok ⊢ <;> omega
  clear hok F D hb1 aB G H
  rcases d1 with rfl | ⟨rfl, d1, d2⟩
  all_goals
   go_wp2
   go_ret2
   exact F4.out
 obtain ⟨rfl, hq⟩ := hok
 have d1 : decide ((16 : Int) ≤ q) = false := decide_eq_false (by omega)
 have d2 : decide (16 ≤ q) = false := decide_eq_false (by omega)
 obtain ⟨y, hy⟩ := limit_any (u := u) (v := v) (N := n - q) G.out.2.2.1 (by unfold U64; have := G.out; omega)
 have LM := Lib.hid (hy w4)
 have f1 := aB.two
 have l1 := aB.lt
 clear F4 hy aB
 go_wp2_with fail
 refine LM.out.mono ?_
 rintro e w5 ⟨rfl, hb⟩
 have J : Hid (GrB w5 b u v 0 none none 0 0 [] [] ∧ Below w.heap.size w w5) := ⟨D.below hb, keep1 hb1 hb⟩
 have m8 : m ≤ 8000 := by have := G.out; omega
 clear hb D hb1 d1 d2 LM f1 l1
 go_wp2
 go_loopw [16, 56] (fun _ i wr => ∃ k : Nat, k ≤ m ∧ i = .int .i64 k ∧ Hid (GrB wr b u v 0 none none 0 0 [] [] ∧ Below w.heap.size w wr)) (fun _ i _ => m - (intOf i).toNat)
 case atStart => exact ⟨0, by omega, rfl, J⟩
 case round =>
  clear J
  obtain ⟨k, hk, rfl, J⟩ := hrel
  by_cases hlt : k < m
  ·have hkl : k < ts.length := by have := H.out; omega
   obtain ⟨g, o, rfl, hg, d1, d2, d3⟩ := ((own_rd H.out.1).below J.out.2).at3 hkl
   have k0 : (0 : Int) ≤ k := by omega
   have k1 : (k : Int) < m := by omega
   have k2 : IntKind.i64.wrap ((k : Int) + 1) = ((k + 1 : Nat) : Int) := by simp only [IntKind.wrap_i64]; omega
   generalize ts[k].1 = z1 at *
   generalize ts[k].2.1 = z2 at *
   generalize ts[k].2.2 = z3 at *
   have bx := bn wr (.cells #[.int .i64 z1, .int .u64 z2, .int .u64 z3] 230)
   have J2 : Hid (GrB (wr.alloc (.cells #[.int .i64 z1, .int .u64 z2, .int .u64 z3] 230)) b u v 0 none none 0 0 [] [] ∧ Below w.heap.size w (wr.alloc (.cells #[.int .i64 z1, .int .u64 z2, .int .u64 z3] 230))) := ⟨J.out.1.below bx, keep1 J.out.2 bx⟩
   have F5 := Lib.hid (F.out _ J2.out.2)
   obtain ⟨z, hz⟩ : ∃ z, IntKind.u64.wrap (z2 + z3) = z := ⟨_, rfl⟩
   clear hkl J bx F
   by_cases hc : y < z
   ·go_wp2
    go_ret2
    exact F5.out
   ·clear F5
    go_wp2
    go_roundw
    case rel => exact ⟨k + 1, by omega, by simp, J2⟩
    case measure => simp [intOf]; omega
  ·obtain rfl : k = m := by omega
   have o0 := own_frame (T := []) H.out.1 (Frame.of_below J.out.2) fun _ _ => by simp
   have C1 := clone_g (j := .t) o0 flatT_one (by have := H.out; omega)
   have C2 := fun W (hb : Below wr.heap.size wr W) => cloneR_any B c2 q ws W ((H.out.2.1.below J.out.2).below hb).rd H.out.2.2.2 (fun e => by have := ((own_nil H.out.2.1).2.1 e).1; have := H.out; omega) (by omega)
   rw [H.out.2.2.1] at C1
   dsimp only [Sl.cln] at C1
   replace C1 := Lib.hid C1
   replace C2 := Lib.hid C2
   clear hlt m8 o0 F
   go_wp2_with (first | (go_at_call 116; refine C1.out.mono ?_) | fail)
   rintro e w6 ⟨A1, c1, rfl, o1, hb1⟩
   replace C2 := Lib.hid (C2.out w6 hb1)
   clear C1
   go_wp2_with fail
   refine C2.out.mono ?_
   rintro e w7 ⟨A2, c3, rfl, o2, hb2⟩
   have z1 := hb1.size
   have z2 := hb2.size
   have D := J.out.1
   have l0 := D.box.lt
   have D7 := D.box.below (keep1 hb1 hb2)
   have nb : b ∉ blk A1 ∧ b ∉ blk A2 ∧ ∀ k ∈ blk A1, k ∉ blk A2 := ⟨fun h => by have := (own_blk o1 b h).1; omega, fun h => by have := (own_blk o2 b h).1; omega, fun k hk hk' => by have := (own_blk o1 k hk).2; have := (own_blk o2 k hk').1; omega⟩
   have f := ((Frame.set [b] w7 b 2 (.slice A1 k c1) (by simp)).setc (b := b) (.inl (by simp)) 3 (.slice A2 q c3)).setc (b := b) (.inl (by simp)) 4 (.int .u64 n)
   have o3 := own_frame (own_frame (T := []) (own_low o1 (Nat.zero_le _)) (Frame.of_below hb2) fun _ _ => by simp) f fun k hk e => by simp at e; exact nb.1 (e ▸ hk)
   have o4 := OwnW.frame (own_low o2 (Nat.zero_le _)) f fun k hk e => by simp at e; exact nb.2.1 (e ▸ hk)
   have R : Hid (GkN u v n lo hi w (.returned (.tuple #[.pointer (some ⟨b, 0, none⟩), .int .i64 0])) (((w7.setCell ⟨b, 2, none⟩ (.slice A1 k c1)).setCell ⟨b, 3, none⟩ (.slice A2 q c3)).setCell ⟨b, 4, none⟩ (.int .u64 n))) := by
    refine ⟨.inl ⟨b, b :: (blk A1 ++ blk A2), rfl, ⟨A1, A2, c1, c3, ts, ws, rfl, ⟨?_, ?_, o4, nb⟩, G.out.1, by have := H.out; omega, G.out.2.2.1⟩, by simp, fun j hj => ?_⟩, ?_⟩
    ·rw [H.out.2.2.1, H.out.2.2.2]
     exact ((D7.set_any 2 _ rfl).set_any 3 _ rfl).set_any 4 _ rfl
    ·unfold OwT
     rw [H.out.2.2.1]
     exact o3
    ·simp only [List.mem_cons, List.mem_append] at hj
     have z0 := J.out.2.size
     have zz : (((w7.setCell ⟨b, 2, none⟩ (.slice A1 k c1)).setCell ⟨b, 3, none⟩ (.slice A2 q c3)).setCell ⟨b, 4, none⟩ (.int .u64 n)).heap.size = w7.heap.size := by simp
     rw [zz]
     rcases hj with rfl | hj | hj
     ·omega
     ·have := own_blk o1 j hj; omega
     ·have := own_blk o2 j hj; omega
    ·exact (((keep1 J.out.2 (keep1 hb1 hb2)).setCell (p := ⟨b, 2, none⟩) zb _).setCell (p := ⟨b, 3, none⟩) zb _).setCell (p := ⟨b, 4, none⟩) zb _
   have f7 := D7.c5
   have l7 := D7.lt
   clear D o1 o2 o3 o4 f nb D7 hb1 hb2 C2 J H
   go_wp2
   go_ret2
   exact R.out
end
end Go.Proofs.YtlbnlmhcpephbaaGreatDoor

namespace Go.Proofs.YtlbnlmhcpephbaaGreatDoor
open Go.RowKit
section
variable {w w' W1 : World} {b c c2 k m q rc wc : Nat} {u v n lo hi : Int} {ts : List Tu} {ws : List Int} {R W : Option Addr}
def GrR (ts : List Tu) (ws : List Int) (w : World) (e : Ending) (w' : World) : Prop := ∃ A1 A2 c1 c2, e = .returned (.tuple #[.slice A1 ts.length c1, .slice A2 ws.length c2]) ∧ Rd w' A1 (flatT ts) ∧ RdW w' A2 ws ∧ (∀ g, A2 = some g → w.heap.size ≤ g.block ∧ g.block < w'.heap.size) ∧ Below w.heap.size w w'
set_option maxRecDepth 100000 in
set_option maxHeartbeats 1000000 in
theorem growsr_any (h : GrB w b u v n R W rc wc ts ws) (hm : ts.length ≤ 8000) (hq : ws.length ≤ 8000) : Calls Tryz.prog 310 #[.pointer (some ⟨b, 0, none⟩)] w (GrR ts ws w) := by
 have h1 := h.below (Below.refl _ _).drew
 have C1 := Lib.hid (clone_g (j := .t) h1.own flatT_one (by omega))
 have C2 := Lib.hid fun W' (hb : Below w.drew.heap.size w.drew W') => cloneR_any W wc ws.length ws W' (h1.wai.below hb).rd rfl (fun e => ((own_nil h.wai).2.1 e).1) (by omega)
 have hT : GkW b _ w.drew := h1.box
 have B0 : Hid (Below w.heap.size w w.drew) := (Below.refl _ _).drew
 have R : Hid (∀ A1 A2 c1 c2 w', Rd w' A1 (flatT ts) → RdW w' A2 ws → (∀ g, A2 = some g → w.heap.size ≤ g.block ∧ g.block < w'.heap.size) → Below w.heap.size w w' → GrR ts ws w (.returned (.tuple #[.slice A1 ts.length c1, .slice A2 ws.length c2])) w') := fun A1 A2 c1 c2 w' h1 h2 h4 h3 => ⟨A1, A2, c1, c2, rfl, h1, h2, h4, h3⟩
 dsimp only [Sl.cln] at C1
 have f1 := h.box.c5
 have l1 := h.box.lt
 clear h h1
 generalize ws.length = q at *
 generalize ts.length = m at *
 go_enter Tryz.func310, Tryz.ntmps310
 go_upto_region 3 with fail
 refine held_h (by kernel_rfl) (HeldS.mk' hT) (fun hHeld => ?_)
 clear f1 l1
 generalize w.drew = W0 at *
 have hne := hHeld.ne
 have hf1 := fun z => (hHeld.get z).a.c5
 refine runH [4, 1, 4] 4 hHeld ?_
 simp only [runL, runN, runOps_true, runOps_false, runOps_nil]
 repeat go_big_quiet_step (fail)
 refine wpQuiet_nil ?_
 clear hf1 hne
 refine readyH 4 fun K hK => ?_
 go_simp
 go_wp2_with (go_at_call 116; refine C1.out.mono ?_; rintro e w1 ⟨A1, c1, rfl, o1, hb1⟩)
 replace hT : GkW b _ w1 := hT.a.below hb1
 have C2 := Lib.hid (C2.out w1 hb1)
 refine hK.out _ _ (HeldS.mk' hT) (fun hHeld => ?_)
 clear hK K
 refine readyH 9 fun K hK => ?_
 go_simp
 go_wp2_with (go_at_call 117; refine C2.out.mono ?_; rintro e w2 ⟨A2, c2, rfl, o2, hb2⟩)
 replace hT : GkW b _ w2 := hT.a.below hb2
 have R := Lib.hid (R.out A1 A2 c1 c2 w2 ((own_rd o1).below hb2) o2.rd (fun g e => ⟨Nat.le_trans (keep1 B0.out hb1).size (o2.base_le g e).1, (o2.base_le g e).2⟩) (keep1 (keep1 B0.out hb1) hb2))
 refine hK.out _ _ (HeldS.mk' hT) (fun hHeld => ?_)
 clear hK K C1 C2 o1 o2 hb1 hb2
 refine readyH 10 fun K hK => ?_
 go_simp
 refine hK.out _ _ (HeldS.mk' hT) (fun hHeld => ?_)
 clear hK K
 refine readyH 11 fun K hK => ?_
 go_simp
 refine hK.out _ _ (HeldS.mk' hT) (fun hHeld => ?_)
 clear hK K
 refine doneH ?_
 go_wp2
 go_ret2
 exact R.out
theorem gpart_any (h : GrB w b u v n R W rc wc ts ws) : Calls Tryz.prog 311 #[.pointer (some ⟨b, 0, none⟩)] w fun e w' => e = .returned (.agg #[.int .u64 u, .int .u64 v]) ∧ Below w.heap.size w w' := by
 have f1 := h.box.c5
 have l1 := h.box.lt
 clear h
 go_enter Tryz.func311, Tryz.ntmps311
 go_wp2
 have d2 := (At.new w #[.int .u64 u, .int .u64 v] 25).two
 exact bodyPost_ret (v := .agg #[.int .u64 u, .int .u64 v]) (by simp only [results, Tryz.f311]; simp [go_sem, d2]) rfl ⟨rfl, bn _ _⟩
end
end Go.Proofs.YtlbnlmhcpephbaaGreatDoor

namespace Go.Proofs.YtlbnlmhcpephbaaGreatDoor
open Go.RowKit
set_option maxRecDepth 100000
set_option maxHeartbeats 4000000
def tupB (x : Tu) : List UInt8 := intsB [x.1] ++ natsB [x.2.1.toNat, x.2.2.toNat]
def tupsB (ls : List Tu) : List UInt8 := ls.flatMap tupB
section
variable {w w' W W1 W' : World} {q b c m n cL un vn rc wc : Nat} {A L R V : Option Addr} {N lo hi : Int} {ts : List Tu} {ws xs : List Int} {l rest : List UInt8} {T : TypeId}
theorem tupsB_cut {k : Nat} (h : k < ts.length) : tupsB (ts.take (k + 1)) = tupsB (ts.take k) ++ tupB ts[k] ∧ tupsB (ts.drop k) = tupB ts[k] ++ tupsB (ts.drop (k + 1)) := by
 unfold tupsB
 rw [List.take_succ_eq_append_getElem h, List.flatMap_append, List.flatMap_singleton, List.drop_eq_getElem_cons h, List.flatMap_cons]
 exact ⟨rfl, rfl⟩
theorem TuS.bd (h : TuS ts N) (hN : N ≤ 8000) {x : Tu} (hx : x ∈ ts) : (0 < x.2.1 ∧ x.2.1 ≤ 8000) ∧ I64 x.1 ∧ U64 x.2.2 := by
 have p := h.pos x hx
 obtain ⟨i, hi, rfl⟩ := List.getElem_of_mem hx
 have := sumT_step h hi
 exact ⟨⟨p.1, by omega⟩, p.2⟩
theorem tupsB_len : ∀ {ts : List Tu}, (∀ x ∈ ts, (0 < x.2.1 ∧ x.2.1 ≤ 8000) ∧ I64 x.1 ∧ U64 x.2.2) → (tupsB ts).length ≤ 30 * ts.length
  | [], _ => by simp [tupsB]
  | x :: l, h => by
    have i1 := tupsB_len (ts := l) fun y hy => h y (by simp [hy])
    obtain ⟨a, b, c⟩ := h x (by simp)
    have h1 := intsB_len (l := [x.1]) fun u hu => by rw [List.mem_singleton] at hu; exact hu ▸ b
    have h2 := natsB_len (l := [x.2.1.toNat, x.2.2.toNat]) fun u hu => by have := c.2; have := c.1; simp only [List.mem_cons, List.not_mem_nil, or_false] at hu; omega
    unfold tupsB tupB at *
    rw [List.flatMap_cons]
    simp only [List.length_append, List.length_cons, List.length_nil] at *
    omega
theorem WqS.ints_old (h : WqS w W1 T q b c W l m) (hR : RdW W1 L xs) (hL : ∀ g, L = some g → g.block < W1.heap.size ∧ g.block ≠ b) (hx : ∀ x ∈ xs, I64 x) (hn : xs.length = n) (hm : n ≤ 8000 ∧ m ≤ 300000) :
  Calls Tryz.prog 202 #[pt b, .slice L n cL] W fun e w' => e = .returned (.tuple #[]) ∧ WqS w W1 T q b c w' (l ++ intsB xs) (m + 10 * n) :=
 h.add (Below.refl _ _) (hn ▸ intsB_len hx) fun A len cap e _ hl => qint_any b A len cap l L n cL xs W e.qu hn (by omega) (by omega) (h.old hR fun u hu => by obtain ⟨x, _, rfl⟩ := List.mem_map.1 hu; simp).1 hx fun g hg => e.notin (hL g hg).1 fun hm => (hL g hg).2 (by simpa [blk] using hm)
theorem gwrite_w (h : GrB w q un vn N R V rc wc ts ws) (g : GrI ts ws N lo hi) (hN : N ≤ 8000) (hu : un ≤ 2147483648 ∧ vn ≤ 2147483648) (hb : Below w.heap.size w W) (hq : Qu W b none 0 0 []) (hg : w.heap.size ≤ b) :
  Calls Tryz.prog 308 #[.agg #[pt q], pt b] W fun e w' => e = .returned (.tuple #[]) ∧ ∃ W1 A len cap, Below W.heap.size W W1 ∧ QuI W1 w' b none A len cap (natsB [un, vn, ts.length] ++ tupsB ts ++ natsB [ws.length] ++ intsB ws) := by
 have gl := g.len
 have b1 := bn W (.cells #[pt q] 124)
 have a1 := At.new W #[pt q] 124
 have bl : Hid (b < W.heap.size) := hq.at'.lt
 have cn : W.heap.size ≠ b := fun e => by have := bl.out; omega
 have CF := Lib.hid fun V (hV : Below w.heap.size w V) => gpart_any (h.below hV)
 have RW := Lib.hid fun V (hV : Below w.heap.size w V) => growsr_any (h.below hV) (by omega) (by omega)
 have TB := Lib.hid fun x hx => g.1.bd (by omega) (x := x) hx
 have Z := Lib.hid (And.intro hb (And.intro hq (And.intro hg g.2.2)))
 have U := Lib.hid hu
 obtain ⟨m, hm⟩ : ∃ n, ts.length = n := ⟨_, rfl⟩
 obtain ⟨n, hn⟩ : ∃ n, ws.length = n := ⟨_, rfl⟩
 have NN := Lib.hid (And.intro hm hn)
 unfold GrR at RW
 rw [hm, hn] at RW gl
 rw [hm, hn]
 have m8 : m ≤ 8000 := by omega
 have n8 : n ≤ 8000 := by omega
 clear h g hb hq hg hN hu hm hn gl
 go_enter Tryz.func308, Tryz.ntmps308
 have f1 := a1.one
 have l1 := a1.lt
 go_wp2_with fail
 generalize W.alloc _ = W1 at *
 obtain ⟨c, hc⟩ : ∃ c, W.heap.size = c := ⟨_, rfl⟩
 rw [hc] at a1 f1 l1 cn bl
 simp only [hc]
 refine (RW.out W1 (keep1 Z.out.1 b1)).mono ?_
 rintro e w3 ⟨A1, A2, c1, c2, rfl, r0, r1, rl, hb⟩
 have R2 : Hid (RdW w3 A2 ws ∧ ∀ g, A2 = some g → g.block < w3.heap.size ∧ g.block ≠ b) := ⟨r1, fun g e => ⟨(rl g e).2, by have := (rl g e).1; have := bl.out; omega⟩⟩
 replace b1 := keep1 b1 hb
 have J := Lib.hid (WqS.start (keep1 Z.out.1 b1) (a1.below hb) (Qu.below Z.out.2.1 b1) cn Z.out.2.2.1)
 have B1 := Lib.hid b1
 have R1 := Lib.hid r0
 have f3 := J.out.a1.one
 have l3 := J.out.a1.lt
 clear hb a1 f1 l1 b1 cn hc r0 r1 rl RW bl
 go_wp2_with fail
 replace J := Lib.hid (J.out.below (Below.refl _ _).drew)
 refine held_h (S := HeldS (AtH c #[pt q] 124)) (by kernel_rfl) (HeldS.mk' J.out.a) (fun hHeld => ?_)
 clear f3 l3
 generalize w3.drew = W4 at *
 have hne := hHeld.ne
 have hf := fun x => (hHeld.get x).a.one
 have hc0 : ∀ W : World, (Instr.field 25 (.agg #[.int .u64 (un : Int), .int .u64 (vn : Int)]) 0).run Tryz.prog W = .ok (.int .u64 (un : Int)) W := fun W => by kernel_rfl
 have hc1 : ∀ W : World, (Instr.field 25 (.agg #[.int .u64 (un : Int), .int .u64 (vn : Int)]) 1).run Tryz.prog W = .ok (.int .u64 (vn : Int)) W := fun W => by kernel_rfl
 refine runH [3, 2, 2, 2, 3] 6 hHeld ?_
 simp only [runL, runN, runOps_true, runOps_false, runOps_nil]
 repeat go_big_quiet_step (fail)
 refine wpQuiet_nil ?_
 clear hf
 refine readyH 3 fun K hK => ?_
 go_simp
 go_wp2_with (go_at_call 311; refine (CF.out W4 J.out.bw).mono ?_; rintro e w5 ⟨rfl, hb⟩)
 refine hK.out _ _ ?_ (fun hHeld => ?_)
 clear hK K
 ·exact HeldS.mk' (J.out.below hb).a
 replace J := Lib.hid (J.out.below hb)
 clear hb
 refine runH [0, 4, 1] 4 hHeld ?_
 simp only [runL, runN, runOps_true, runOps_false, runOps_nil]
 repeat go_big_quiet_step (fail)
 refine wpQuiet_nil ?_
 refine readyH 7 fun K hK => ?_
 go_simp
 go_wp2_with (go_at_call 311; refine (CF.out w5 J.out.bw).mono ?_; rintro e w6 ⟨rfl, hb⟩)
 refine hK.out _ _ ?_ (fun hHeld => ?_)
 clear hK K
 ·exact HeldS.mk' (J.out.below hb).a
 replace J := Lib.hid (J.out.below hb)
 clear hb CF
 refine runH [0, 8, 1] 2 hHeld ?_
 simp only [runL, runN, runOps_true, runOps_false, runOps_nil]
 repeat go_big_quiet_step (fail)
 refine wpQuiet_nil ?_
 have N := Lib.hid (J.out.nats (n := 3) [un, vn, m] (fun u hu => by have := U.out; simp only [List.mem_cons, List.not_mem_nil, or_false] at hu; omega) rfl (by omega))
 have A := Lib.hid (J.out.below (bn w6 (.cells #[.int .u64 (un : Int), .int .u64 (vn : Int), .int .u64 (m : Int)] 23))).a
 clear hc0 hc1
 refine readyH 12 fun K hK => ?_
 go_simp
 refine hK.out _ _ (HeldS.mk' A.out) (fun hHeld => ?_)
 clear hK K A
 refine readyH 13 fun K hK => ?_
 go_simp
 go_wp2_with (go_at_call 96; refine N.out.mono ?_; rintro e w7 ⟨rfl, J7⟩)
 refine hK.out _ _ ?_ (fun hHeld => ?_)
 clear hK K
 ·exact HeldS.mk' J7.a
 refine doneH ?_
 have J : Hid (WqS w w3 124 q b c w7 (natsB [un, vn, m] ++ tupsB (ts.take 0)) (30 + 30 * 0)) := by show WqS _ _ _ _ _ _ _ _ _; simpa [tupsB] using J7
 clear hHeld hne N J7
 go_wp2
 go_loopw [7, 30] (fun _ i wr => ∃ k : Nat, k ≤ m ∧ i = .int .i64 k ∧ Hid (WqS w w3 124 q b c wr (natsB [un, vn, m] ++ tupsB (ts.take k)) (30 + 30 * k))) (fun _ i _ => m - (intOf i).toNat)
 case atStart => exact ⟨0, by omega, rfl, J⟩
 case round =>
  clear J
  obtain ⟨k, hk, rfl, J⟩ := hrel
  by_cases hlt : k < m
  ·have hkl : k < ts.length := by have := NN.out; omega
   have px := TB.out _ (List.getElem_mem hkl)
   have tk := (tupsB_cut hkl).1
   obtain ⟨G, o, rfl, hG, d1, d2, d3⟩ := Rd.at3 (J.out.old R1.out fun u hu => by obtain ⟨x, _, hx⟩ := List.mem_flatMap.1 hu; simp at hx; rcases hx with rfl | rfl | rfl <;> simp).1 hkl
   obtain ⟨⟨x1, x2, x3⟩, hx⟩ : ∃ x, ts[k] = x := ⟨_, rfl⟩
   rw [hx] at d1 d2 d3 px tk
   dsimp only at d1 d2 d3 px
   obtain ⟨u, rfl⟩ : ∃ u : Nat, x2 = u := ⟨x2.toNat, by omega⟩
   obtain ⟨v, rfl⟩ : ∃ u : Nat, x3 = u := ⟨x3.toNat, by have := px.2.2.1; omega⟩
   have N3 := Lib.hid (J.out.ints_at (n := 1) (bn wr (.cells #[.int .i64 x1, .int .u64 (u : Int), .int .u64 (v : Int)] 230)) [x1] (fun u hu => by rw [List.mem_singleton] at hu; exact hu ▸ px.2.1) (g := wr.heap.size + 1) (by simp) rfl (by omega))
   have aL := At.new wr #[.int .i64 x1, .int .u64 (u : Int), .int .u64 (v : Int)] 230
   have E : Hid (natsB [un, vn, m] ++ tupsB (ts.take k) ++ intsB [x1] ++ natsB [u, v] = natsB [un, vn, m] ++ tupsB (ts.take (k + 1))) := by show _ = _; rw [tk]; simp [tupB]
   have PX := Lib.hid px
   clear tk hkl hx px J
   go_wp2_with fail
   refine N3.out.mono ?_
   rintro e w8 ⟨rfl, J, K⟩
   have a6 := K _ _ _ (Nat.le_refl _) (aL.below (bn _ _))
   have f6 := a6.three
   have l6 := a6.lt
   have N4 := Lib.hid (J.nats (n := 2) [u, v] (fun z hz => by have := PX.out; have := PX.out.2.2.2; simp only [List.mem_cons, List.not_mem_nil, or_false] at hz; omega) rfl (by omega))
   clear N3 aL J K d1 d2 d3 hG a6
   go_wp2_with fail
   refine N4.out.mono ?_
   rintro e w9 ⟨rfl, J⟩
   rw [E.out] at J
   have J : Hid (WqS w w3 124 q b c w9 (natsB [un, vn, m] ++ tupsB (ts.take (k + 1))) (30 + 30 * (k + 1))) := by rw [show 30 + 30 * (k + 1) = 30 + 30 * k + 10 * 1 + 10 * 2 by omega]; exact J
   clear N4 E f6 l6
   go_wp2
   exact ⟨⟨k + 1, by omega, by simp, J⟩, by simp [intOf]; omega⟩
  ·obtain rfl : k = m := by omega
   rw [List.take_of_length_le (by have := NN.out; omega)] at J
   have N := Lib.hid (J.out.nats (n := 1) [n] (fun u hu => by rw [List.mem_singleton] at hu; omega) rfl (by omega))
   clear J hlt
   go_wp2_with fail
   refine N.out.mono ?_
   rintro e wa ⟨rfl, J⟩
   have N := Lib.hid (J.ints_old (cL := c2) R2.out.1 R2.out.2 Z.out.2.2.2 NN.out.2 (by omega))
   clear J
   go_wp2_with fail
   refine N.out.mono ?_
   rintro e wb ⟨rfl, J⟩
   have R := Lib.hid (J.fin B1.out)
   clear N J
   go_wp2
   exact bodyPost_end (results_none rfl _ _ _) rfl ⟨rfl, R.out⟩
theorem RdS.ints (h : RdS w w b [] (intsB xs ++ rest)) (hn : xs.length = n) (hm : n ≤ 100000) (hx : ∀ x ∈ xs, I64 x) :
  Calls Tryz.prog 92 #[pt b, .int .i64 n] w fun e w' => ∃ A c, e = .returned (.slice A n c) ∧ OwnW w.heap.size w' A c xs ∧ RdS w w' b [] rest := by
 have H : Hid (RdS w w b [] (intsB (xs.drop 0) ++ rest) ∧ OwnW w.heap.size w none 0 (xs.take 0)) := ⟨h, OwnW.nil _ _⟩
 have HN := Lib.hid hn
 have HX := Lib.hid hx
 have HB : Hid (b < w.heap.size) := h.j.lt
 clear h hn hx
 go_enter Tryz.func92, Tryz.ntmps92
 go_wp2
 go_loopw [5, 6, 8] (fun out _ i wr => ∃ k : Nat, k ≤ n ∧ i = .int .i64 k ∧ ∃ A cap, out = .slice A k cap ∧ Hid (RdS w wr b [] (intsB (xs.drop k) ++ rest) ∧ OwnW w.heap.size wr A cap (xs.take k))) (fun _ _ i _ => n - (intOf i).toNat)
 case atStart => exact ⟨0, by omega, rfl, none, 0, rfl, H⟩
 case round =>
  clear H
  obtain ⟨k, hk, rfl, A, cap, rfl, H⟩ := hrel
  by_cases hlt : k < n
  ·have hkl : k < xs.length := by have := HN.out; omega
   have T2 := Lib.hid (List.take_succ_eq_append_getElem hkl)
   have TL : Hid ((xs.take k).length = k) := by show _ = _; rw [List.length_take]; omega
   have DR : Hid (intsB (xs.drop k) ++ rest = natB (zigN xs[k]) ++ (intsB (xs.drop (k + 1)) ++ rest)) := by show _ = _; rw [List.drop_eq_getElem_cons hkl]; unfold intsB; rw [List.flatMap_cons, List.append_assoc]
   have XB := HX.out _ (List.getElem_mem hkl)
   obtain ⟨x, hx⟩ : ∃ x, xs[k] = x := ⟨_, rfl⟩
   rw [hx] at T2 DR XB
   rw [DR.out] at H
   have J0 := RdS.start H.out.1.j.eye H.out.1.ln
   clear hx hkl
   go_wp2_with fail
   refine (J0.int XB).mono ?_
   rintro e w1 ⟨rfl, J1⟩
   have J2 := H.out.1.again J1
   have ow := H.out.2.frame J1.j.fr fun j hj e => by have := (own_blk H.out.2 j hj).1; have := HB.out; simp only [List.mem_singleton] at e; omega
   go_wp2_with fail
   refine (ebad_any b _ w1 J2.j.eye).mono ?_
   rintro e w2 ⟨rfl, rfl⟩
   obtain ⟨A', c', w3, hr, ho, hF, hB⟩ := app_w (x := x) ow (by rw [TL.out]; omega) J2.j.fr.size (Below.refl _ _)
   rw [TL.out] at hr
   have J : Hid (RdS w w3 b [] (intsB (xs.drop (k + 1)) ++ rest) ∧ OwnW w.heap.size w3 A' c' (xs.take (k + 1))) := ⟨J2.step hF fun j hj => ⟨(own_blk ow j hj).1, by simp⟩, by rw [T2.out]; exact ho⟩
   have HR := Lib.hid hr
   clear hr ho hF hB ow J2 J1 J0 H TL T2 DR XB
   go_wp2_with (first | (at_builtin; refine Lib.wpList_append_run _ rfl _ _ _ _ rfl _ _ rfl rfl _ _ HR.out ?_) | fail)
   clear HR
   go_wp2
   exact ⟨⟨k + 1, by omega, by simp, A', c', rfl, J⟩, by simp [intOf]; omega⟩
  ·obtain rfl : k = n := by omega
   have D := H.out
   rw [List.take_of_length_le (by have := HN.out; omega), List.drop_eq_nil_of_le (by have := HN.out; omega)] at D
   have F : Hid (OwnW w.heap.size wr A cap xs ∧ RdS w wr b [] rest) := ⟨D.2, D.1⟩
   clear D H
   go_wp2
   go_ret
   exact ⟨A, cap, rfl, F.out⟩
end
end Go.Proofs.YtlbnlmhcpephbaaGreatDoor
