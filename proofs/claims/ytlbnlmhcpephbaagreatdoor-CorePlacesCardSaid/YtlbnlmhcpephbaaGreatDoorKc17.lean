/- Texts of this claim, joined, indents halved: Tup6, Gr1. -/
import Derived.Test.YtlbnlmhcpephbaaGreatDoorProg
import Derived.Test.YtlbnlmhcpephbaaGreatDoorKc16
namespace Go.Proofs.YtlbnlmhcpephbaaGreatDoor
open Go.RowKit Tt
def lenOfV : Value → Nat
 | .slice _ n _ => n
 | _ => 0
theorem opwp_append_tup {o : Oper} {a : Act} {K : Act → World → Prop} {Q : Exit → Act → World → Prop} {w : World} (s x : Operand)
  (ho : o.op = .call { callee := .builtin .append, args := #[s, x], argTypes := #[170, 170] })
  (base : Nat) (A : Option Addr) (cap n : Nat) (ls : List Tu) (hs : a.eval s = .slice A n cap) (hn : ls.length = n) (hown : OwnT base w A cap ls)
  (ad : Addr) (c : Nat) (p : Tu) (hx : a.eval x = .slice (some ad) 1 c) (h0 : w.cell? (ad.add 0) = some (.int .i64 p.1)) (h1 : w.cell? (ad.add 1) = some (.int .u64 p.2.1)) (h2 : w.cell? (ad.add 2) = some (.int .u64 p.2.2))
  (hlen : n ≤ 1099511627775) (hbase : base ≤ w.heap.size)
  (h : ∀ A' cap' w', Hid (OwnT base w' A' cap' (ls ++ [p])) → Hid (w.grownBy w' (Value.slice A n cap).ownBlock) → K (a.put o.dst (.slice A' (n + 1) cap')) w') :
  Oper.wp Tryz.prog o a w K Q := by
 subst hn
 obtain ⟨i, hi, hz, hsz, hby⟩ := Tt.Tryz.infoTups
 have hnews : ∀ j u, (flatT [p])[j]? = some u → w.cell? (ad.add j) = some u := by
  intro j u hj
  match j, hj with
  | 0, hj => simp [flatT] at hj; subst hj; exact h0
  | 1, hj => simp [flatT] at hj; subst hj; exact h1
  | 2, hj => simp [flatT] at hj; subst hj; exact h2
 obtain ⟨v', w', hr, hown', hg, _, hblk⟩ := run_append_own_at (P := Tryz.prog) w base 170 o.type _ i _ 3 24 Tt.Tryz.underlyingTups hi hz hsz hby rfl (by decide) _ ls.length (flatT ls) hown ad 1 c (flatT [p]) (flatT_len _) hnews
  flatT_one' (by simp only [maxLen]; omega) (by omega) hbase
 unfold Oper.wp execOp
 simp only [ho, resolve, invoke, builtin, Sem.run_bind, Sem.run_pure, Result.andThen_ok, List.map_toArray, List.map_cons, List.map_nil, hs, hx, hr]
 have hl : (ls ++ [p]).length = ls.length + 1 := by simp
 rw [← flatT_append] at hown'
 rcases hown'.2 with ⟨e, hn⟩ | ⟨g, cp, cur, rfl, r⟩
 ·omega
 ·exact h _ _ _ (by show OwnT _ _ _ _ _; unfold OwnT; rw [hl]; exact hown') hg
theorem RdT.tail {w : World} {g o : Nat} {p : Tu} {F : List Tu} (h : RdT w (some ⟨g, o, none⟩) (p :: F)) : RdT w (some ⟨g, o + 3, none⟩) F := by
 intro j u hj
 obtain ⟨g', o', e, hg, hc⟩ := h (j + 3) u (by show (flatT (p :: F))[j + 3]? = some u; rw [flatT_cons]; simpa using hj)
 cases e
 refine ⟨g, o + 3, rfl, hg, ?_⟩
 rw [← hc]
 congr 2
 omega
theorem RdT.head {w : World} {A : Option Addr} {p : Tu} {F : List Tu} (h : RdT w A (p :: F)) : ∃ g o, A = some ⟨g, o, none⟩ ∧ g < w.heap.size ∧ w.cell? ⟨g, o, none⟩ = some (.int .i64 p.1) ∧ w.cell? ⟨g, o + 1, none⟩ = some (.int .u64 p.2.1) ∧ w.cell? ⟨g, o + 2, none⟩ = some (.int .u64 p.2.2) := by
 obtain ⟨g, o, e, hg, h1, h2, h3⟩ := h.at 0 (by simp)
 exact ⟨g, o, e, hg, by simpa using h1, by simpa using h2, by simpa using h3⟩
theorem ownT_cap {base : Nat} {w : World} {A : Option Addr} {c : Nat} {ls : List Tu} (h : OwnT base w A c ls) : ls.length ≤ c := by
 rcases h.2 with ⟨_, h0⟩ | ⟨g, cp, cur, h, _, _, h1, _⟩
 ·omega
 ·simp only [Value.slice.injEq] at h; omega
structure MrgJ (W0 wr : World) (M O F S : List Tu) (A1 A2 A' : Option Addr) (c' : Nat) : Prop where
 eq : M = O ++ mergeR F S
 r1 : RdT W0 A1 F
 r2 : RdT W0 A2 S
 own : OwnT W0.heap.size wr A' c' O
 bl : Below W0.heap.size W0 wr
set_option maxRecDepth 100000 in
set_option maxHeartbeats 8000000 in
theorem tmerge_any (A B : Option Addr) (c c2 n m : Nat) (ps qs : List Tu) (w : World) (hn : ps.length = n) (hm : qs.length = m) (hR : RdT w A ps) (hQ : RdT w B qs) (hs1 : ps.Pairwise fun a b => a.1 ≤ b.1) (hs2 : qs.Pairwise fun a b => a.1 ≤ b.1)
  (hb1 : ∀ p ∈ ps, ∀ q ∈ qs, 0 ≤ p.2.2 ∧ 1 ≤ q.2.1 ∧ 0 ≤ q.2.2 ∧ p.2.2 + q.2.1 + q.2.2 < 18446744073709551616) (hb2 : ∀ p ∈ qs, ∀ q ∈ ps, 0 ≤ p.2.2 ∧ 1 ≤ q.2.1 ∧ 0 ≤ q.2.2 ∧ p.2.2 + q.2.1 + q.2.2 < 18446744073709551616) (hl : n ≤ 1048576) (hl2 : m ≤ 1048576) :
  Calls Tryz.prog 312 #[.slice A n c, .slice B m c2] w fun e w' => (∃ A' c', e = .returned (.slice A' (n + m) c') ∧ OwnT w.heap.size w' A' c' (mergeR (partA ps qs) (partB qs ps))) ∧ Below w.heap.size w w' := by
 have HA := Lib.hid (fun W bb (hB : Below w.heap.size w W) (hbb : At W bb #[.slice B m c2] 170) => prtA_any A B bb c c2 n m ps qs W hn hm (hR.below hB) (hQ.below hB) hbb hs2 hb1 hl hl2)
 have HBB := Lib.hid (fun W bb (hB : Below w.heap.size w W) (hbb : At W bb #[.slice A n c] 170) => prtB_any B A bb c2 c m n qs ps W hm hn (hQ.below hB) (hR.below hB) hbb hs1 hb2 hl2 hl)
 have HLA : Hid ((partA ps qs).length = n) := by show _ = _; unfold partA; rw [List.length_map, hn]
 have HLB : Hid ((partB qs ps).length = m) := by show _ = _; unfold partB; rw [List.length_map, hm]
 clear hR hQ hs1 hs2 hb1 hb2 hn hm
 obtain ⟨h0, hh0⟩ : ∃ h0, w.heap.size = h0 := ⟨_, rfl⟩
 have a0 := At.new' w #[.slice A n c] 170 hh0.symm
 have a1 := At.new' (w.alloc (.cells #[.slice A n c] 170)) #[.slice B m c2] 170 (b := h0 + 1) (by simp [hh0])
 have a0' := a0.alloc (.cells #[.slice B m c2] 170)
 have f0 := a0'.one
 have f1 := a1.one
 have bA : Below w.heap.size w ((w.alloc (.cells #[.slice A n c] 170)).alloc (.cells #[.slice B m c2] 170)) := (by repeat (first | with_reducible assumption | with_reducible exact Below.refl _ _ | with_reducible refine Below.drew ?_ | with_reducible refine Below.drewN ?_ _ | with_reducible refine Below.setCell ?_ (by first | omega | (simp; done) | (simp; omega)) _ | with_reducible refine Below.alloc ?_ (by first | omega | (simp; done) | (simp; omega) | (simp [World.setCell]; omega)) _))
 clear a0
 go_enter Tryz.func312, Tryz.ntmps312
 go_wp2_with (go_at_call 314; refine (HA.out _ (h0 + 1) bA a1).mono ?_)
 rintro e w1 ⟨⟨A1, c1, rfl, ho1⟩, hb1⟩
 have b0 := a0'.below hb1
 have b1 := a1.below hb1
 replace bA := bA.trans (hb1.mono bA.size)
 have HO1 := Lib.hid ho1
 have f0 := b0.one
 have f1 := b1.one
 clear a0' a1 hb1 ho1
 go_wp2_with (go_at_call 314; refine (HBB.out _ h0 bA b0).mono ?_)
 rintro e w2 ⟨⟨A2, c2', rfl, ho2⟩, hb2⟩
 replace bA := bA.trans (hb2.mono bA.size)
 have HR1 := Lib.hid (HO1.out.below hb2).rd
 have HR2 := Lib.hid ho2.rd
 have hcA : n ≤ c1 := by rw [← HLA.out]; exact ownT_cap HO1.out
 have hcB : m ≤ c2' := by rw [← HLB.out]; exact ownT_cap ho2
 have HBA := Lib.hid bA
 clear b0 b1 f0 f1 hb2 ho2 HO1 HA HBB bA hh0
 go_wp2
 go_loopw [5, 6, 7] (fun f s o wr => ∃ (F S O : List Tu) (A1 A2 A' : Option Addr) (c1 c2 c' n1 n2 k : Nat), f = .slice A1 n1 c1 ∧ s = .slice A2 n2 c2 ∧ o = .slice A' k c' ∧ n1 ≤ c1 ∧ n2 ≤ c2 ∧ k + n1 + n2 = n + m ∧ Hid (F.length = n1 ∧ S.length = n2 ∧ O.length = k) ∧ Hid (MrgJ w2 wr (mergeR (partA ps qs) (partB qs ps)) O F S A1 A2 A' c')) (fun f s _ _ => lenOfV f + lenOfV s)
 case atStart => exact ⟨partA ps qs, partB qs ps, [], A1, A2, none, c1, c2', 0, n, m, 0, rfl, rfl, rfl, hcA, hcB, by omega, ⟨HLA.out, HLB.out, rfl⟩, ⟨rfl, HR1.out, HR2.out, OwnT.nil _ _, Below.refl _ _⟩⟩
 case round =>
  clear hcA hcB HR1 HR2
  obtain ⟨F, S, O, A1, A2, A', c1, c2, c', n1, n2, k, rfl, rfl, rfl, hc1, hc2, hk, HL, HJ⟩ := hrel
  rcases F with _ | ⟨p, F⟩
  ·obtain rfl : n1 = 0 := by have := HL.out.1; simp at this; omega
   rcases S with _ | ⟨q, S⟩
   ·obtain rfl : n2 = 0 := by have := HL.out.2.1; simp at this; omega
    have HE : Hid (mergeR (partA ps qs) (partB qs ps) = O) := by show _ = _; rw [HJ.out.eq, mergeR_nil_left, List.append_nil]
    obtain rfl : k = n + m := by omega
    go_wp2
    go_ret
    exact ⟨⟨A', c', rfl, by rw [HE.out]; exact HJ.out.own.mono HBA.out.size⟩, HBA.out.trans (HJ.out.bl.mono HBA.out.size)⟩
   ·skip
    have HN1 : Hid (n2 = S.length + 1) := by have := HL.out.2.1; simp at this; exact this.symm
    have j1 : (0 : Int) < n2 := by have := HN1.out; omega
    have j1' : ((n2 : Int) == 0) = false := beq_eq_false_iff_ne.2 (by omega)
    obtain ⟨g, o, rfl, hg, d1, d2, d3⟩ := RdT.head HJ.out.r2
    obtain ⟨z1, z2, z3⟩ := q
    dsimp only at d1 d2 d3
    have HEQ : Hid (mergeR (partA ps qs) (partB qs ps) = (O ++ [(z1, z2, z3)]) ++ mergeR ([]) (S)) := by show _ = _; rw [HJ.out.eq, mergeR_nil_left, mergeR_nil_left, List.append_assoc]; rfl
    have e1 := cellB HJ.out.bl hg d1
    have e2 := cellB HJ.out.bl hg d2
    have e3 := cellB HJ.out.bl hg d3
    have gW : g < wr.heap.size := Nat.lt_of_lt_of_le hg HJ.out.bl.size
    have hfa1 := fun x : Far wr => x.cell gW e1
    have HD := Lib.hid (And.intro d1 (And.intro d2 d3))
    clear d1 d2 d3
    go_wp2
    refine wp_region_far (by kernel_rfl) (by kernel_rfl) ?_
    repeat (first | go_big_quiet_skip | (go_big_quiet_want; go_big_quiet_op; first | go_big_quiet_on | (apply Exists.intro; refine ⟨fun _ => ?_, ?_⟩; (focus (first | fail)); go_big_quiet_on)))
    refine wpQuiet_nil ?_
    rintro _ ⟨xq, rfl⟩
    clear hfa1
    go_wp2
    obtain ⟨W1, hW1⟩ : ∃ W1, xq.far = W1 := ⟨_, rfl⟩
    have bX : Below wr.heap.size wr W1.drew := by rw [← hW1]; exact (Far.below xq).drew
    rw [hW1]
    clear hW1 xq
    have TK : W1.drew.cell? ⟨g, o, none⟩ = some (.int .i64 z1) ∧ W1.drew.cell? ⟨g, o + 1, none⟩ = some (.int .u64 z2) ∧ W1.drew.cell? ⟨g, o + 2, none⟩ = some (.int .u64 z3) := ⟨cellB bX gW e1, cellB bX gW e2, cellB bX gW e3⟩
    clear e1 e2 e3 gW
    refine wp_region_noPanic ?_
    refine wp_region_until (S := HeldS fun W' => W'.cell? ⟨g, o, none⟩ = some (.int .i64 z1) ∧ W'.cell? ⟨g, o + 1, none⟩ = some (.int .u64 z2) ∧ W'.cell? ⟨g, o + 2, none⟩ = some (.int .u64 z3)) 8 (by kernel_rfl) ?_
    obtain ⟨W3, hW3⟩ : ∃ W3, W1.drew = W3 := ⟨_, rfl⟩
    rw [hW3] at TK bX ⊢
    have hHeld : HeldS (fun W' => W'.cell? ⟨g, o, none⟩ = some (.int .i64 z1) ∧ W'.cell? ⟨g, o + 1, none⟩ = some (.int .u64 z2) ∧ W'.cell? ⟨g, o + 2, none⟩ = some (.int .u64 z3)) W3 := HeldS.mk' TK
    have hne : Nonempty (Held fun W' => W'.cell? ⟨g, o, none⟩ = some (.int .i64 z1) ∧ W'.cell? ⟨g, o + 1, none⟩ = some (.int .u64 z2) ∧ W'.cell? ⟨g, o + 2, none⟩ = some (.int .u64 z3)) := ⟨⟨W3, TK⟩⟩
    have hneF : Nonempty (Held fun _ => True) := ⟨⟨W3, trivial⟩⟩
    have hfar1 := fun z : Held (fun W' => W'.cell? ⟨g, o, none⟩ = some (.int .i64 z1) ∧ W'.cell? ⟨g, o + 1, none⟩ = some (.int .u64 z2) ∧ W'.cell? ⟨g, o + 2, none⟩ = some (.int .u64 z3)) => z.held.1
    have hfar2 := fun z : Held (fun W' => W'.cell? ⟨g, o, none⟩ = some (.int .i64 z1) ∧ W'.cell? ⟨g, o + 1, none⟩ = some (.int .u64 z2) ∧ W'.cell? ⟨g, o + 2, none⟩ = some (.int .u64 z3)) => z.held.2.1
    have hfar3 := fun z : Held (fun W' => W'.cell? ⟨g, o, none⟩ = some (.int .i64 z1) ∧ W'.cell? ⟨g, o + 1, none⟩ = some (.int .u64 z2) ∧ W'.cell? ⟨g, o + 2, none⟩ = some (.int .u64 z3)) => z.held.2.2
    clear hW3
    have q1 : 1 ≤ n2 := by omega
    have q1' : (1 : Int) ≤ n2 := by omega
    have q2 : 1 ≤ c2 := by omega
    have q3 : n2 ≤ c2 := hc2
    have HOX := Lib.hid (HJ.out.own.below bX)
    have HBX := Lib.hid (HJ.out.bl.trans (bX.mono HJ.out.bl.size))
    clear bX
    by_cases hcc : c2 = 1
    ·have q4 : n2 = 1 := by omega
     have HM0 : Hid (S = []) := List.eq_nil_of_length_eq_zero (by have := HN1.out; omega)
     refine wpAnyU_run0F [true, true, true, false, false, false, true, true] 5 (by kernel_rfl) (by kernel_rfl) (fun _ _ _ _ h => h) (by kernel_rfl) hHeld ?_
     simp only [runOps_true, runOps_false, runOps_nil]
     repeat (first | go_big_quiet_skip | (go_big_quiet_want; go_big_quiet_op; go_big_quiet_on))
     refine wpQuiet_nil ?_
     refine wpAnyU_run0 [false, false, false, true] 4 (by kernel_rfl) (by kernel_rfl) (fun _ _ _ _ h => h) (by kernel_rfl) hHeld ?_
     simp only [runOps_true, runOps_false, runOps_nil]
     repeat (first | go_big_quiet_skip | (go_big_quiet_want; go_big_quiet_op; go_big_quiet_on))
     refine wpQuiet_nil ?_
     clear hfar1 hfar2 hfar3 hne hneF
     have bAl : Below W3.heap.size W3 (W3.alloc (.cells #[.int .i64 z1, .int .u64 z2, .int .u64 z3] 230)) := (Below.refl _ _).alloc (Nat.le_refl _) _
     have aN := At.new W3 #[.int .i64 z1, .int .u64 z2, .int .u64 z3] 230
     have HO3 := Lib.hid (HOX.out.below bAl)
     have HB3 := Lib.hid (HBX.out.trans (bAl.mono HBX.out.size))
     have TK2 := And.intro (cellB HB3.out hg HD.out.1) (And.intro (cellB HB3.out hg HD.out.2.1) (cellB HB3.out hg HD.out.2.2))
     refine wpAnyU_ready (rs := [4]) (by kernel_rfl) (by simp) ?_
     refine AllReadyU.cons rfl (fun K hK => ?_) (AllReadyU.nil)
     go_simp
     go_wp2
     refine hK.out _ _ (fun _ => HeldS.mk' TK2) ?_
     clear hK K bAl TK2 hHeld TK HOX HBX
     obtain ⟨nB, hnB⟩ : ∃ e, W3.heap.size = e := ⟨_, rfl⟩
     generalize W3.alloc (.cells #[.int .i64 z1, .int .u64 z2, .int .u64 z3] 230) = W5 at HO3 HB3 aN ⊢
     simp only [hnB] at aN ⊢
     clear hnB
     refine wpAnyU_ready (rs := [5]) (by kernel_rfl) (by simp) ?_
     refine AllReadyU.cons rfl (fun K hK => ?_) (AllReadyU.nil)
     refine ite_of rfl ?_
     refine opwp_append_tup _ _ rfl w2.heap.size A' c' k O rfl HL.out.2.2 HO3.out ⟨nB, 0, none⟩ 1 (z1, z2, z3) rfl (by rw [Addr.add_lit]; exact aN.cell rfl) (by rw [Addr.add_lit]; exact aN.cell rfl) (by rw [Addr.add_lit]; exact aN.cell rfl) (by omega) HB3.out.size ?_
     intro A9 c9 W6 HO9 HG
     simp only [Act.put, List.setIfInBounds_toArray, List.set_cons_zero, List.set_cons_succ]
     have HB6 := Lib.hid (HB3.out.grown HG.out HB3.out.size (fun k hk => (World.ownsRow.lt (by have := HO3.out; unfold OwnT at this; rw [HL.out.2.2] at this; exact this) k hk).1))
     have TK3 := And.intro (cellB HB6.out hg HD.out.1) (And.intro (cellB HB6.out hg HD.out.2.1) (cellB HB6.out hg HD.out.2.2))
     refine hK.out _ _ (fun _ => HeldS.mk' TK3) ?_
     clear hK K HG HO3 HB3 aN TK3
     refine wpAnyU_ready (rs := [8]) (by kernel_rfl) (by simp) ?_
     refine AllReadyU.cons rfl (fun K hK => ?_) (AllReadyU.nil)
     go_simp
     refine hK.out _ _ (fun h => late_no h (by kernel_rfl)) ?_
     clear hK K
     refine wpAnyU_ready (rs := [9]) (by kernel_rfl) (by simp) ?_
     refine AllReadyU.cons rfl (fun K hK => ?_) (AllReadyU.nil)
     go_simp
     refine hK.out _ _ (fun h => late_no h (by kernel_rfl)) ?_
     clear hK K
     refine wpAnyU_done (by kernel_rfl) ?_ _
     refine NoPanic.normal ?_
     go_roundw
     case rel => ((repeat apply Exists.intro); refine ⟨?_, rfl⟩); exact ⟨[], S, O ++ [(z1, z2, z3)], A1, _, A9, c1, _, c9, 0, _, k + 1, rfl, rfl, rfl, by omega, by omega, by omega, ⟨rfl, by have := HN1.out; omega, by rw [List.length_append, HL.out.2.2]; rfl⟩, ⟨HEQ.out, HJ.out.r1, (by rw [HM0.out]; exact RdT.nil _ _), HO9.out, HB6.out⟩⟩
     case measure => simp [lenOfV]; omega
    ·have q5 : ¬ (1 = c2) := fun h => hcc h.symm
     refine wpAnyU_run0F [true, true, true, false, false, false, true, true] 5 (by kernel_rfl) (by kernel_rfl) (fun _ _ _ _ h => h) (by kernel_rfl) hHeld ?_
     simp only [runOps_true, runOps_false, runOps_nil]
     repeat (first | go_big_quiet_skip | (go_big_quiet_want; go_big_quiet_op; go_big_quiet_on))
     refine wpQuiet_nil ?_
     refine wpAnyU_run0 [false, false, false, true] 4 (by kernel_rfl) (by kernel_rfl) (fun _ _ _ _ h => h) (by kernel_rfl) hHeld ?_
     simp only [runOps_true, runOps_false, runOps_nil]
     repeat (first | go_big_quiet_skip | (go_big_quiet_want; go_big_quiet_op; go_big_quiet_on))
     refine wpQuiet_nil ?_
     clear hfar1 hfar2 hfar3 hne hneF
     have bAl : Below W3.heap.size W3 (W3.alloc (.cells #[.int .i64 z1, .int .u64 z2, .int .u64 z3] 230)) := (Below.refl _ _).alloc (Nat.le_refl _) _
     have aN := At.new W3 #[.int .i64 z1, .int .u64 z2, .int .u64 z3] 230
     have HO3 := Lib.hid (HOX.out.below bAl)
     have HB3 := Lib.hid (HBX.out.trans (bAl.mono HBX.out.size))
     have TK2 := And.intro (cellB HB3.out hg HD.out.1) (And.intro (cellB HB3.out hg HD.out.2.1) (cellB HB3.out hg HD.out.2.2))
     refine wpAnyU_ready (rs := [4]) (by kernel_rfl) (by simp) ?_
     refine AllReadyU.cons rfl (fun K hK => ?_) (AllReadyU.nil)
     go_simp
     go_wp2
     refine hK.out _ _ (fun _ => HeldS.mk' TK2) ?_
     clear hK K bAl TK2 hHeld TK HOX HBX
     obtain ⟨nB, hnB⟩ : ∃ e, W3.heap.size = e := ⟨_, rfl⟩
     generalize W3.alloc (.cells #[.int .i64 z1, .int .u64 z2, .int .u64 z3] 230) = W5 at HO3 HB3 aN ⊢
     simp only [hnB] at aN ⊢
     clear hnB
     refine wpAnyU_ready (rs := [5]) (by kernel_rfl) (by simp) ?_
     refine AllReadyU.cons rfl (fun K hK => ?_) (AllReadyU.nil)
     refine ite_of rfl ?_
     refine opwp_append_tup _ _ rfl w2.heap.size A' c' k O rfl HL.out.2.2 HO3.out ⟨nB, 0, none⟩ 1 (z1, z2, z3) rfl (by rw [Addr.add_lit]; exact aN.cell rfl) (by rw [Addr.add_lit]; exact aN.cell rfl) (by rw [Addr.add_lit]; exact aN.cell rfl) (by omega) HB3.out.size ?_
     intro A9 c9 W6 HO9 HG
     simp only [Act.put, List.setIfInBounds_toArray, List.set_cons_zero, List.set_cons_succ]
     have HB6 := Lib.hid (HB3.out.grown HG.out HB3.out.size (fun k hk => (World.ownsRow.lt (by have := HO3.out; unfold OwnT at this; rw [HL.out.2.2] at this; exact this) k hk).1))
     have TK3 := And.intro (cellB HB6.out hg HD.out.1) (And.intro (cellB HB6.out hg HD.out.2.1) (cellB HB6.out hg HD.out.2.2))
     refine hK.out _ _ (fun _ => HeldS.mk' TK3) ?_
     clear hK K HG HO3 HB3 aN TK3
     refine wpAnyU_ready (rs := [8]) (by kernel_rfl) (by simp) ?_
     refine AllReadyU.cons rfl (fun K hK => ?_) (AllReadyU.nil)
     go_simp
     refine hK.out _ _ (fun h => late_no h (by kernel_rfl)) ?_
     clear hK K
     refine wpAnyU_ready (rs := [9]) (by kernel_rfl) (by simp) ?_
     refine AllReadyU.cons rfl (fun K hK => ?_) (AllReadyU.nil)
     go_simp
     refine hK.out _ _ (fun h => late_no h (by kernel_rfl)) ?_
     clear hK K
     refine wpAnyU_done (by kernel_rfl) ?_ _
     refine NoPanic.normal ?_
     go_roundw
     case rel => ((repeat apply Exists.intro); refine ⟨?_, rfl⟩); exact ⟨[], S, O ++ [(z1, z2, z3)], A1, _, A9, c1, _, c9, 0, _, k + 1, rfl, rfl, rfl, by omega, by omega, by omega, ⟨rfl, by have := HN1.out; omega, by rw [List.length_append, HL.out.2.2]; rfl⟩, ⟨HEQ.out, HJ.out.r1, (RdT.tail HJ.out.r2), HO9.out, HB6.out⟩⟩
     case measure => simp [lenOfV]; omega
  ·rcases S with _ | ⟨q, S⟩
   ·obtain rfl : n2 = 0 := by have := HL.out.2.1; simp at this; omega
    have HN1 : Hid (n1 = F.length + 1) := by have := HL.out.1; simp at this; exact this.symm
    have j1 : (0 : Int) < n1 := by have := HN1.out; omega
    have j1' : ((n1 : Int) == 0) = false := beq_eq_false_iff_ne.2 (by omega)
    obtain ⟨g, o, rfl, hg, d1, d2, d3⟩ := RdT.head HJ.out.r1
    obtain ⟨z1, z2, z3⟩ := p
    dsimp only at d1 d2 d3
    have HEQ : Hid (mergeR (partA ps qs) (partB qs ps) = (O ++ [(z1, z2, z3)]) ++ mergeR (F) ([])) := by show _ = _; rw [HJ.out.eq, mergeR_nil_right, mergeR_nil_right, List.append_assoc]; rfl
    have e1 := cellB HJ.out.bl hg d1
    have e2 := cellB HJ.out.bl hg d2
    have e3 := cellB HJ.out.bl hg d3
    have gW : g < wr.heap.size := Nat.lt_of_lt_of_le hg HJ.out.bl.size
    have hfa1 := fun x : Far wr => x.cell gW e1
    have HD := Lib.hid (And.intro d1 (And.intro d2 d3))
    clear d1 d2 d3
    go_wp2
    refine wp_region_far (by kernel_rfl) (by kernel_rfl) ?_
    repeat (first | go_big_quiet_skip | (go_big_quiet_want; go_big_quiet_op; first | go_big_quiet_on | (apply Exists.intro; refine ⟨fun _ => ?_, ?_⟩; (focus (first | fail)); go_big_quiet_on)))
    refine wpQuiet_nil ?_
    rintro _ ⟨xq, rfl⟩
    clear hfa1
    go_wp2
    obtain ⟨W1, hW1⟩ : ∃ W1, xq.far = W1 := ⟨_, rfl⟩
    have bX : Below wr.heap.size wr W1.drew := by rw [← hW1]; exact (Far.below xq).drew
    rw [hW1]
    clear hW1 xq
    have TK : W1.drew.cell? ⟨g, o, none⟩ = some (.int .i64 z1) ∧ W1.drew.cell? ⟨g, o + 1, none⟩ = some (.int .u64 z2) ∧ W1.drew.cell? ⟨g, o + 2, none⟩ = some (.int .u64 z3) := ⟨cellB bX gW e1, cellB bX gW e2, cellB bX gW e3⟩
    clear e1 e2 e3 gW
    refine wp_region_noPanic ?_
    refine wp_region_until (S := HeldS fun W' => W'.cell? ⟨g, o, none⟩ = some (.int .i64 z1) ∧ W'.cell? ⟨g, o + 1, none⟩ = some (.int .u64 z2) ∧ W'.cell? ⟨g, o + 2, none⟩ = some (.int .u64 z3)) 8 (by kernel_rfl) ?_
    obtain ⟨W3, hW3⟩ : ∃ W3, W1.drew = W3 := ⟨_, rfl⟩
    rw [hW3] at TK bX ⊢
    have hHeld : HeldS (fun W' => W'.cell? ⟨g, o, none⟩ = some (.int .i64 z1) ∧ W'.cell? ⟨g, o + 1, none⟩ = some (.int .u64 z2) ∧ W'.cell? ⟨g, o + 2, none⟩ = some (.int .u64 z3)) W3 := HeldS.mk' TK
    have hne : Nonempty (Held fun W' => W'.cell? ⟨g, o, none⟩ = some (.int .i64 z1) ∧ W'.cell? ⟨g, o + 1, none⟩ = some (.int .u64 z2) ∧ W'.cell? ⟨g, o + 2, none⟩ = some (.int .u64 z3)) := ⟨⟨W3, TK⟩⟩
    have hneF : Nonempty (Held fun _ => True) := ⟨⟨W3, trivial⟩⟩
    have hfar1 := fun z : Held (fun W' => W'.cell? ⟨g, o, none⟩ = some (.int .i64 z1) ∧ W'.cell? ⟨g, o + 1, none⟩ = some (.int .u64 z2) ∧ W'.cell? ⟨g, o + 2, none⟩ = some (.int .u64 z3)) => z.held.1
    have hfar2 := fun z : Held (fun W' => W'.cell? ⟨g, o, none⟩ = some (.int .i64 z1) ∧ W'.cell? ⟨g, o + 1, none⟩ = some (.int .u64 z2) ∧ W'.cell? ⟨g, o + 2, none⟩ = some (.int .u64 z3)) => z.held.2.1
    have hfar3 := fun z : Held (fun W' => W'.cell? ⟨g, o, none⟩ = some (.int .i64 z1) ∧ W'.cell? ⟨g, o + 1, none⟩ = some (.int .u64 z2) ∧ W'.cell? ⟨g, o + 2, none⟩ = some (.int .u64 z3)) => z.held.2.2
    clear hW3
    have q1 : 1 ≤ n1 := by omega
    have q1' : (1 : Int) ≤ n1 := by omega
    have q2 : 1 ≤ c1 := by omega
    have q3 : n1 ≤ c1 := hc1
    have HOX := Lib.hid (HJ.out.own.below bX)
    have HBX := Lib.hid (HJ.out.bl.trans (bX.mono HJ.out.bl.size))
    clear bX
    by_cases hcc : c1 = 1
    ·have q4 : n1 = 1 := by omega
     have HM0 : Hid (F = []) := List.eq_nil_of_length_eq_zero (by have := HN1.out; omega)
     refine wpAnyU_run0F [true, true, true, false, false, false, true, true] 5 (by kernel_rfl) (by kernel_rfl) (fun _ _ _ _ h => h) (by kernel_rfl) hHeld ?_
     simp only [runOps_true, runOps_false, runOps_nil]
     repeat (first | go_big_quiet_skip | (go_big_quiet_want; go_big_quiet_op; go_big_quiet_on))
     refine wpQuiet_nil ?_
     refine wpAnyU_run0 [false, false, false, true] 4 (by kernel_rfl) (by kernel_rfl) (fun _ _ _ _ h => h) (by kernel_rfl) hHeld ?_
     simp only [runOps_true, runOps_false, runOps_nil]
     repeat (first | go_big_quiet_skip | (go_big_quiet_want; go_big_quiet_op; go_big_quiet_on))
     refine wpQuiet_nil ?_
     clear hfar1 hfar2 hfar3 hne hneF
     have bAl : Below W3.heap.size W3 (W3.alloc (.cells #[.int .i64 z1, .int .u64 z2, .int .u64 z3] 230)) := (Below.refl _ _).alloc (Nat.le_refl _) _
     have aN := At.new W3 #[.int .i64 z1, .int .u64 z2, .int .u64 z3] 230
     have HO3 := Lib.hid (HOX.out.below bAl)
     have HB3 := Lib.hid (HBX.out.trans (bAl.mono HBX.out.size))
     have TK2 := And.intro (cellB HB3.out hg HD.out.1) (And.intro (cellB HB3.out hg HD.out.2.1) (cellB HB3.out hg HD.out.2.2))
     refine wpAnyU_ready (rs := [4]) (by kernel_rfl) (by simp) ?_
     refine AllReadyU.cons rfl (fun K hK => ?_) (AllReadyU.nil)
     go_simp
     go_wp2
     refine hK.out _ _ (fun _ => HeldS.mk' TK2) ?_
     clear hK K bAl TK2 hHeld TK HOX HBX
     obtain ⟨nB, hnB⟩ : ∃ e, W3.heap.size = e := ⟨_, rfl⟩
     generalize W3.alloc (.cells #[.int .i64 z1, .int .u64 z2, .int .u64 z3] 230) = W5 at HO3 HB3 aN ⊢
     simp only [hnB] at aN ⊢
     clear hnB
     refine wpAnyU_ready (rs := [5]) (by kernel_rfl) (by simp) ?_
     refine AllReadyU.cons rfl (fun K hK => ?_) (AllReadyU.nil)
     refine ite_of rfl ?_
     refine opwp_append_tup _ _ rfl w2.heap.size A' c' k O rfl HL.out.2.2 HO3.out ⟨nB, 0, none⟩ 1 (z1, z2, z3) rfl (by rw [Addr.add_lit]; exact aN.cell rfl) (by rw [Addr.add_lit]; exact aN.cell rfl) (by rw [Addr.add_lit]; exact aN.cell rfl) (by omega) HB3.out.size ?_
     intro A9 c9 W6 HO9 HG
     simp only [Act.put, List.setIfInBounds_toArray, List.set_cons_zero, List.set_cons_succ]
     have HB6 := Lib.hid (HB3.out.grown HG.out HB3.out.size (fun k hk => (World.ownsRow.lt (by have := HO3.out; unfold OwnT at this; rw [HL.out.2.2] at this; exact this) k hk).1))
     have TK3 := And.intro (cellB HB6.out hg HD.out.1) (And.intro (cellB HB6.out hg HD.out.2.1) (cellB HB6.out hg HD.out.2.2))
     refine hK.out _ _ (fun _ => HeldS.mk' TK3) ?_
     clear hK K HG HO3 HB3 aN TK3
     refine wpAnyU_ready (rs := [8]) (by kernel_rfl) (by simp) ?_
     refine AllReadyU.cons rfl (fun K hK => ?_) (AllReadyU.nil)
     go_simp
     refine hK.out _ _ (fun h => late_no h (by kernel_rfl)) ?_
     clear hK K
     refine wpAnyU_ready (rs := [9]) (by kernel_rfl) (by simp) ?_
     refine AllReadyU.cons rfl (fun K hK => ?_) (AllReadyU.nil)
     go_simp
     refine hK.out _ _ (fun h => late_no h (by kernel_rfl)) ?_
     clear hK K
     refine wpAnyU_done (by kernel_rfl) ?_ _
     refine NoPanic.normal ?_
     go_roundw
     case rel => ((repeat apply Exists.intro); refine ⟨?_, rfl⟩); exact ⟨F, [], O ++ [(z1, z2, z3)], _, A2, A9, _, c2, c9, _, 0, k + 1, rfl, rfl, rfl, by omega, by omega, by omega, ⟨by have := HN1.out; omega, rfl, by rw [List.length_append, HL.out.2.2]; rfl⟩, ⟨HEQ.out, (by rw [HM0.out]; exact RdT.nil _ _), HJ.out.r2, HO9.out, HB6.out⟩⟩
     case measure => simp [lenOfV]; omega
    ·have q5 : ¬ (1 = c1) := fun h => hcc h.symm
     refine wpAnyU_run0F [true, true, true, false, false, false, true, true] 5 (by kernel_rfl) (by kernel_rfl) (fun _ _ _ _ h => h) (by kernel_rfl) hHeld ?_
     simp only [runOps_true, runOps_false, runOps_nil]
     repeat (first | go_big_quiet_skip | (go_big_quiet_want; go_big_quiet_op; go_big_quiet_on))
     refine wpQuiet_nil ?_
     refine wpAnyU_run0 [false, false, false, true] 4 (by kernel_rfl) (by kernel_rfl) (fun _ _ _ _ h => h) (by kernel_rfl) hHeld ?_
     simp only [runOps_true, runOps_false, runOps_nil]
     repeat (first | go_big_quiet_skip | (go_big_quiet_want; go_big_quiet_op; go_big_quiet_on))
     refine wpQuiet_nil ?_
     clear hfar1 hfar2 hfar3 hne hneF
     have bAl : Below W3.heap.size W3 (W3.alloc (.cells #[.int .i64 z1, .int .u64 z2, .int .u64 z3] 230)) := (Below.refl _ _).alloc (Nat.le_refl _) _
     have aN := At.new W3 #[.int .i64 z1, .int .u64 z2, .int .u64 z3] 230
     have HO3 := Lib.hid (HOX.out.below bAl)
     have HB3 := Lib.hid (HBX.out.trans (bAl.mono HBX.out.size))
     have TK2 := And.intro (cellB HB3.out hg HD.out.1) (And.intro (cellB HB3.out hg HD.out.2.1) (cellB HB3.out hg HD.out.2.2))
     refine wpAnyU_ready (rs := [4]) (by kernel_rfl) (by simp) ?_
     refine AllReadyU.cons rfl (fun K hK => ?_) (AllReadyU.nil)
     go_simp
     go_wp2
     refine hK.out _ _ (fun _ => HeldS.mk' TK2) ?_
     clear hK K bAl TK2 hHeld TK HOX HBX
     obtain ⟨nB, hnB⟩ : ∃ e, W3.heap.size = e := ⟨_, rfl⟩
     generalize W3.alloc (.cells #[.int .i64 z1, .int .u64 z2, .int .u64 z3] 230) = W5 at HO3 HB3 aN ⊢
     simp only [hnB] at aN ⊢
     clear hnB
     refine wpAnyU_ready (rs := [5]) (by kernel_rfl) (by simp) ?_
     refine AllReadyU.cons rfl (fun K hK => ?_) (AllReadyU.nil)
     refine ite_of rfl ?_
     refine opwp_append_tup _ _ rfl w2.heap.size A' c' k O rfl HL.out.2.2 HO3.out ⟨nB, 0, none⟩ 1 (z1, z2, z3) rfl (by rw [Addr.add_lit]; exact aN.cell rfl) (by rw [Addr.add_lit]; exact aN.cell rfl) (by rw [Addr.add_lit]; exact aN.cell rfl) (by omega) HB3.out.size ?_
     intro A9 c9 W6 HO9 HG
     simp only [Act.put, List.setIfInBounds_toArray, List.set_cons_zero, List.set_cons_succ]
     have HB6 := Lib.hid (HB3.out.grown HG.out HB3.out.size (fun k hk => (World.ownsRow.lt (by have := HO3.out; unfold OwnT at this; rw [HL.out.2.2] at this; exact this) k hk).1))
     have TK3 := And.intro (cellB HB6.out hg HD.out.1) (And.intro (cellB HB6.out hg HD.out.2.1) (cellB HB6.out hg HD.out.2.2))
     refine hK.out _ _ (fun _ => HeldS.mk' TK3) ?_
     clear hK K HG HO3 HB3 aN TK3
     refine wpAnyU_ready (rs := [8]) (by kernel_rfl) (by simp) ?_
     refine AllReadyU.cons rfl (fun K hK => ?_) (AllReadyU.nil)
     go_simp
     refine hK.out _ _ (fun h => late_no h (by kernel_rfl)) ?_
     clear hK K
     refine wpAnyU_ready (rs := [9]) (by kernel_rfl) (by simp) ?_
     refine AllReadyU.cons rfl (fun K hK => ?_) (AllReadyU.nil)
     go_simp
     refine hK.out _ _ (fun h => late_no h (by kernel_rfl)) ?_
     clear hK K
     refine wpAnyU_done (by kernel_rfl) ?_ _
     refine NoPanic.normal ?_
     go_roundw
     case rel => ((repeat apply Exists.intro); refine ⟨?_, rfl⟩); exact ⟨F, [], O ++ [(z1, z2, z3)], _, A2, A9, _, c2, c9, _, 0, k + 1, rfl, rfl, rfl, by omega, by omega, by omega, ⟨by have := HN1.out; omega, rfl, by rw [List.length_append, HL.out.2.2]; rfl⟩, ⟨HEQ.out, (RdT.tail HJ.out.r1), HJ.out.r2, HO9.out, HB6.out⟩⟩
     case measure => simp [lenOfV]; omega
   ·by_cases hpq : p.1 ≤ q.1
    ·skip
     have HN1 : Hid (n1 = F.length + 1) := by have := HL.out.1; simp at this; exact this.symm
     have j1 : (0 : Int) < n1 := by have := HN1.out; omega
     have j1' : ((n1 : Int) == 0) = false := beq_eq_false_iff_ne.2 (by omega)
     have j3 : decide (0 < n1) = true := decide_eq_true (by omega)
     have HN2 : Hid (n2 = S.length + 1) := by have := HL.out.2.1; simp at this; exact this.symm
     have j2 : (0 : Int) < n2 := by have := HN2.out; omega
     have j2' : ((n2 : Int) == 0) = false := beq_eq_false_iff_ne.2 (by omega)
     have j4 : decide (0 < n2) = true := decide_eq_true (by omega)
     obtain ⟨g', o', rfl, hg', t1, _, _⟩ := RdT.head HJ.out.r2
     obtain ⟨g, o, rfl, hg, d1, d2, d3⟩ := RdT.head HJ.out.r1
     obtain ⟨z1, z2, z3⟩ := p
     obtain ⟨y1, y2, y3⟩ := q
     dsimp only at d1 d2 d3 t1 hpq
     have HEQ : Hid (mergeR (partA ps qs) (partB qs ps) = (O ++ [(z1, z2, z3)]) ++ mergeR (F) ((y1, y2, y3) :: S)) := by show _ = _; rw [HJ.out.eq, mergeR_left hpq, List.append_assoc]; rfl
     have e1 := cellB HJ.out.bl hg d1
     have e2 := cellB HJ.out.bl hg d2
     have e3 := cellB HJ.out.bl hg d3
     have gW : g < wr.heap.size := Nat.lt_of_lt_of_le hg HJ.out.bl.size
     have hfa1 := fun x : Far wr => x.cell gW e1
     have gW' : g' < wr.heap.size := Nat.lt_of_lt_of_le hg' HJ.out.bl.size
     have hfa2 := fun x : Far wr => x.cell gW' (cellB HJ.out.bl hg' t1)
     have HD := Lib.hid (And.intro d1 (And.intro d2 d3))
     clear d1 d2 d3 t1
     go_wp2
     refine wp_region_far (by kernel_rfl) (by kernel_rfl) ?_
     repeat (first | go_big_quiet_skip | (go_big_quiet_want; go_big_quiet_op; first | go_big_quiet_on | (apply Exists.intro; refine ⟨fun _ => ?_, ?_⟩; (focus (first | fail)); go_big_quiet_on)))
     refine wpQuiet_nil ?_
     rintro _ ⟨xq, rfl⟩
     clear hfa1 hfa2
     go_wp2
     obtain ⟨W1, hW1⟩ : ∃ W1, xq.far = W1 := ⟨_, rfl⟩
     have bX : Below wr.heap.size wr W1.drew := by rw [← hW1]; exact (Far.below xq).drew
     rw [hW1]
     clear hW1 xq
     have TK : W1.drew.cell? ⟨g, o, none⟩ = some (.int .i64 z1) ∧ W1.drew.cell? ⟨g, o + 1, none⟩ = some (.int .u64 z2) ∧ W1.drew.cell? ⟨g, o + 2, none⟩ = some (.int .u64 z3) := ⟨cellB bX gW e1, cellB bX gW e2, cellB bX gW e3⟩
     clear e1 e2 e3 gW
     refine wp_region_noPanic ?_
     refine wp_region_until (S := HeldS fun W' => W'.cell? ⟨g, o, none⟩ = some (.int .i64 z1) ∧ W'.cell? ⟨g, o + 1, none⟩ = some (.int .u64 z2) ∧ W'.cell? ⟨g, o + 2, none⟩ = some (.int .u64 z3)) 8 (by kernel_rfl) ?_
     obtain ⟨W3, hW3⟩ : ∃ W3, W1.drew = W3 := ⟨_, rfl⟩
     rw [hW3] at TK bX ⊢
     have hHeld : HeldS (fun W' => W'.cell? ⟨g, o, none⟩ = some (.int .i64 z1) ∧ W'.cell? ⟨g, o + 1, none⟩ = some (.int .u64 z2) ∧ W'.cell? ⟨g, o + 2, none⟩ = some (.int .u64 z3)) W3 := HeldS.mk' TK
     have hne : Nonempty (Held fun W' => W'.cell? ⟨g, o, none⟩ = some (.int .i64 z1) ∧ W'.cell? ⟨g, o + 1, none⟩ = some (.int .u64 z2) ∧ W'.cell? ⟨g, o + 2, none⟩ = some (.int .u64 z3)) := ⟨⟨W3, TK⟩⟩
     have hneF : Nonempty (Held fun _ => True) := ⟨⟨W3, trivial⟩⟩
     have hfar1 := fun z : Held (fun W' => W'.cell? ⟨g, o, none⟩ = some (.int .i64 z1) ∧ W'.cell? ⟨g, o + 1, none⟩ = some (.int .u64 z2) ∧ W'.cell? ⟨g, o + 2, none⟩ = some (.int .u64 z3)) => z.held.1
     have hfar2 := fun z : Held (fun W' => W'.cell? ⟨g, o, none⟩ = some (.int .i64 z1) ∧ W'.cell? ⟨g, o + 1, none⟩ = some (.int .u64 z2) ∧ W'.cell? ⟨g, o + 2, none⟩ = some (.int .u64 z3)) => z.held.2.1
     have hfar3 := fun z : Held (fun W' => W'.cell? ⟨g, o, none⟩ = some (.int .i64 z1) ∧ W'.cell? ⟨g, o + 1, none⟩ = some (.int .u64 z2) ∧ W'.cell? ⟨g, o + 2, none⟩ = some (.int .u64 z3)) => z.held.2.2
     clear hW3
     have q1 : 1 ≤ n1 := by omega
     have q1' : (1 : Int) ≤ n1 := by omega
     have q2 : 1 ≤ c1 := by omega
     have q3 : n1 ≤ c1 := hc1
     have HOX := Lib.hid (HJ.out.own.below bX)
     have HBX := Lib.hid (HJ.out.bl.trans (bX.mono HJ.out.bl.size))
     clear bX
     by_cases hcc : c1 = 1
     ·have q4 : n1 = 1 := by omega
      have HM0 : Hid (F = []) := List.eq_nil_of_length_eq_zero (by have := HN1.out; omega)
      refine wpAnyU_run0F [true, true, true, false, false, false, true, true] 5 (by kernel_rfl) (by kernel_rfl) (fun _ _ _ _ h => h) (by kernel_rfl) hHeld ?_
      simp only [runOps_true, runOps_false, runOps_nil]
      repeat (first | go_big_quiet_skip | (go_big_quiet_want; go_big_quiet_op; go_big_quiet_on))
      refine wpQuiet_nil ?_
      refine wpAnyU_run0 [false, false, false, true] 4 (by kernel_rfl) (by kernel_rfl) (fun _ _ _ _ h => h) (by kernel_rfl) hHeld ?_
      simp only [runOps_true, runOps_false, runOps_nil]
      repeat (first | go_big_quiet_skip | (go_big_quiet_want; go_big_quiet_op; go_big_quiet_on))
      refine wpQuiet_nil ?_
      clear hfar1 hfar2 hfar3 hne hneF
      have bAl : Below W3.heap.size W3 (W3.alloc (.cells #[.int .i64 z1, .int .u64 z2, .int .u64 z3] 230)) := (Below.refl _ _).alloc (Nat.le_refl _) _
      have aN := At.new W3 #[.int .i64 z1, .int .u64 z2, .int .u64 z3] 230
      have HO3 := Lib.hid (HOX.out.below bAl)
      have HB3 := Lib.hid (HBX.out.trans (bAl.mono HBX.out.size))
      have TK2 := And.intro (cellB HB3.out hg HD.out.1) (And.intro (cellB HB3.out hg HD.out.2.1) (cellB HB3.out hg HD.out.2.2))
      refine wpAnyU_ready (rs := [4]) (by kernel_rfl) (by simp) ?_
      refine AllReadyU.cons rfl (fun K hK => ?_) (AllReadyU.nil)
      go_simp
      go_wp2
      refine hK.out _ _ (fun _ => HeldS.mk' TK2) ?_
      clear hK K bAl TK2 hHeld TK HOX HBX
      obtain ⟨nB, hnB⟩ : ∃ e, W3.heap.size = e := ⟨_, rfl⟩
      generalize W3.alloc (.cells #[.int .i64 z1, .int .u64 z2, .int .u64 z3] 230) = W5 at HO3 HB3 aN ⊢
      simp only [hnB] at aN ⊢
      clear hnB
      refine wpAnyU_ready (rs := [5]) (by kernel_rfl) (by simp) ?_
      refine AllReadyU.cons rfl (fun K hK => ?_) (AllReadyU.nil)
      refine ite_of rfl ?_
      refine opwp_append_tup _ _ rfl w2.heap.size A' c' k O rfl HL.out.2.2 HO3.out ⟨nB, 0, none⟩ 1 (z1, z2, z3) rfl (by rw [Addr.add_lit]; exact aN.cell rfl) (by rw [Addr.add_lit]; exact aN.cell rfl) (by rw [Addr.add_lit]; exact aN.cell rfl) (by omega) HB3.out.size ?_
      intro A9 c9 W6 HO9 HG
      simp only [Act.put, List.setIfInBounds_toArray, List.set_cons_zero, List.set_cons_succ]
      have HB6 := Lib.hid (HB3.out.grown HG.out HB3.out.size (fun k hk => (World.ownsRow.lt (by have := HO3.out; unfold OwnT at this; rw [HL.out.2.2] at this; exact this) k hk).1))
      have TK3 := And.intro (cellB HB6.out hg HD.out.1) (And.intro (cellB HB6.out hg HD.out.2.1) (cellB HB6.out hg HD.out.2.2))
      refine hK.out _ _ (fun _ => HeldS.mk' TK3) ?_
      clear hK K HG HO3 HB3 aN TK3
      refine wpAnyU_ready (rs := [8]) (by kernel_rfl) (by simp) ?_
      refine AllReadyU.cons rfl (fun K hK => ?_) (AllReadyU.nil)
      go_simp
      refine hK.out _ _ (fun h => late_no h (by kernel_rfl)) ?_
      clear hK K
      refine wpAnyU_ready (rs := [9]) (by kernel_rfl) (by simp) ?_
      refine AllReadyU.cons rfl (fun K hK => ?_) (AllReadyU.nil)
      go_simp
      refine hK.out _ _ (fun h => late_no h (by kernel_rfl)) ?_
      clear hK K
      refine wpAnyU_done (by kernel_rfl) ?_ _
      refine NoPanic.normal ?_
      go_roundw
      case rel => ((repeat apply Exists.intro); refine ⟨?_, rfl⟩); exact ⟨F, (y1, y2, y3) :: S, O ++ [(z1, z2, z3)], _, some ⟨g', o', none⟩, A9, _, c2, c9, _, n2, k + 1, rfl, rfl, rfl, by omega, by omega, by omega, ⟨by have := HN1.out; omega, HL.out.2.1, by rw [List.length_append, HL.out.2.2]; rfl⟩, ⟨HEQ.out, (by rw [HM0.out]; exact RdT.nil _ _), HJ.out.r2, HO9.out, HB6.out⟩⟩
      case measure => simp [lenOfV]; omega
     ·have q5 : ¬ (1 = c1) := fun h => hcc h.symm
      refine wpAnyU_run0F [true, true, true, false, false, false, true, true] 5 (by kernel_rfl) (by kernel_rfl) (fun _ _ _ _ h => h) (by kernel_rfl) hHeld ?_
      simp only [runOps_true, runOps_false, runOps_nil]
      repeat (first | go_big_quiet_skip | (go_big_quiet_want; go_big_quiet_op; go_big_quiet_on))
      refine wpQuiet_nil ?_
      refine wpAnyU_run0 [false, false, false, true] 4 (by kernel_rfl) (by kernel_rfl) (fun _ _ _ _ h => h) (by kernel_rfl) hHeld ?_
      simp only [runOps_true, runOps_false, runOps_nil]
      repeat (first | go_big_quiet_skip | (go_big_quiet_want; go_big_quiet_op; go_big_quiet_on))
      refine wpQuiet_nil ?_
      clear hfar1 hfar2 hfar3 hne hneF
      have bAl : Below W3.heap.size W3 (W3.alloc (.cells #[.int .i64 z1, .int .u64 z2, .int .u64 z3] 230)) := (Below.refl _ _).alloc (Nat.le_refl _) _
      have aN := At.new W3 #[.int .i64 z1, .int .u64 z2, .int .u64 z3] 230
      have HO3 := Lib.hid (HOX.out.below bAl)
      have HB3 := Lib.hid (HBX.out.trans (bAl.mono HBX.out.size))
      have TK2 := And.intro (cellB HB3.out hg HD.out.1) (And.intro (cellB HB3.out hg HD.out.2.1) (cellB HB3.out hg HD.out.2.2))
      refine wpAnyU_ready (rs := [4]) (by kernel_rfl) (by simp) ?_
      refine AllReadyU.cons rfl (fun K hK => ?_) (AllReadyU.nil)
      go_simp
      go_wp2
      refine hK.out _ _ (fun _ => HeldS.mk' TK2) ?_
      clear hK K bAl TK2 hHeld TK HOX HBX
      obtain ⟨nB, hnB⟩ : ∃ e, W3.heap.size = e := ⟨_, rfl⟩
      generalize W3.alloc (.cells #[.int .i64 z1, .int .u64 z2, .int .u64 z3] 230) = W5 at HO3 HB3 aN ⊢
      simp only [hnB] at aN ⊢
      clear hnB
      refine wpAnyU_ready (rs := [5]) (by kernel_rfl) (by simp) ?_
      refine AllReadyU.cons rfl (fun K hK => ?_) (AllReadyU.nil)
      refine ite_of rfl ?_
      refine opwp_append_tup _ _ rfl w2.heap.size A' c' k O rfl HL.out.2.2 HO3.out ⟨nB, 0, none⟩ 1 (z1, z2, z3) rfl (by rw [Addr.add_lit]; exact aN.cell rfl) (by rw [Addr.add_lit]; exact aN.cell rfl) (by rw [Addr.add_lit]; exact aN.cell rfl) (by omega) HB3.out.size ?_
      intro A9 c9 W6 HO9 HG
      simp only [Act.put, List.setIfInBounds_toArray, List.set_cons_zero, List.set_cons_succ]
      have HB6 := Lib.hid (HB3.out.grown HG.out HB3.out.size (fun k hk => (World.ownsRow.lt (by have := HO3.out; unfold OwnT at this; rw [HL.out.2.2] at this; exact this) k hk).1))
      have TK3 := And.intro (cellB HB6.out hg HD.out.1) (And.intro (cellB HB6.out hg HD.out.2.1) (cellB HB6.out hg HD.out.2.2))
      refine hK.out _ _ (fun _ => HeldS.mk' TK3) ?_
      clear hK K HG HO3 HB3 aN TK3
      refine wpAnyU_ready (rs := [8]) (by kernel_rfl) (by simp) ?_
      refine AllReadyU.cons rfl (fun K hK => ?_) (AllReadyU.nil)
      go_simp
      refine hK.out _ _ (fun h => late_no h (by kernel_rfl)) ?_
      clear hK K
      refine wpAnyU_ready (rs := [9]) (by kernel_rfl) (by simp) ?_
      refine AllReadyU.cons rfl (fun K hK => ?_) (AllReadyU.nil)
      go_simp
      refine hK.out _ _ (fun h => late_no h (by kernel_rfl)) ?_
      clear hK K
      refine wpAnyU_done (by kernel_rfl) ?_ _
      refine NoPanic.normal ?_
      go_roundw
      case rel => ((repeat apply Exists.intro); refine ⟨?_, rfl⟩); exact ⟨F, (y1, y2, y3) :: S, O ++ [(z1, z2, z3)], _, some ⟨g', o', none⟩, A9, _, c2, c9, _, n2, k + 1, rfl, rfl, rfl, by omega, by omega, by omega, ⟨by have := HN1.out; omega, HL.out.2.1, by rw [List.length_append, HL.out.2.2]; rfl⟩, ⟨HEQ.out, (RdT.tail HJ.out.r1), HJ.out.r2, HO9.out, HB6.out⟩⟩
      case measure => simp [lenOfV]; omega
    ·skip
     have HN1 : Hid (n2 = S.length + 1) := by have := HL.out.2.1; simp at this; exact this.symm
     have j1 : (0 : Int) < n2 := by have := HN1.out; omega
     have j1' : ((n2 : Int) == 0) = false := beq_eq_false_iff_ne.2 (by omega)
     have j3 : decide (0 < n2) = true := decide_eq_true (by omega)
     have HN2 : Hid (n1 = F.length + 1) := by have := HL.out.1; simp at this; exact this.symm
     have j2 : (0 : Int) < n1 := by have := HN2.out; omega
     have j2' : ((n1 : Int) == 0) = false := beq_eq_false_iff_ne.2 (by omega)
     have j4 : decide (0 < n1) = true := decide_eq_true (by omega)
     obtain ⟨g', o', rfl, hg', t1, _, _⟩ := RdT.head HJ.out.r1
     obtain ⟨g, o, rfl, hg, d1, d2, d3⟩ := RdT.head HJ.out.r2
     obtain ⟨z1, z2, z3⟩ := q
     obtain ⟨y1, y2, y3⟩ := p
     dsimp only at d1 d2 d3 t1 hpq
     have HEQ : Hid (mergeR (partA ps qs) (partB qs ps) = (O ++ [(z1, z2, z3)]) ++ mergeR ((y1, y2, y3) :: F) (S)) := by show _ = _; rw [HJ.out.eq, mergeR_right hpq, List.append_assoc]; rfl
     have e1 := cellB HJ.out.bl hg d1
     have e2 := cellB HJ.out.bl hg d2
     have e3 := cellB HJ.out.bl hg d3
     have gW : g < wr.heap.size := Nat.lt_of_lt_of_le hg HJ.out.bl.size
     have hfa1 := fun x : Far wr => x.cell gW e1
     have gW' : g' < wr.heap.size := Nat.lt_of_lt_of_le hg' HJ.out.bl.size
     have hfa2 := fun x : Far wr => x.cell gW' (cellB HJ.out.bl hg' t1)
     have HD := Lib.hid (And.intro d1 (And.intro d2 d3))
     clear d1 d2 d3 t1
     go_wp2
     refine wp_region_far (by kernel_rfl) (by kernel_rfl) ?_
     repeat (first | go_big_quiet_skip | (go_big_quiet_want; go_big_quiet_op; first | go_big_quiet_on | (apply Exists.intro; refine ⟨fun _ => ?_, ?_⟩; (focus (first | fail)); go_big_quiet_on)))
     refine wpQuiet_nil ?_
     rintro _ ⟨xq, rfl⟩
     clear hfa1 hfa2
     go_wp2
     obtain ⟨W1, hW1⟩ : ∃ W1, xq.far = W1 := ⟨_, rfl⟩
     have bX : Below wr.heap.size wr W1.drew := by rw [← hW1]; exact (Far.below xq).drew
     rw [hW1]
     clear hW1 xq
     have TK : W1.drew.cell? ⟨g, o, none⟩ = some (.int .i64 z1) ∧ W1.drew.cell? ⟨g, o + 1, none⟩ = some (.int .u64 z2) ∧ W1.drew.cell? ⟨g, o + 2, none⟩ = some (.int .u64 z3) := ⟨cellB bX gW e1, cellB bX gW e2, cellB bX gW e3⟩
     clear e1 e2 e3 gW
     refine wp_region_noPanic ?_
     refine wp_region_until (S := HeldS fun W' => W'.cell? ⟨g, o, none⟩ = some (.int .i64 z1) ∧ W'.cell? ⟨g, o + 1, none⟩ = some (.int .u64 z2) ∧ W'.cell? ⟨g, o + 2, none⟩ = some (.int .u64 z3)) 8 (by kernel_rfl) ?_
     obtain ⟨W3, hW3⟩ : ∃ W3, W1.drew = W3 := ⟨_, rfl⟩
     rw [hW3] at TK bX ⊢
     have hHeld : HeldS (fun W' => W'.cell? ⟨g, o, none⟩ = some (.int .i64 z1) ∧ W'.cell? ⟨g, o + 1, none⟩ = some (.int .u64 z2) ∧ W'.cell? ⟨g, o + 2, none⟩ = some (.int .u64 z3)) W3 := HeldS.mk' TK
     have hne : Nonempty (Held fun W' => W'.cell? ⟨g, o, none⟩ = some (.int .i64 z1) ∧ W'.cell? ⟨g, o + 1, none⟩ = some (.int .u64 z2) ∧ W'.cell? ⟨g, o + 2, none⟩ = some (.int .u64 z3)) := ⟨⟨W3, TK⟩⟩
     have hneF : Nonempty (Held fun _ => True) := ⟨⟨W3, trivial⟩⟩
     have hfar1 := fun z : Held (fun W' => W'.cell? ⟨g, o, none⟩ = some (.int .i64 z1) ∧ W'.cell? ⟨g, o + 1, none⟩ = some (.int .u64 z2) ∧ W'.cell? ⟨g, o + 2, none⟩ = some (.int .u64 z3)) => z.held.1
     have hfar2 := fun z : Held (fun W' => W'.cell? ⟨g, o, none⟩ = some (.int .i64 z1) ∧ W'.cell? ⟨g, o + 1, none⟩ = some (.int .u64 z2) ∧ W'.cell? ⟨g, o + 2, none⟩ = some (.int .u64 z3)) => z.held.2.1
     have hfar3 := fun z : Held (fun W' => W'.cell? ⟨g, o, none⟩ = some (.int .i64 z1) ∧ W'.cell? ⟨g, o + 1, none⟩ = some (.int .u64 z2) ∧ W'.cell? ⟨g, o + 2, none⟩ = some (.int .u64 z3)) => z.held.2.2
     clear hW3
     have q1 : 1 ≤ n2 := by omega
     have q1' : (1 : Int) ≤ n2 := by omega
     have q2 : 1 ≤ c2 := by omega
     have q3 : n2 ≤ c2 := hc2
     have HOX := Lib.hid (HJ.out.own.below bX)
     have HBX := Lib.hid (HJ.out.bl.trans (bX.mono HJ.out.bl.size))
     clear bX
     by_cases hcc : c2 = 1
     ·have q4 : n2 = 1 := by omega
      have HM0 : Hid (S = []) := List.eq_nil_of_length_eq_zero (by have := HN1.out; omega)
      refine wpAnyU_run0F [true, true, true, false, false, false, true, true] 5 (by kernel_rfl) (by kernel_rfl) (fun _ _ _ _ h => h) (by kernel_rfl) hHeld ?_
      simp only [runOps_true, runOps_false, runOps_nil]
      repeat (first | go_big_quiet_skip | (go_big_quiet_want; go_big_quiet_op; go_big_quiet_on))
      refine wpQuiet_nil ?_
      refine wpAnyU_run0 [false, false, false, true] 4 (by kernel_rfl) (by kernel_rfl) (fun _ _ _ _ h => h) (by kernel_rfl) hHeld ?_
      simp only [runOps_true, runOps_false, runOps_nil]
      repeat (first | go_big_quiet_skip | (go_big_quiet_want; go_big_quiet_op; go_big_quiet_on))
      refine wpQuiet_nil ?_
      clear hfar1 hfar2 hfar3 hne hneF
      have bAl : Below W3.heap.size W3 (W3.alloc (.cells #[.int .i64 z1, .int .u64 z2, .int .u64 z3] 230)) := (Below.refl _ _).alloc (Nat.le_refl _) _
      have aN := At.new W3 #[.int .i64 z1, .int .u64 z2, .int .u64 z3] 230
      have HO3 := Lib.hid (HOX.out.below bAl)
      have HB3 := Lib.hid (HBX.out.trans (bAl.mono HBX.out.size))
      have TK2 := And.intro (cellB HB3.out hg HD.out.1) (And.intro (cellB HB3.out hg HD.out.2.1) (cellB HB3.out hg HD.out.2.2))
      refine wpAnyU_ready (rs := [4]) (by kernel_rfl) (by simp) ?_
      refine AllReadyU.cons rfl (fun K hK => ?_) (AllReadyU.nil)
      go_simp
      go_wp2
      refine hK.out _ _ (fun _ => HeldS.mk' TK2) ?_
      clear hK K bAl TK2 hHeld TK HOX HBX
      obtain ⟨nB, hnB⟩ : ∃ e, W3.heap.size = e := ⟨_, rfl⟩
      generalize W3.alloc (.cells #[.int .i64 z1, .int .u64 z2, .int .u64 z3] 230) = W5 at HO3 HB3 aN ⊢
      simp only [hnB] at aN ⊢
      clear hnB
      refine wpAnyU_ready (rs := [5]) (by kernel_rfl) (by simp) ?_
      refine AllReadyU.cons rfl (fun K hK => ?_) (AllReadyU.nil)
      refine ite_of rfl ?_
      refine opwp_append_tup _ _ rfl w2.heap.size A' c' k O rfl HL.out.2.2 HO3.out ⟨nB, 0, none⟩ 1 (z1, z2, z3) rfl (by rw [Addr.add_lit]; exact aN.cell rfl) (by rw [Addr.add_lit]; exact aN.cell rfl) (by rw [Addr.add_lit]; exact aN.cell rfl) (by omega) HB3.out.size ?_
      intro A9 c9 W6 HO9 HG
      simp only [Act.put, List.setIfInBounds_toArray, List.set_cons_zero, List.set_cons_succ]
      have HB6 := Lib.hid (HB3.out.grown HG.out HB3.out.size (fun k hk => (World.ownsRow.lt (by have := HO3.out; unfold OwnT at this; rw [HL.out.2.2] at this; exact this) k hk).1))
      have TK3 := And.intro (cellB HB6.out hg HD.out.1) (And.intro (cellB HB6.out hg HD.out.2.1) (cellB HB6.out hg HD.out.2.2))
      refine hK.out _ _ (fun _ => HeldS.mk' TK3) ?_
      clear hK K HG HO3 HB3 aN TK3
      refine wpAnyU_ready (rs := [8]) (by kernel_rfl) (by simp) ?_
      refine AllReadyU.cons rfl (fun K hK => ?_) (AllReadyU.nil)
      go_simp
      refine hK.out _ _ (fun h => late_no h (by kernel_rfl)) ?_
      clear hK K
      refine wpAnyU_ready (rs := [9]) (by kernel_rfl) (by simp) ?_
      refine AllReadyU.cons rfl (fun K hK => ?_) (AllReadyU.nil)
      go_simp
      refine hK.out _ _ (fun h => late_no h (by kernel_rfl)) ?_
      clear hK K
      refine wpAnyU_done (by kernel_rfl) ?_ _
      refine NoPanic.normal ?_
      go_roundw
      case rel => ((repeat apply Exists.intro); refine ⟨?_, rfl⟩); exact ⟨(y1, y2, y3) :: F, S, O ++ [(z1, z2, z3)], some ⟨g', o', none⟩, _, A9, c1, _, c9, n1, _, k + 1, rfl, rfl, rfl, by omega, by omega, by omega, ⟨HL.out.1, by have := HN1.out; omega, by rw [List.length_append, HL.out.2.2]; rfl⟩, ⟨HEQ.out, HJ.out.r1, (by rw [HM0.out]; exact RdT.nil _ _), HO9.out, HB6.out⟩⟩
      case measure => simp [lenOfV]; omega
     ·have q5 : ¬ (1 = c2) := fun h => hcc h.symm
      refine wpAnyU_run0F [true, true, true, false, false, false, true, true] 5 (by kernel_rfl) (by kernel_rfl) (fun _ _ _ _ h => h) (by kernel_rfl) hHeld ?_
      simp only [runOps_true, runOps_false, runOps_nil]
      repeat (first | go_big_quiet_skip | (go_big_quiet_want; go_big_quiet_op; go_big_quiet_on))
      refine wpQuiet_nil ?_
      refine wpAnyU_run0 [false, false, false, true] 4 (by kernel_rfl) (by kernel_rfl) (fun _ _ _ _ h => h) (by kernel_rfl) hHeld ?_
      simp only [runOps_true, runOps_false, runOps_nil]
      repeat (first | go_big_quiet_skip | (go_big_quiet_want; go_big_quiet_op; go_big_quiet_on))
      refine wpQuiet_nil ?_
      clear hfar1 hfar2 hfar3 hne hneF
      have bAl : Below W3.heap.size W3 (W3.alloc (.cells #[.int .i64 z1, .int .u64 z2, .int .u64 z3] 230)) := (Below.refl _ _).alloc (Nat.le_refl _) _
      have aN := At.new W3 #[.int .i64 z1, .int .u64 z2, .int .u64 z3] 230
      have HO3 := Lib.hid (HOX.out.below bAl)
      have HB3 := Lib.hid (HBX.out.trans (bAl.mono HBX.out.size))
      have TK2 := And.intro (cellB HB3.out hg HD.out.1) (And.intro (cellB HB3.out hg HD.out.2.1) (cellB HB3.out hg HD.out.2.2))
      refine wpAnyU_ready (rs := [4]) (by kernel_rfl) (by simp) ?_
      refine AllReadyU.cons rfl (fun K hK => ?_) (AllReadyU.nil)
      go_simp
      go_wp2
      refine hK.out _ _ (fun _ => HeldS.mk' TK2) ?_
      clear hK K bAl TK2 hHeld TK HOX HBX
      obtain ⟨nB, hnB⟩ : ∃ e, W3.heap.size = e := ⟨_, rfl⟩
      generalize W3.alloc (.cells #[.int .i64 z1, .int .u64 z2, .int .u64 z3] 230) = W5 at HO3 HB3 aN ⊢
      simp only [hnB] at aN ⊢
      clear hnB
      refine wpAnyU_ready (rs := [5]) (by kernel_rfl) (by simp) ?_
      refine AllReadyU.cons rfl (fun K hK => ?_) (AllReadyU.nil)
      refine ite_of rfl ?_
      refine opwp_append_tup _ _ rfl w2.heap.size A' c' k O rfl HL.out.2.2 HO3.out ⟨nB, 0, none⟩ 1 (z1, z2, z3) rfl (by rw [Addr.add_lit]; exact aN.cell rfl) (by rw [Addr.add_lit]; exact aN.cell rfl) (by rw [Addr.add_lit]; exact aN.cell rfl) (by omega) HB3.out.size ?_
      intro A9 c9 W6 HO9 HG
      simp only [Act.put, List.setIfInBounds_toArray, List.set_cons_zero, List.set_cons_succ]
      have HB6 := Lib.hid (HB3.out.grown HG.out HB3.out.size (fun k hk => (World.ownsRow.lt (by have := HO3.out; unfold OwnT at this; rw [HL.out.2.2] at this; exact this) k hk).1))
      have TK3 := And.intro (cellB HB6.out hg HD.out.1) (And.intro (cellB HB6.out hg HD.out.2.1) (cellB HB6.out hg HD.out.2.2))
      refine hK.out _ _ (fun _ => HeldS.mk' TK3) ?_
      clear hK K HG HO3 HB3 aN TK3
      refine wpAnyU_ready (rs := [8]) (by kernel_rfl) (by simp) ?_
      refine AllReadyU.cons rfl (fun K hK => ?_) (AllReadyU.nil)
      go_simp
      refine hK.out _ _ (fun h => late_no h (by kernel_rfl)) ?_
      clear hK K
      refine wpAnyU_ready (rs := [9]) (by kernel_rfl) (by simp) ?_
      refine AllReadyU.cons rfl (fun K hK => ?_) (AllReadyU.nil)
      go_simp
      refine hK.out _ _ (fun h => late_no h (by kernel_rfl)) ?_
      clear hK K
      refine wpAnyU_done (by kernel_rfl) ?_ _
      refine NoPanic.normal ?_
      go_roundw
      case rel => ((repeat apply Exists.intro); refine ⟨?_, rfl⟩); exact ⟨(y1, y2, y3) :: F, S, O ++ [(z1, z2, z3)], some ⟨g', o', none⟩, _, A9, c1, _, c9, n1, _, k + 1, rfl, rfl, rfl, by omega, by omega, by omega, ⟨HL.out.1, by have := HN1.out; omega, by rw [List.length_append, HL.out.2.2]; rfl⟩, ⟨HEQ.out, HJ.out.r1, (RdT.tail HJ.out.r2), HO9.out, HB6.out⟩⟩
      case measure => simp [lenOfV]; omega
end Go.Proofs.YtlbnlmhcpephbaaGreatDoor

namespace Go.Proofs.YtlbnlmhcpephbaaGreatDoor
open Go.RowKit Tt
def gwOk (u v : Int) : Bool := decide (0 < u ∧ v ≤ 2147483648 ∧ u ≤ v / 2)
theorem gwgood_any (u v : Int) (w : World) (hv : 0 ≤ v ∧ v < 18446744073709551616) :
  Calls Tryz.prog 61 #[.agg #[.int .u64 u, .int .u64 v]] w fun e w' => e = .returned (.bool (gwOk u v)) ∧ Below w.heap.size w w' := by
 have v1 : IntKind.u64.wrap (v / 2) = v / 2 := by simp only [IntKind.wrap_u64]; omega
 have v2 : v.tdiv 2 = v / 2 := by rw [Int.tdiv_eq_ediv_of_nonneg hv.1]
 by_cases h1 : 0 < u
 ·by_cases h2 : v ≤ 2147483648
  ·have HE : Hid (gwOk u v = decide (u ≤ v / 2)) := by show _ = _; unfold gwOk; simp [h1, h2]
   rw [HE.out]
   go_enter Tryz.func61, Tryz.ntmps61
   go_wp2
   go_ret
   exact ⟨rfl, (by repeat (first | with_reducible assumption | with_reducible exact Below.refl _ _ | with_reducible refine Below.drew ?_ | with_reducible refine Below.drewN ?_ _ | with_reducible refine Below.setCell ?_ (by first | omega | (simp; done) | (simp; omega)) _ | with_reducible refine Below.alloc ?_ (by first | omega | (simp; done) | (simp; omega) | (simp [World.setCell]; omega)) _))⟩
  ·have HE : Hid (gwOk u v = false) := by show _ = _; unfold gwOk; simp [h2]
   rw [HE.out]
   go_enter Tryz.func61, Tryz.ntmps61
   go_wp2
   go_ret
   exact ⟨rfl, (by repeat (first | with_reducible assumption | with_reducible exact Below.refl _ _ | with_reducible refine Below.drew ?_ | with_reducible refine Below.drewN ?_ _ | with_reducible refine Below.setCell ?_ (by first | omega | (simp; done) | (simp; omega)) _ | with_reducible refine Below.alloc ?_ (by first | omega | (simp; done) | (simp; omega) | (simp [World.setCell]; omega)) _))⟩
 ·have HE : Hid (gwOk u v = false) := by show _ = _; unfold gwOk; simp [h1]
  rw [HE.out]
  go_enter Tryz.func61, Tryz.ntmps61
  go_wp2
  go_ret
  exact ⟨rfl, (by repeat (first | with_reducible assumption | with_reducible exact Below.refl _ _ | with_reducible refine Below.drew ?_ | with_reducible refine Below.drewN ?_ _ | with_reducible refine Below.setCell ?_ (by first | omega | (simp; done) | (simp; omega)) _ | with_reducible refine Below.alloc ?_ (by first | omega | (simp; done) | (simp; omega) | (simp [World.setCell]; omega)) _))⟩
def GwNew (u v : Int) (w : World) (e : Ending) (w' : World) : Prop :=
 Below w.heap.size w w' ∧ ((gwOk u v = true ∧ ∃ b, w.heap.size ≤ b ∧ e = .returned (.tuple #[.pointer (some ⟨b, 0, none⟩), .int .i64 0]) ∧ At w' b #[.int .u64 u, .int .u64 v, .slice none 0 0, .slice none 0 0, .int .u64 0] 173) ∨ (gwOk u v = false ∧ e = .returned (.tuple #[.pointer none, .int .i64 1])))
theorem gwnew_any (u v : Int) (w : World) (hv : 0 ≤ v ∧ v < 18446744073709551616) :
    Calls Tryz.prog 45 #[.agg #[.int .u64 u, .int .u64 v]] w fun e w' => GwNew u v w e w' := by
  have HC := fun W => Lib.hid (gwgood_any u v W hv)
  cases hb : gwOk u v with
  | false =>
    rw [hb] at HC
    go_enter Tryz.func45, Tryz.ntmps45
    go_wp2_with (go_at_call 61; refine (HC _).out.mono ?_)
    rintro e w1 ⟨rfl, hB⟩
    clear HC
    go_wp2
    go_ret2
    exact ⟨((Below.refl _ _).alloc (Nat.le_refl _) _).trans (hB.mono (by simp)), .inr ⟨hb, rfl⟩⟩
  | true =>
    rw [hb] at HC
    go_enter Tryz.func45, Tryz.ntmps45
    have aB := At.new w #[.int .u64 u, .int .u64 v] 25
    go_wp2_with (go_at_call 61; refine (HC _).out.mono ?_)
    rintro e w1 ⟨rfl, hB⟩
    have sB := (aB.below hB).two
    have hW : Below w.heap.size w w1 := ((Below.refl _ _).alloc (Nat.le_refl _) _).trans (hB.mono (by simp))
    clear HC aB hB
    go_wp2
    go_ret2
    exact ⟨hW.alloc hW.size _, .inl ⟨hb, w1.heap.size, hW.size, rfl, At.new' _ _ _ rfl⟩⟩
end Go.Proofs.YtlbnlmhcpephbaaGreatDoor
