/- Texts of this claim, joined, indents halved: EHd9, EKh, ECh, ELu5. -/
import Derived.Test.YtlbnlmhcpephbaaGreatDoorProg
import Derived.Test.YtlbnlmhcpephbaaGreatDoorKe14
namespace Go.Proofs.YtlbnlmhcpephbaaGreatDoor
open Go.RowKit
theorem plus3_w {W : World} {g : Nat} {a b c : Int} (s : At W g #[.int .u64 a, .int .u64 b, .int .u64 c] 23) (h : U64 a ∧ U64 b ∧ U64 c) : Calls Tryz.prog 102 #[.slice (some ⟨g, 0, none⟩) 3 3] W fun e w' => (∃ x f, e = .returned (.tuple #[.int .u64 x, .bool f])) ∧ W = w' := by
 refine (plus_any (some ⟨g, 0, none⟩) 3 3 [a, b, c] W rfl (by omega) (by unfold U64 at h; simp; omega) fun j hj => ⟨_, rfl, ?_⟩).mono fun e w' h => ⟨⟨_, _, h.1⟩, h.2⟩
 rcases (by omega : j = 0 ∨ j = 1 ∨ j = 2) with rfl | rfl | rfl <;> exact s.cell rfl
structure HlP (b : Nat) (cs : Array Value) (g : Nat) (x c : Int) (W : World) : Prop where
 a : At W b cs 161
 c : W.cell? ⟨g, 0, none⟩ = some (.int .i64 x) ∧ W.cell? ⟨g, 1, none⟩ = some (.int .u64 c) ∧ g < W.heap.size
section
variable {w w' W w0 : World} {b p m k l n g : Nat} {B : Bool → Nat} {T : List Nat} {d lim z lo hi x y c N : Int} {Q : Bool → List (Int × Int)} {s : Bool} {A : Bool → Option Addr}
theorem HlP.below {cs : Array Value} (h : HlP b cs g x c W) (hb : Below W.heap.size W w') : HlP b cs g x c w' := ⟨h.a.below hb, cellB hb h.c.2.2 h.c.1, cellB hb h.c.2.2 h.c.2.1, Nat.lt_of_lt_of_le h.c.2.2 hb.size⟩
theorem HjJ.one (h : HjJ w b p B T d lim z lo hi W N l none []) : HjJ w b p B T d lim z lo hi (W.alloc (.cells #[.int .i64 x, .int .u64 c] 247)) N l (some ⟨W.heap.size, 0, none⟩) [(x, c)] := by
 obtain ⟨S, P, h, m, r, q, -⟩ := h
 have a := At.new W #[.int .i64 x, .int .u64 c] 247
 refine ⟨S, P, h.below (bn _ _), m.trans (Mv.of _ (bn _ _)), r, q, fun j u hj => ?_, fun a e _ => by cases e; exact ⟨by simp, fun e => by have := h.lt _ e; simp at this⟩⟩
 have : j < 2 := (List.getElem?_eq_some_iff.1 hj).1
 rcases (by omega : j = 0 ∨ j = 1) with rfl | rfl
 all_goals
  cases hj
  exact ⟨W.heap.size, 0, rfl, a.lt, a.cell rfl⟩
theorem HjJ.hl (h : HjJ w b p B T d lim z lo hi W N l (some ⟨g, 0, none⟩) [(x, c)]) : HlP b (hB d lim p B z lo hi) g x c W := by
 obtain ⟨S, P, h, m, r, q, k⟩ := h
 obtain ⟨_, _, e, a, b⟩ := k.1 0 _ rfl
 cases e
 obtain ⟨_, _, e, _, c⟩ := k.1 1 _ rfl
 cases e
 exact ⟨h.at', b, c, a⟩
set_option maxRecDepth 100000 in
set_option maxHeartbeats 4000000 in
theorem hload_w {b0 p0 : Nat} {B0 : Bool → Nat} {S0 : Bool → List Nat} {d0 l0 lo0 hi0 : Int} {cc : Bool → Nat} (hT : TensAt w) (K : HdC w0 b0 p0 B0 S0 d0 l0 Q z lo0 hi0) (hs : hN Q z ≤ 8000) (hl : (Q true).length + (Q false).length ≤ m) (hm : m < 4000) (hR : ∀ s, RdP w (A s) (Q s)) :
    Calls Tryz.prog 88 #[.agg #[.int .i64 d, .int .u64 lim], .slice (A true) (Q true).length (cc true), .slice (A false) (Q false).length (cc false), .int .u64 z, .int .i64 lo, .int .i64 hi] w (HnR d lim m (hN Q z) lo hi w) := by
  have F : Hid (∀ (c : Int) W, c ≠ 0 → Below w.heap.size w W → HnR d lim m (hN Q z) lo hi w (.returned (.tuple #[.pointer none, .int .i64 c])) W) := fun c W h k => HnR.no h k
  have b1 := bn w (.cells #[.int .i64 d, .int .u64 lim] 110)
  have f1 := (At.new w #[.int .i64 d, .int .u64 lim] 110).two
  have NW := Lib.hid (hnew_w (d := d) (lim := lim) (hT.below b1))
  have KK := Lib.hid (And.intro K (And.intro hs (And.intro hl (And.intro hm hR))))
  obtain ⟨n, hn⟩ : ∃ n : Bool → Nat, ∀ s, (Q s).length = n s := ⟨_, fun _ => rfl⟩
  rw [hn, hn]
  have HN := Lib.hid hn
  clear hT K hs hl hm hR hn
  go_enter Tryz.func88, Tryz.ntmps88
  go_wp2_with fail
  refine NW.out.mono ?_
  rintro e w1 ⟨⟨⟨b, S, rfl, h, wi⟩ | ⟨c, hc, rfl⟩, hb⟩, _⟩
  rotate_left
  · have R := Lib.hid (F.out c _ hc (keep1 b1 hb))
    have d0 : (c != 0) = true := by simpa using hc
    clear hc hb b1 NW F
    go_wp2
    go_ret2
    exact R.out
  replace hb := keep1 b1 hb
  obtain ⟨p, B, T, P, z0, u, v, rfl, h, hz, -, hl0⟩ := h
  have J : Hid (HjJ w1 b p B (hS b p T) d lim z0 u v w1 (sumK Q 0) (lenK Q 0) none []) := ⟨T, P, h, Mv.of _ (Below.refl _ _), hz.symm, hl0, Rd.nil _ _, fun a e => by cases e⟩
  have Z0 : Hid (z0 = 0) := by have := h.z0; have := h.zle; show _ = _; omega
  have BL : Hid (∀ W N l A qs, HjJ w1 b p B (hS b p T) d lim z0 u v W N l A qs → Below w.heap.size w W) := fun W N l A qs ⟨_, _, _, m, _⟩ => m.f.below hb hb.size fun j hj => by have := (wi j hj).1; simp at this; omega
  have GE : Hid (∀ j ∈ hS b p T, w.heap.size ≤ j) := fun j hj => by have := (wi j hj).1; simp at this; omega
  have HB := Lib.hid hb
  clear h hz hl0 wi hb b1 f1 NW
  go_wp2
  go_loopw [16, 17, 18, 20, 34, 40] (fun _ _ _ _ i _ wr => ∃ k : Nat, k ≤ 2 ∧ i = .int .i64 k ∧ Hid (HjJ w1 b p B (hS b p T) d lim z0 u v wr (sumK Q k) (lenK Q k) none [])) (fun _ _ _ _ i _ _ => 2 - (intOf i).toNat)
  case atStart => exact ⟨0, by omega, rfl, J⟩
  case round =>
    clear J
    obtain ⟨k, hk, rfl, J⟩ := hrel
    by_cases hlt : k < 2
    · obtain ⟨s, -, CE, SK, IX⟩ := side_ix hlt
      have k0 : (0 : Int) ≤ k := by omega
      have k1 : (k : Int) < 2 := by omega
      have k3 : IntKind.i64.wrap ((k : Int) + 1) = ((k + 1 : Nat) : Int) := by simp only [IntKind.wrap_i64]; omega
      replace IX := IX A n cc
      have RA := KK.out.2.2.2.2 s
      generalize A s = As at IX RA
      replace RA := Lib.hid RA
      have sk := KK.out.1.sumK (k + 1)
      rw [(SK Q).1, (SK Q).2] at sk
      have Y := Lib.hid (And.intro (KK.out.1.st s).gd (And.intro (KK.out.1.st s).ok sk))
      have n4 := (KK.out.1.st s).len.2
      rw [HN.out] at n4
      replace SK := Lib.hid (SK Q)
      replace J : Hid (HjJ w1 b p B (hS b p T) d lim z0 u v wr (sumK Q k + sumP ((Q s).take 0)) (lenK Q k + 0) none []) := by have := J.out; rw [← Int.add_zero (sumK Q k)] at this; exact this
      have CE := Lib.hid fun W (h : At W b (hB d lim p B z0 u v) 161) => CE h
      clear sk
      go_wp2
      go_loopw [18, 20, 40] (fun t _ i wi => ∃ (j : Nat) (q : Int), j ≤ n s ∧ i = .int .i64 j ∧ t = .int .i64 q ∧ Hid (HjJ w1 b p B (hS b p T) d lim z0 u v wi (sumK Q k + sumP ((Q s).take j)) (lenK Q k + j) none [])) (fun _ _ i _ => n s - (intOf i).toNat)
      case atStart => exact ⟨0, 0, by omega, rfl, rfl, J⟩
      case round =>
        clear J
        obtain ⟨j, q, hj, rfl, rfl, J⟩ := hrel
        by_cases hjt : j < n s
        · have hjl : j < (Q s).length := by have := HN.out s; omega
          obtain ⟨g, o', e, hg, d1, d2⟩ := (RA.out.below (BL.out _ _ _ _ _ J.out)).at j hjl
          cases e
          have j0 : (0 : Int) ≤ j := by omega
          have j1 : (j : Int) < n s := by omega
          have j2 : IntKind.i64.wrap ((j : Int) + 1) = ((j + 1 : Nat) : Int) := by simp only [IntKind.wrap_i64]; omega
          have tk := sumP_take (Q s) j hjl
          have tl := sumP_take_le Y.out.1.pos (j + 1)
          have gp := Y.out.1.pos _ (List.getElem_mem hjl)
          have ok := Y.out.2.1.at j hjl
          obtain ⟨⟨x, c⟩, hxc⟩ : ∃ y, (Q s)[j] = y := ⟨_, rfl⟩
          rw [hxc] at d1 d2 tk gp ok
          dsimp only at d1 d2 tk gp ok
          have OK : Hid (I64 x) := ok.1
          have AD : Hid (∀ W g, HjJ w1 b p B (hS b p T) d lim z0 u v W (sumK Q k + sumP ((Q s).take j)) (lenK Q k + j) (some ⟨g, 0, none⟩) [(x, c)] → Calls Tryz.prog 105 #[.pointer (some ⟨B s, 0, none⟩), .int .i64 x, .int .u64 c] W fun e w' => e = .returned (.int .i64 0) ∧ HjJ w1 b p B (hS b p T) d lim z0 u v w' (sumK Q k + sumP ((Q s).take (j + 1))) (lenK Q k + (j + 1)) (some ⟨g, 0, none⟩) [(x, c)]) := fun W g h => by
            have := h.add s gp ok.1 (by have := Y.out.2.2; have := KK.out.2; have := KK.out.1.z0; omega) (by have := Y.out.2.2; have := KK.out.2; have := HN.out s; omega)
            rw [tk, show sumK Q k + (sumP ((Q s).take j) + c) = sumK Q k + sumP ((Q s).take j) + c by omega]
            exact this
          replace J := Lib.hid (J.out.one (x := x) (c := c))
          replace J : Hid (HjJ w1 b p B (hS b p T) d lim z0 u v (wr.alloc (.cells #[.int .i64 x, .int .u64 c] 247)).drew _ _ _ _) := J.out.below (Below.refl _ _).drew
          clear tk tl gp ok hxc hjl
          go_upto_region 11 with fail
          clear d1 d2 hg
          have hP := J.out.hl
          refine held_h (by kernel_rfl) (HeldS.mk' hP) (fun hHeld => ?_)
          generalize (wr.alloc _).drew = W4 at *
          generalize wr.heap.size = pb at *
          have SP : Hid (SpB W4 p d) := by obtain ⟨_, _, h, _⟩ := J.out; exact h.span
          have hne := hHeld.ne
          have hf1 := fun v => (hHeld.get v).a.c8
          have hf2 := fun v => (hHeld.get v).c
          have hf3 := fun v => CE.out _ (hHeld.get v).a
          have R := Lib.hid (F.out 1 W4 (by decide) (BL.out _ _ _ _ _ J.out))
          by_cases hx : x ≤ q
          rotate_left
          have hx' := decide_eq_false hx
          refine runH [11] 17 hHeld ?_
          simp only [runL, runN, runOps_true, runOps_false, runOps_nil]
          repeat go_big_quiet_step (fail)
          refine wpQuiet_nil ?_
          refine readyH 11 fun K hK => ?_
          go_simp
          go_wp2_with (go_at_call 104; refine (sprp_any SP.out OK.out).mono ?_; rintro e w5 ⟨⟨r, rfl, _⟩, hb⟩)
          refine hK.out _ _ ?_ (fun hHeld => ?_)
          clear hK K
          · exact HeldS.mk' (hP.below hb)
          replace hP := hP.below hb
          replace J := Lib.hid (J.out.below hb)
          replace R := Lib.hid (F.out 1 w5 (by decide) (BL.out _ _ _ _ _ J.out))
          by_cases hr : r = 0
          rotate_left
          · have hr' := beq_eq_false_iff_ne.2 hr
            clear R hb
            refine runH [0, 12, 13] 3 hHeld ?_
            simp only [runL, runN, runOps_true, runOps_false, runOps_nil]
            repeat go_big_quiet_step (fail)
            refine wpQuiet_nil ?_
            refine readyH 25 fun K hK => ?_
            go_simp
            go_wp2_with (go_at_call 105; refine (AD.out _ _ J.out).mono ?_; rintro e w6 ⟨rfl, J6⟩)
            refine hK.out _ _ ?_ (fun hHeld => ?_)
            clear hK K
            · exact HeldS.mk' J6.hl
            replace J := Lib.hid (J6.drop)
            have f6 := J6.hl.c
            refine runH [0, 26, 2] 0 hHeld ?_
            simp only [runL, runN, runOps_true, runOps_false, runOps_nil]
            repeat go_big_quiet_step (fail)
            refine wpQuiet_nil ?_
            refine doneH ?_
            clear hf1 hf2 hf3 hne hHeld hP J6 AD SP hx hx' hr hr'
            go_wp2
            go_roundw
            case rel => exact ⟨j + 1, x, by omega, by simp, rfl, J⟩
            case measure => simp [intOf]; omega
          have hx' := decide_eq_true hx
          refine runH [11] 17 hHeld ?_
          simp only [runL, runN, runOps_true, runOps_false, runOps_nil]
          repeat go_big_quiet_step (fail)
          refine wpQuiet_nil ?_
          refine readyH 11 fun K hK => ?_
          go_simp
          refine hK.out _ _ ?_ (fun hHeld => ?_)
          clear hK K
          · exact HeldS.mk' hP
          all_goals
            refine runH [0, 12, 13] 3 hHeld ?_
            simp only [runL, runN, runOps_true, runOps_false, runOps_nil]
            repeat go_big_quiet_step (fail)
            refine wpQuiet_nil ?_
            refine readyH 25 fun K hK => ?_
            go_simp
            refine hK.out _ _ ?_ (fun hHeld => ?_)
            clear hK K
            · exact HeldS.mk' hP
            refine runH [0, 26, 2] 0 hHeld ?_
            simp only [runL, runN, runOps_true, runOps_false, runOps_nil]
            repeat go_big_quiet_step (fail)
            refine wpQuiet_nil ?_
            refine doneH ?_
            clear hf1 hf2 hf3 hne hHeld
            go_wp2
            go_ret2
            exact R.out
        · obtain rfl : j = n s := by omega
          have J : Hid (HjJ w1 b p B (hS b p T) d lim z0 u v wr (sumK Q (k + 1)) (lenK Q (k + 1)) none []) := by
            have := J.out
            rw [List.take_of_length_le (by have := HN.out s; omega)] at this
            rw [SK.out.1, SK.out.2, HN.out]
            exact this
          clear hjt IX
          go_wp2
          go_roundw
          case rel => exact ⟨k + 1, by omega, by simp, J⟩
          case measure => simp [intOf]; omega
    · obtain rfl : k = 2 := by omega
      have B0 := Lib.hid (BL.out _ _ _ _ _ J.out)
      obtain ⟨S', P', h', m', r1, r2, -⟩ := J.out
      have sk := KK.out.1.sumK 2
      have e1 : hN P' z = hN Q z := by have a := sk.2.2.1 (by omega); have := Z0.out; unfold hN at r1 a ⊢; omega
      have R2 := Lib.hid (And.intro r2 (And.intro sk.2.2.2 (And.intro e1 (m'.ge GE.out HB.out.size))))
      have H := Lib.hid (h'.below (Below.refl _ _).drew)
      replace B0 := Lib.hid (B0.out.drew)
      have bd := And.intro (h'.nn true) (And.intro (h'.nn false) (And.intro (h'.le true) (h'.le false)))
      rw [r1] at bd
      have U : Hid (U64 (sumP (P' true)) ∧ U64 (sumP (P' false)) ∧ U64 z) := by have := KK.out; have := KK.out.1.z0; have := KK.out.1.zle; unfold U64; exact ⟨by omega, by omega, by omega⟩
      have hP : AtH b _ _ wr.drew := H.out.at'
      clear h' m' r1 r2 sk e1 bd J
      go_upto_region 16 with fail
      refine held_h (by kernel_rfl) (HeldS.mk' hP) (fun hHeld => ?_)
      generalize wr.drew = W4 at *
      have hne := hHeld.ne
      have hf1 := fun v => (hHeld.get v).a.c8
      refine runH [5, 1, 5, 1, 1] 9 hHeld ?_
      simp only [runL, runN, runOps_true, runOps_false, runOps_nil]
      repeat go_big_quiet_step (fail)
      refine wpQuiet_nil ?_
      refine readyH 5 fun K hK => ?_
      go_simp
      go_wp2_with (go_at_call 106; refine (stotal_any _ _ _ _ _ (H.out.st true)).mono ?_; rintro e w5 ⟨rfl, rfl⟩)
      refine hK.out _ _ ?_ (fun hHeld => ?_)
      clear hK K
      · exact HeldS.mk' hP
      refine readyH 11 fun K hK => ?_
      go_simp
      go_wp2_with (go_at_call 106; refine (stotal_any _ _ _ _ _ (H.out.st false)).mono ?_; rintro e w5 ⟨rfl, rfl⟩)
      refine hK.out _ _ ?_ (fun hHeld => ?_)
      clear hK K
      · exact HeldS.mk' hP
      generalize sumP (P' true) = t0 at *
      generalize sumP (P' false) = t1 at *
      have ba := bn W4 (.cells #[.int .u64 t0, .int .u64 t1, .int .u64 z] 23)
      have PL := Lib.hid (plus3_w (At.new W4 #[.int .u64 t0, .int .u64 t1, .int .u64 z] 23) U.out)
      replace H := Lib.hid (H.out.below ba)
      replace B0 := Lib.hid (keep1 B0.out ba)
      replace hP : AtH b _ _ (W4.alloc (.cells #[.int .u64 t0, .int .u64 t1, .int .u64 z] 23)) := hP.a.below ba
      clear ba
      refine readyH 13 fun K hK => ?_
      go_simp
      refine hK.out _ _ (HeldS.mk' hP) (fun hHeld => ?_)
      clear hK K
      refine readyH 14 fun K hK => ?_
      go_simp
      go_wp2_with (go_at_call 102; refine PL.out.mono ?_; rintro e w5 ⟨⟨pq, g, rfl⟩, rfl⟩)
      refine hK.out _ _ ?_ (fun hHeld => ?_)
      clear hK K
      · exact HeldS.mk' hP
      clear PL
      refine runH [0, 15, 5] 0 hHeld ?_
      simp only [runL, runN, runOps_true, runOps_false, runOps_nil]
      repeat go_big_quiet_step (fail)
      refine wpQuiet_nil ?_
      refine doneH ?_
      clear hf1 hne hHeld
      generalize W4.alloc _ = W5 at *
      have f5 := hP.a.c8
      have l5 := hP.a.lt
      have h6 := H.out.set (z2 := z) (hP.a.set_any 5 (.int .u64 z) rfl) KK.out.1.z0
      have gb := GE.out b (by simp [hS])
      have B6 := Lib.hid (B0.out.setCell (p := ⟨b, 5, none⟩) gb (.int .u64 z))
      have R := Lib.hid (F.out 1 _ (by decide) B6.out)
      have H6 := Lib.hid h6
      have f6 := h6.at'.c8
      have l6 := h6.at'.lt
      clear h6 U H hP
      cases g with
      | false =>
        go_wp2
        go_ret2
        exact R.out
      | true =>
        by_cases hle : hi < lo
        · go_wp2
          go_ret2
          exact R.out
        clear R
        go_wp2_with fail
        refine (htot_any H6.out (by rw [R2.out.2.2.1]; exact KK.out.2.1)).mono ?_
        rintro e w7 ⟨rfl, hb⟩
        have h6 := H6.out.below hb
        replace hb := keep1 B6.out hb
        have h7 := h6.set (z2 := z) (x := lo) (y := v) (h6.at'.set_any 6 (.int .i64 lo) rfl) KK.out.1.z0
        have h8 := h7.set (z2 := z) (x := lo) (y := hi) (h7.at'.set_any 7 (.int .i64 hi) rfl) KK.out.1.z0
        have FIN : Hid (HnR d lim m (hN Q z) lo hi w (.returned (.tuple #[.pointer (some ⟨b, 0, none⟩), .int .i64 0])) ((w7.setCell ⟨b, 6, none⟩ (.int .i64 lo)).setCell ⟨b, 7, none⟩ (.int .i64 hi))) :=
          ⟨.inl ⟨b, _, rfl, ⟨p, B, S', P', z, lo, hi, rfl, h8, R2.out.2.2.1.symm, fun _ => ⟨rfl, rfl⟩, by have := R2.out; have := KK.out.2; omega⟩, fun j hj => ⟨R2.out.2.2.2 j hj, h8.lt j hj⟩⟩, (hb.setCell (p := ⟨b, 6, none⟩) gb _).setCell (p := ⟨b, 7, none⟩) gb _⟩
        have R := Lib.hid (F.out 1 w7 (by decide) hb)
        have f7 := h6.at'.c8
        have l7 := h6.at'.lt
        clear h6 h7 h8 gb F hb f5 l5 f6 l6 H6 B6
        go_wp2
        all_goals
          go_ret2
          first | exact R.out | exact FIN.out | (subst_vars; exact FIN.out)
end
end Go.Proofs.YtlbnlmhcpephbaaGreatDoor

namespace Go.Proofs.YtlbnlmhcpephbaaGreatDoor
open Go.RowKit
set_option maxRecDepth 100000
set_option maxHeartbeats 4000000
section
variable {w W : World} {q b p dn ln zn : Nat} {B : Bool → Nat} {S : Bool → List Nat} {P : Bool → List (Int × Int)} {lo hi x y : Int}
theorem hputok {d l z : Int} (h : HdC w q p B S d l P z lo hi) (hs : hN P z ≤ 8000) (s : Bool) : PutOk (P s) :=
  ⟨(h.st s).gd, fun v hv => ((h.st s).ok v hv).1, fun v hv => by
    have := mem_leP (h.st s).gd.pos hv
    have := h.nn true
    have := h.nn false
    have := h.z0
    unfold hN at hs
    cases s <;> omega⟩
theorem hwrite_w (h : HdC w q p B S dn ln P zn lo hi) (hx : I64 x) (hy : I64 y) (he : endW (hN P zn) x y = endW (hN P zn) lo hi) (h0 : hN P zn = 0 → x = 0 ∧ y = 0) (hd : dn ≤ 4 ∧ ln ≤ 9223372036854775808) (hn : (P true).length + (P false).length ≤ 4000) (hs : hN P zn ≤ 8000) (hb : Below w.heap.size w W) (hq : Qu W b none 0 0 []) (hg : w.heap.size ≤ b) :
  Calls Tryz.prog 224 #[.agg #[pt q], pt b] W fun e w' => e = .returned (.tuple #[]) ∧ ∃ W1 A len cap, Below W.heap.size W W1 ∧ QuI W1 w' b none A len cap (natsB [dn, ln] ++ intsB [x, y] ++ natsB [zn] ++ rowB (P true) ++ rowB (P false)) := by
 obtain ⟨g, hv⟩ : ∃ g, endW (hN P zn) lo hi = .tuple #[.int .i64 x, .int .i64 y, .bool g] := by
  rw [← he]; unfold endW; split
  ·rename_i e; obtain ⟨rfl, rfl⟩ := h0 e; exact ⟨_, rfl⟩
  ·exact ⟨_, rfl⟩
 have b1 := bn W (.cells #[pt q] 112)
 have a1 := At.new W #[pt q] 112
 have cn : W.heap.size ≠ b := fun e => by have := hq.at'.lt; omega
 have EN : Hid (∀ V, Below w.heap.size w V → Calls Tryz.prog Kd.hdr.ends #[pt q] V fun e w' => e = .returned (.tuple #[.int .i64 x, .int .i64 y, .bool g]) ∧ Below V.heap.size V w') := fun V hV => by rw [← hv]; exact hendz_any (h.below hV) hs
 have CF := Lib.hid fun V (hV : Below w.heap.size w V) => hconf_w (h.below hV)
 have RW := Lib.hid fun V (hV : Below w.heap.size w V) => hrows_w (h.below hV)
 have ZR := Lib.hid fun V (hV : Below w.heap.size w V) => hzero_w (h.below hV)
 have zb : zn ≤ 8000 := by have := h.zle; omega
 have Z := Lib.hid (And.intro hb (And.intro hq (And.intro hg (And.intro (hputok h hs) (And.intro hx hy)))))
 have D := Lib.hid hd
 have XY : Hid (∀ u ∈ [x, y], I64 u) := fun u hu => by simp only [List.mem_cons, List.not_mem_nil, or_false] at hu; rcases hu with rfl | rfl; exact hx; exact hy
 obtain ⟨n0, e0⟩ : ∃ n, (P true).length = n := ⟨_, rfl⟩
 obtain ⟨n1, e1⟩ : ∃ n, (P false).length = n := ⟨_, rfl⟩
 have NN := Lib.hid (And.intro e0 e1)
 rw [e0, e1] at hn
 have HN := Lib.hid hn
 unfold RowsE at RW
 rw [e0, e1] at RW
 have d1 : (0 : Int) ≤ dn ∧ (dn : Int) ≤ 4 := by omega
 clear hv he h0 h hb hq hg hn hs hx hy hd e0 e1
 go_enter Tryz.func224, Tryz.ntmps224
 have f1 := a1.one
 have l1 := a1.lt
 go_wp2_with fail
 generalize W.alloc _ = W1 at *
 obtain ⟨c, hc⟩ : ∃ c, W.heap.size = c := ⟨_, rfl⟩
 rw [hc] at a1 f1 l1 cn
 simp only [hc]
 refine (EN.out W1 (keep1 Z.out.1 b1)).mono ?_
 rintro e w2 ⟨rfl, hb⟩
 replace b1 := keep1 b1 hb
 replace a1 := a1.below hb
 have f2 := a1.one
 have l2 := a1.lt
 clear f1 l1 EN hb
 go_wp2_with fail
 refine (RW.out w2 (keep1 Z.out.1 b1)).mono ?_
 rintro e w3 ⟨⟨A0, c0, A1, c1, rfl, r0, r1⟩, hb⟩
 replace b1 := keep1 b1 hb
 have J := Lib.hid (WqS.start (keep1 Z.out.1 b1) (a1.below hb) (Qu.below Z.out.2.1 b1) cn Z.out.2.2.1)
 have B1 := Lib.hid b1
 have R0 := Lib.hid (And.intro r0 r1)
 have f3 := J.out.a1.one
 have l3 := J.out.a1.lt
 clear hb a1 f2 l2 b1 cn hc r0 r1 RW
 go_wp2_with fail
 replace J := Lib.hid (J.out.below (Below.refl _ _).drew)
 refine held_h (S := HeldS (AtH c #[pt q] 112)) (by kernel_rfl) (HeldS.mk' J.out.a) (fun hHeld => ?_)
 clear f3 l3
 generalize w3.drew = W4 at *
 have hne := hHeld.ne
 have hf := fun x => (hHeld.get x).a.one
 have hc0 : ∀ W : World, (Instr.field 110 (.agg #[.int .i64 (dn : Int), .int .u64 (ln : Int)]) 0).run Tryz.prog W = .ok (.int .i64 (dn : Int)) W := fun W => by kernel_rfl
 have hc1 : ∀ W : World, (Instr.field 110 (.agg #[.int .i64 (dn : Int), .int .u64 (ln : Int)]) 1).run Tryz.prog W = .ok (.int .u64 (ln : Int)) W := fun W => by kernel_rfl
 refine runH [3, 3, 2] 7 hHeld ?_
 simp only [runL, runN, runOps_true, runOps_false, runOps_nil]
 repeat go_big_quiet_step (fail)
 refine wpQuiet_nil ?_
 clear hf
 refine readyH 3 fun K hK => ?_
 go_simp
 go_wp2_with (go_at_call 227; refine (CF.out W4 J.out.bw).mono ?_; rintro e w5 ⟨rfl, hb⟩)
 refine hK.out _ _ ?_ (fun hHeld => ?_)
 clear hK K
 ·exact HeldS.mk' (J.out.below hb).a
 replace J := Lib.hid (J.out.below hb)
 clear hb
 refine runH [0, 4, 2] 4 hHeld ?_
 simp only [runL, runN, runOps_true, runOps_false, runOps_nil]
 repeat go_big_quiet_step (fail)
 refine wpQuiet_nil ?_
 refine readyH 8 fun K hK => ?_
 go_simp
 go_wp2_with (go_at_call 227; refine (CF.out w5 J.out.bw).mono ?_; rintro e w6 ⟨rfl, hb⟩)
 refine hK.out _ _ ?_ (fun hHeld => ?_)
 clear hK K
 ·exact HeldS.mk' (J.out.below hb).a
 replace J := Lib.hid (J.out.below hb)
 clear hb CF
 refine runH [0, 9, 1] 2 hHeld ?_
 simp only [runL, runN, runOps_true, runOps_false, runOps_nil]
 repeat go_big_quiet_step (fail)
 refine wpQuiet_nil ?_
 have N := Lib.hid (J.out.nats (n := 2) [dn, ln] (fun u hu => by have := D.out; simp only [List.mem_cons, List.not_mem_nil, or_false] at hu; omega) rfl (by omega))
 have A := Lib.hid (J.out.below (bn w6 (.cells #[.int .u64 (dn : Int), .int .u64 (ln : Int)] 23))).a
 clear hc0 hc1
 refine readyH 10 fun K hK => ?_
 go_simp
 refine hK.out _ _ (HeldS.mk' A.out) (fun hHeld => ?_)
 clear hK K A
 refine readyH 11 fun K hK => ?_
 go_simp
 go_wp2_with (go_at_call 96; refine N.out.mono ?_; rintro e w7 ⟨rfl, J7⟩)
 refine hK.out _ _ ?_ (fun hHeld => ?_)
 clear hK K
 ·exact HeldS.mk' J7.a
 refine doneH ?_
 have N := Lib.hid (J7.ints (n := 2) [x, y] XY.out rfl (by omega))
 clear hHeld hne J J7
 go_wp2_with fail
 refine N.out.mono ?_
 rintro e w8 ⟨rfl, J⟩
 have f8 := J.a.one
 have l8 := J.a.lt
 have J := Lib.hid J
 clear N
 go_wp2_with fail
 refine (ZR.out w8 J.out.bw).mono ?_
 rintro e w9 ⟨rfl, rfl⟩
 have N := Lib.hid (J.out.nats (n := 1) [zn] (fun u hu => by simp only [List.mem_singleton] at hu; omega) rfl (by omega))
 clear f8 l8 J ZR
 go_wp2_with fail
 refine N.out.mono ?_
 rintro e wa ⟨rfl, J⟩
 have N := Lib.hid (J.row_old (cL := c0) R0.out.1 NN.out.1 (Z.out.2.2.2.1 true) (by have := HN.out; omega))
 clear J
 go_wp2_with fail
 refine N.out.mono ?_
 rintro e wb ⟨rfl, J⟩
 have N := Lib.hid (J.row_old (cL := c1) R0.out.2 NN.out.2 (Z.out.2.2.2.1 false) (by have := HN.out; omega))
 clear J
 go_wp2_with fail
 refine N.out.mono ?_
 rintro e wc ⟨rfl, J⟩
 have R := Lib.hid (J.fin B1.out)
 clear N J
 go_wp2
 exact bodyPost_end (results_none rfl _ _ _) rfl ⟨rfl, by simpa using R.out⟩
theorem hread_w {X : World → Nat → List Nat → Prop} {P0 P1 : List (Int × Int)} (hX : ∀ W W' q Q S, X W q Q → Frame S W W' → Apart Q S → X W' q Q) (hT : TensAt w) (hd : dn ≤ 4 ∧ ln ≤ 9223372036854775808 ∧ zn ≤ 8000) (hx : I64 x ∧ I64 y) (hp : PutOk P0 ∧ PutOk P1) (hn : P0.length ≤ 4000 ∧ P1.length ≤ 4000) (hE : Eye w b (natsB [dn, ln] ++ intsB [x, y] ++ natsB [zn] ++ rowB P0 ++ rowB P1)) (hl : (natsB [dn, ln] ++ intsB [x, y] ++ natsB [zn] ++ rowB P0 ++ rowB P1).length ≤ 300000)
  (hL : ∀ W A0 n0 c0 A1 n1 c1, TensAt W → RdP W A0 P0 → RdP W A1 P1 → P0.length = n0 → P1.length = n1 → Calls Tryz.prog 88 #[.agg #[.int .i64 dn, .int .u64 ln], .slice A0 n0 c0, .slice A1 n1 c1, .int .u64 zn, .int .i64 x, .int .i64 y] W (NwC X W)) :
  Calls Tryz.prog 68 #[pt b] w (RdF b (.agg (CR 2 0 0 0 0 dn ln 0 0 0 0)) Kd.hdr.T X w) := by
 have J : Hid (RdS w w b [] (natB dn ++ (natB ln ++ (natB (zigN x) ++ (natB (zigN y) ++ (natB zn ++ (rowB P0 ++ (rowB P1 ++ [])))))))) := by
  have e : natsB [dn, ln] ++ intsB [x, y] ++ natsB [zn] ++ rowB P0 ++ rowB P1 = natB dn ++ (natB ln ++ (natB (zigN x) ++ (natB (zigN y) ++ (natB zn ++ (rowB P0 ++ (rowB P1 ++ [])))))) := by simp [natsB, intsB]
  rw [e] at hE hl
  exact RdS.start hE hl
 have J := Lib.hid (J.out.new (CR 0 0 0 0 0 0 0 0 0 0 0))
 obtain ⟨n0, e0⟩ : ∃ n, P0.length = n := ⟨_, rfl⟩
 obtain ⟨n1, e1⟩ : ∃ n, P1.length = n := ⟨_, rfl⟩
 have Z := Lib.hid (And.intro hX (And.intro hd (And.intro hx (And.intro hp (And.intro e0 e1)))))
 have HN : Hid (n0 ≤ 4000 ∧ n1 ≤ 4000) := by show _ ∧ _; omega
 have HL := Lib.hid hL
 have TE : Hid (∀ W l, EyJ w W b l → TensAt W) := fun W l h => tens_eye hT hE h.fr
 clear hX hd hx hp hn hE hl hL e0 e1 hT
 go_enter Tryz.func68, Tryz.ntmps68
 go_wp2_with fail
 generalize w.alloc _ = W0 at *
 obtain ⟨r, hr⟩ : ∃ r, w.heap.size = r := ⟨_, rfl⟩
 have RZ : Hid (w.heap.size ≤ r) := Nat.le_of_eq hr
 rw [hr] at J
 simp only [hr]
 clear hr
 refine (J.out.small (by have := Z.out.2.1; omega)).mono ?_
 rintro e w1 ⟨rfl, J⟩
 go_wp2_with fail
 refine (J.nat (by have := Z.out.2.1; omega) (by have := Z.out.2.1; omega)).mono ?_
 rintro e w2 ⟨rfl, J⟩
 have J := Lib.hid (J.new (CR 2 0 0 0 0 dn ln 0 0 0 0))
 go_wp2_with fail
 generalize w2.alloc _ = W3 at *
 obtain ⟨c, hc⟩ : ∃ c, w2.heap.size = c := ⟨_, rfl⟩
 rw [hc] at J
 simp only [hc]
 clear hc
 refine (J.out.int Z.out.2.2.1.1).mono ?_
 rintro e w4 ⟨rfl, J⟩
 go_wp2_with fail
 refine (J.int Z.out.2.2.1.2).mono ?_
 rintro e w5 ⟨rfl, J⟩
 go_wp2_with fail
 refine (J.nat (by have := Z.out.2.1; omega) (by have := Z.out.2.1; omega)).mono ?_
 rintro e w6 ⟨rfl, J⟩
 go_wp2_with fail
 refine (J.row (n := n0) Z.out.2.2.2.1.1 Z.out.2.2.2.2.1 (by have := HN.out; omega)).mono ?_
 rintro e w7 ⟨A0, c0, rfl, r0, J, _⟩
 go_wp2_with fail
 refine (J.row (n := n1) Z.out.2.2.2.1.2 Z.out.2.2.2.2.2 (by have := HN.out; omega)).mono ?_
 rintro e w8 ⟨A1, c1, rfl, r1, J, kp⟩
 have LD := Lib.hid (HL.out w8 A0 n0 c0 A1 n1 c1 (TE.out _ _ J.j) (kp _ _ r0) r1 Z.out.2.2.2.2.1 Z.out.2.2.2.2.2)
 have f1 := (J.k (c, CR 2 0 0 0 0 dn ln 0 0 0 0, 28) (by simp)).1.el
 have l1 := (J.k (c, CR 2 0 0 0 0 dn ln 0 0 0 0, 28) (by simp)).1.lt
 have SZ : Hid (w.heap.size ≤ w8.heap.size ∧ r < w8.heap.size) := ⟨J.j.fr.size, (J.k (r, CR 0 0 0 0 0 0 0 0 0 0 0, 28) (by simp)).1.lt⟩
 have J := Lib.hid J
 clear r0 r1 kp HL TE
 go_wp2_with fail
 refine LD.out.mono ?_
 intro e w9 h9
 obtain ⟨p, f, rfl, hb, hc⟩ := h9.any SZ.out.1 SZ.out.2 Kd.hdr.T
 replace J := Lib.hid (J.out.below hb)
 have F := Lib.hid (J.out.fin (r := r) (kd := 2) (pn := 0) (pd := 0) (sd := 0) (mo := 0) (dg := dn) (li := ln) (de := 0) (fa := 0) (wi := 0) (wo := 0) RZ.out Z.out.1 _ _ hc)
 have ar := (J.out.k (r, CR 0 0 0 0 0 0 0 0 0 0 0, 28) (by simp)).1
 have ac := (J.out.k (c, CR 2 0 0 0 0 dn ln 0 0 0 0, 28) (by simp)).1
 have g1 := ar.el
 have m1 := ar.lt
 have g2 := ac.el
 have m2 := ac.lt
 clear LD J SZ Z hb hc h9 f1 l1
 go_wp2
 have d2 := (At.set11 ar (.int .i64 2) (.int .u64 0) (.int .u64 0) (.int .i64 0) (.int .i64 0) (.int .i64 dn) (.int .u64 ln) (.int .i64 0) (.int .i64 0) (.int .i64 0) (.int .u64 0)).el
 generalize (((((((((((w9.setCell _ _).setCell _ _).setCell _ _).setCell _ _).setCell _ _).setCell _ _).setCell _ _).setCell _ _).setCell _ _).setCell _ _).setCell _ _) = W10 at *
 exact bodyPost_ret (by simp only [results, Tryz.f68]; simp [go_sem, d2]) rfl F.out
end
end Go.Proofs.YtlbnlmhcpephbaaGreatDoor

namespace Go.Proofs.YtlbnlmhcpephbaaGreatDoor
open Go.RowKit
set_option maxRecDepth 100000
def Xh (dg li : Int) : CoT := fun w q Q m N lo hi => HdOk dg li ∧ Hw w q Q dg li m N lo hi
theorem Hw.frame {w w' : World} {q m : Nat} {Q T : List Nat} {dg li N lo hi : Int} (h : Hw w q Q dg li m N lo hi) (hF : Frame T w w') (hn : Apart Q T) : Hw w' q Q dg li m N lo hi := by
 obtain ⟨p, B, U, P, z, x, y, rfl, h, e⟩ := h
 exact ⟨p, B, U, P, z, x, y, rfl, h.frame hF hn, e⟩
theorem core_hdr (dg li : Int) (h0 : 0 ≤ li) : CoreW .hdr 0 0 0 0 dg li 0 0 0 0 (Xh dg li) where
 frame h hF hn := ⟨h.1, h.2.frame hF hn⟩
 lt := by
  rintro w q Q m N lo hi ⟨_, p, B, U, P, z, x, y, rfl, h, e⟩
  exact h.lt
 new w hT := by
  refine (hnew_w hT).mono ?_
  rintro e w' ⟨⟨⟨b, S, rfl, h, hw⟩ | ⟨f, hf, rfl⟩, hb⟩, v, f', e', hi⟩
  ·obtain rfl : (0 : Int) = f' := by cases e'; rfl
   exact ⟨.inl ⟨b, S, rfl, hw, hi.1 rfl, h⟩, hb⟩
  ·exact ⟨.inr ⟨f, hf, rfl⟩, hb⟩
 put := by
  rintro w q Q m N lo hi x n ⟨ok, h⟩ h3 hx h0 hs _
  refine (hput_w h (by omega) hx h0 (by omega)).mono ?_
  rintro e w' ⟨f, rfl, ⟨hf, hb⟩ | ⟨rfl, hn, Q', mv, h'⟩⟩
  ·exact ⟨f, rfl, .inl ⟨hf.1, _, Mv.of _ hb, ok, h.frame (T := []) (Frame.of_below hb) fun _ _ => by simp⟩⟩
  ·exact ⟨0, rfl, .inr ⟨rfl, hn, _, mv, ok, h'⟩⟩
 join := by
  rintro w q Q m N lo hi r R m2 M lo2 hi2 ⟨ok, h⟩ ⟨_, k⟩ ap hmm hs hx hy
  refine (hjoin_w h k ap (by omega) (by omega) hx hy).mono ?_
  rintro e w' ⟨f, rfl, ⟨hf, hb⟩ | ⟨rfl, Q', mv, h'⟩⟩
  ·exact ⟨f, rfl, .inl ⟨hf, Frame.of_below hb⟩⟩
  ·exact ⟨0, rfl, .inr ⟨rfl, _, mv, ok, h'⟩⟩
 tot := by
  rintro w q Q m N lo hi ⟨_, p, B, U, P, z, x, y, rfl, h, rfl, _⟩ h7
  exact ctot_w .hdr q _ w (fun h => by cases h) fun W hW => htot_any (h.below hW) (by omega)
 ends := by
  rintro w q Q m N lo hi ⟨_, p, B, U, P, z, x, y, rfl, h, rfl, he, _⟩ h7
  rw [← endW_c he]
  exact hendz_any h (by omega)
 code := by
  rintro w q Q m N lo hi ⟨ok, p, B, U, P, z, x, y, rfl, h, rfl, he, hl⟩ h3 h7 hx hy
  obtain ⟨dn, rfl⟩ : ∃ n : Nat, dg = n := ⟨dg.toNat, by have := ok.1; omega⟩
  obtain ⟨ln, rfl⟩ : ∃ n : Nat, li = n := ⟨li.toNat, by omega⟩
  obtain ⟨zn, rfl⟩ : ∃ n : Nat, z = n := ⟨z.toNat, by have := h.z0; omega⟩
  have d4 : dn ≤ 4 ∧ ln ≤ 9223372036854775808 ∧ zn ≤ 8000 := by have := ok.1; have := ok.2; have := h.zle; omega
  have hp := hputok h (by omega)
  have hlen : (natsB [dn, ln] ++ intsB [zE (hN P zn) lo, zE (hN P zn) hi] ++ natsB [zn] ++ rowB (P true) ++ rowB (P false)).length ≤ 262144 := by
   have h1 := natsB_len (l := [dn, ln]) fun u hu => by simp only [List.mem_cons, List.not_mem_nil, or_false] at hu; omega
   have h2 := intsB_len (l := [zE (hN P zn) lo, zE (hN P zn) hi]) fun u hu => by simp only [List.mem_cons, List.not_mem_nil, or_false] at hu; rcases hu with rfl | rfl; exact zE_i hx; exact zE_i hy
   have h3 := natsB_len (l := [zn]) fun u hu => by simp only [List.mem_singleton] at hu; omega
   have h4 := rowB_le (hp true) rfl (by omega)
   have h5 := rowB_le (hp false) rfl (by omega)
   simp only [List.length_append, List.length_cons, List.length_nil] at h1 h2 h3 ⊢
   omega
  refine ⟨_, hlen, ?_, fun W qb hb hq hg => hwrite_w h (zE_i hx) (zE_i hy) (zE_w he) (fun z => ⟨zE_0 z, zE_0 z⟩) ⟨d4.1, d4.2.1⟩ (by omega) (by omega) hb hq hg, fun W eb hT hE => ?_⟩
  ·simp only [List.append_assoc]; exact nats_ne _ _ _
  ·refine hread_w (fun W W' q Q S h hF hn => ⟨h.1, h.2.frame hF hn⟩) hT d4 ⟨zE_i hx, zE_i hy⟩ ⟨hp true, hp false⟩ (by omega) hE (by omega) fun W A0 n0 c0 A1 n1 c1 hT r0 r1 e0 e1 => ?_
   subst e0 e1
   refine (hload_w (A := fun s => cond s A0 A1) (cc := fun s => cond s c0 c1) (m := m) hT h (by omega) hl (by omega) fun s => by cases s; exact r1; exact r0).mono ?_
   rintro e w' ⟨⟨b, S, rfl, h', hw⟩ | ⟨f, hf, rfl⟩, hb⟩
   ·refine ⟨.inl ⟨b, _, rfl, hw, ok, ?_⟩, hb⟩
    obtain ⟨p', B', U', P', z', x', y', e1, h1, e2, e3, e4⟩ := h'
    exact ⟨p', B', U', P', z', x', y', e1, h1, e2, fun z => by rw [(e3 z).1, (e3 z).2]; exact ⟨zE_1 z, zE_1 z⟩, e4⟩
   ·exact ⟨.inr ⟨f, hf, rfl⟩, hb⟩
end Go.Proofs.YtlbnlmhcpephbaaGreatDoor

namespace Go.Proofs.YtlbnlmhcpephbaaGreatDoor
open Go.RowKit
section
variable {w w' W : World} {b c : Nat} {A A0 : Option Addr} {mo n lo hi : Int} {ls : List Lu}
def PkJ (b rB : Nat) (A : Option Addr) (c : Nat) (mo n : Int) (ls : List Lu) (w1 W : World) : Prop := LmB W b A c mo ls n ∧ Below w1.heap.size w1 W ∧ (w1.heap.size ≤ rB ∧ ∀ k ∈ b :: blk A, k < w1.heap.size) ∧ ∃ x y : Int, At W rB #[.int .u64 x, .int .u64 y] 25 ∧ 0 ≤ x ∧ x < 18446744073709551616 ∧ 0 ≤ y ∧ y < 18446744073709551616
theorem PkJ.put {rB : Nat} {w1 : World} {x y : Int} (h : PkJ b rB A c mo n ls w1 W) (hx : 0 ≤ x ∧ x < 18446744073709551616 ∧ 0 ≤ y ∧ y < 18446744073709551616) : PkJ b rB A c mo n ls w1 ((W.setCell ⟨rB, 0, none⟩ (.int .u64 x)).setCell ⟨rB, 1, none⟩ (.int .u64 y)) := by
 obtain ⟨D, hb, hr, _, _, aR, _⟩ := h
 have a : Apart (b :: blk A) [rB] := fun k hk e => by have := hr.2 k hk; simp at e; omega
 exact ⟨(D.frame (Frame.set [rB] _ _ _ _ (by simp)) a).frame (Frame.set [rB] _ _ _ _ (by simp)) a, (hb.setCell hr.1 _).setCell hr.1 _, hr, x, y, aR.set2 _ _, hx⟩
theorem PkJ.below {rB : Nat} {w1 : World} (h : PkJ b rB A c mo n ls w1 W) (hb : Below W.heap.size W w') : PkJ b rB A c mo n ls w1 w' := by
 obtain ⟨D, hb', hr, x, y, aR, hx⟩ := h
 exact ⟨D.below hb, keep1 hb' hb, hr, x, y, aR.below hb, hx⟩
theorem LmB.atm {m : Nat} (h : LmB w b A c mo ls n) (hm : ls.length = m) : At w b #[.int .i64 mo, .slice A m c, .int .u64 n] 181 := hm ▸ h.at'
structure PrS (b g c m p : Nat) (mo n : Int) (x y : Lu) (W : World) : Prop where
 a : At W b #[.int .i64 mo, .slice (some ⟨g, 0, none⟩) m c, .int .u64 n] 181
 b : g < W.heap.size ∧ W.cell? ⟨g, p * 3, none⟩ = some (.int .u64 x.1) ∧ W.cell? ⟨g, p * 3 + 1, none⟩ = some (.int .i64 x.2.1) ∧ W.cell? ⟨g, p * 3 + 2, none⟩ = some (.int .i64 x.2.2)
 c : g < W.heap.size ∧ W.cell? ⟨g, (p + 1) * 3, none⟩ = some (.int .u64 y.1) ∧ W.cell? ⟨g, (p + 1) * 3 + 1, none⟩ = some (.int .i64 y.2.1) ∧ W.cell? ⟨g, (p + 1) * 3 + 2, none⟩ = some (.int .i64 y.2.2)
set_option maxRecDepth 100000 in
set_option maxHeartbeats 1000000 in
theorem lmpress_any (h : LmB w b A0 c mo ls n) (g : LuG ls n lo hi) (hm : 2 ≤ mo ∧ mo ≤ 64) (hn : n ≤ 8000) :
    Calls Tryz.prog 360 #[.pointer (some ⟨b, 0, none⟩)] w fun e w' => e = .returned (.tuple #[]) ∧ ∃ k, PrJ b A0 mo n lo hi w w' k ∧ (k : Int) ≤ mo := by
  have J0 : Hid (PrJ b A0 mo n lo hi w w ls.length) := ⟨A0, c, ls, h, g, Mv.of _ (Below.refl _ _), rfl⟩
  have HM := Lib.hid (And.intro hm hn)
  clear h g hm hn
  go_enter Tryz.func360, Tryz.ntmps360
  refine wp_scope_head (fun a' w' => ∃ l : List Value, a' = { tmps := (.pointer (some ⟨b, 0, none⟩) :: l).toArray, defers := [] } ∧ l.length = 105 ∧ Hid (∃ k, PrJ b A0 mo n lo hi w w' k)) (fun _ w' => mu fun k => PrJ b A0 mo n lo hi w w' k) ⟨_, rfl, rfl, _, J0.out⟩ ?_
  rintro a' w1 ⟨l, rfl, hlen, HJ⟩
  revert hlen
  revert l
  refine curry_elim ?_
  dsimp only [Curry]
  intros
  obtain ⟨A, c, ls, h, g, mv, hk⟩ := mu_spec HJ.out
  have MU : Hid (∀ W k, PrJ b A0 mo n lo hi w W k → k < ls.length → mu (fun k => PrJ b A0 mo n lo hi w W k) < mu fun k => PrJ b A0 mo n lo hi w w1 k) := fun W k h hl => by rw [← hk]; exact Nat.lt_of_le_of_lt (mu_le h) hl
  clear HJ J0 hk
  have s1 := h.at'
  have gl := g.1.len
  obtain ⟨m, hm⟩ : ∃ m, ls.length = m := ⟨_, rfl⟩
  rw [hm] at s1 gl
  have f1 := s1.three
  have l1 := s1.lt
  have HH := Lib.hid h
  have G := Lib.hid (And.intro g (And.intro hm mv))
  have m8 : m ≤ 8000 := by have := HM.out; omega
  clear h g mv hm
  by_cases hgt : (m : Int) ≤ mo
  · have hd := decide_eq_true hgt
    have R : Hid (∀ m, ∃ k, PrJ b A0 mo n lo hi w (w1.drewN m) k ∧ (k : Int) ≤ mo) := fun m => ⟨_, ⟨A, c, ls, HH.out.below ((Below.refl _ _).drewN m), G.out.1, G.out.2.2.trans (Mv.of _ ((Below.refl _ _).drewN m)), rfl⟩, by have := G.out.2.1; omega⟩
    clear hgt
    go_wp2
    go_quiet (fail)
    go_wp2
    simp only [Exit.jump]
    exact bodyPost_ret (results_none rfl _ _ _) rfl ⟨rfl, R.out _⟩
  have hd := decide_eq_false hgt
  have hn3 : 3 ≤ m := by have := HM.out; omega
  obtain ⟨g, rfl⟩ := (own_nil HH.out.own).2.2 (.inl (by have := G.out; omega))
  have v1 : IntKind.i64.wrap ((m : Int) - 1) = ((m - 1 : Nat) : Int) := by simp only [IntKind.wrap_i64]; omega
  clear hgt
  go_wp2
  go_quiet (fail)
  have bx : Below w1.heap.size w1 (w1.drewN nq) := (Below.refl _ _).drewN _
  generalize w1.drewN nq = W1 at *
  have P0 : Hid (PkJ b W1.heap.size (some ⟨g, 0, none⟩) c mo n ls w1 (W1.alloc (.cells #[.int .u64 0, .int .u64 0] 25))) := ⟨HH.out.below (keep1 bx (bn _ _)), keep1 bx (bn _ _), ⟨bx.size, HH.out.lt⟩, 0, 0, At.new _ _ _, by omega⟩
  have f2 := P0.out.1.at'.three
  have l2 := P0.out.1.at'.lt
  rw [G.out.2.1] at f2
  clear f1 l1 s1 hd bx
  go_wp2
  clear f2 l2 v1
  generalize W1.alloc _ = W2 at *
  generalize W1.heap.size = rB at *
  go_loopw [3, 4, 5, 6, 26] (fun a3 a4 _ _ i wr => ∃ (j : Nat) (y ah : Int), j ≤ m - 1 ∧ i = .int .i64 j ∧ a3 = .int .i64 y ∧ (j = 0 ∧ y = -1 ∨ 0 ≤ y ∧ y + 1 < m) ∧ a4 = .int .u64 ah ∧ Hid (PkJ b rB (some ⟨g, 0, none⟩) c mo n ls w1 wr)) (fun _ _ _ _ i _ => m - 1 - (intOf i).toNat)
  case atStart => exact ⟨0, -1, 0, by omega, rfl, rfl, .inl ⟨rfl, rfl⟩, rfl, P0⟩
  case round =>
    clear P0
    obtain ⟨j, y, ah, hj, rfl, rfl, hy, rfl, J⟩ := hrel
    by_cases hjt : j < m - 1
    · have hj1 : (j : Int) < ((m - 1 : Nat) : Int) := by omega
      obtain ⟨D, hb, hr, x0, x1, aR, hx⟩ := J.out
      have CO := Lib.hid (lmcost_any (i := j) (ah := ah) D (by have := G.out; omega) (by have := G.out; omega))
      clear D hb hr aR hx
      go_wp2_with fail
      refine CO.out.mono ?_
      rintro e w3 ⟨p, q, rfl, hpq, hb3⟩
      have hb4 := keep1 hb3 (bn w3 (.cells #[.int .u64 p, .int .u64 q] 25))
      have aC := At.new w3 #[.int .u64 p, .int .u64 q] 25
      replace J := Lib.hid (J.out.below hb4)
      clear hb3 hb4 CO
      go_upto_region 6 with fail
      generalize w3.alloc _ = W4 at *
      generalize w3.heap.size = cB at *
      have J5 := Lib.hid (J.out.put hpq)
      obtain ⟨D, hb, hr, x0, x1, aR, hx⟩ := J.out
      obtain ⟨bv, LE⟩ : ∃ bv, ∀ W, Calls Tryz.prog 363 #[.agg #[.int .u64 p, .int .u64 q], .agg #[.int .u64 x0, .int .u64 x1]] W fun e w' => e = .returned (.bool bv) ∧ Below W.heap.size W w' := ⟨_, fun W => less_any _ _ _ _ W hpq.1 hpq.2.1 hpq.2.2.1 hpq.2.2.2 hx.1 hx.2.1 hx.2.2.1 hx.2.2.2⟩
      replace LE := Lib.hid LE
      have fC := aC.two
      have lC := aC.lt
      have fR := aR.two
      have lR := aR.lt
      have A2 : At2 rB _ _ cB _ _ W4 := ⟨aR, aC⟩
      have HP := Lib.hid hpq
      clear D hb hr hpq hx aC aR
      have TL : Hid (∀ V, PkJ b rB (some ⟨g, 0, none⟩) c mo n ls w1 V → ∃ x : Int, At V b #[.int .i64 mo, .slice (some ⟨g, 0, none⟩) m c, .int .u64 n] 181 ∧ V.cell? ⟨g, j * 3, none⟩ = some (.int .u64 x)) := fun V h => ⟨_, h.1.atm G.out.2.1, (h.1.cl (by have := G.out; omega)).2.1⟩
      have k0 : (0 : Int) ≤ j := by omega
      have k1 : (j : Int) < m := by omega
      rcases hy with ⟨hj0, rfl⟩ | hy
      · clear hj0
        have hy : (0 : Int) ≤ (j : Int) ∧ (j : Int) + 1 < m := by omega
        go_upto_region 8 with fail
        clear fC lC fR lR J A2
        generalize (W4.setCell _ _).setCell _ _ = W5 at *
        replace hy := Lib.hid hy
        obtain ⟨x, s5, d5⟩ := TL.out _ J5.out
        have f5 := s5.three
        have l5 := s5.lt
        go_wp2
        go_roundw
        case rel => exact ⟨j + 1, _, _, by omega, by simp, rfl, .inr hy.out, rfl, J5⟩
        case measure => simp [intOf]; omega
      · have hd : decide (y < 0) = false := decide_eq_false (by omega)
        replace hy := Lib.hid hy
        go_wp2_with fail
        refine (LE.out _).mono ?_
        rintro e w5 ⟨rfl, hb5⟩
        replace A2 := A2.below hb5
        replace J := Lib.hid (J.out.below hb5)
        clear fC lC fR lR J5 LE hb5 hd
        cases bv with
        | true =>
          have J5 := Lib.hid (J.out.put HP.out)
          have fC := A2.b.two
          have lC := A2.b.lt
          have fR := A2.a.two
          have lR := A2.a.lt
          have hy : Hid ((0 : Int) ≤ (j : Int) ∧ (j : Int) + 1 < m) := by constructor <;> omega
          go_upto_region 8 with fail
          clear fC lC fR lR J A2
          generalize (w5.setCell _ _).setCell _ _ = W5 at *
          obtain ⟨x, s5, d5⟩ := TL.out _ J5.out
          have f5 := s5.three
          have l5 := s5.lt
          go_wp2
          go_roundw
          case rel => exact ⟨j + 1, _, _, by omega, by simp, rfl, .inr hy.out, rfl, J5⟩
          case measure => simp [intOf]; omega
        | false =>
          obtain ⟨x, s5, d5⟩ := TL.out _ J.out
          have f5 := s5.three
          have l5 := s5.lt
          clear A2
          go_wp2
          go_roundw
          case rel => exact ⟨j + 1, _, _, by omega, by simp, rfl, .inr hy.out, rfl, J⟩
          case measure => simp [intOf]; omega
    · obtain rfl : j = m - 1 := by omega
      obtain ⟨p, rfl⟩ : ∃ p : Nat, y = p := ⟨y.toNat, by omega⟩
      have hp : p + 1 < m := by omega
      obtain ⟨D, hb, hr, _, _, _, _⟩ := J.out
      have hp1 : p + 1 < ls.length := by have := G.out; omega
      have sp : ls.take p ++ ls[p] :: ls[p + 1] :: ls.drop (p + 2) = ls := by rw [← List.drop_eq_getElem_cons, ← List.drop_eq_getElem_cons, List.take_append_drop]
      have LP := G.out.1
      rw [← sp] at LP
      obtain ⟨⟨x1, x2, x3⟩, hx⟩ : ∃ x, ls[p] = x := ⟨_, rfl⟩
      obtain ⟨⟨y1, y2, y3⟩, hy'⟩ : ∃ x, ls[p + 1] = x := ⟨_, rfl⟩
      have S0 : ∀ W, LmB W b (some ⟨g, 0, none⟩) c mo ls n → PrS b g c m p mo n (x1, x2, x3) (y1, y2, y3) W := fun W h => ⟨h.atm G.out.2.1, hx ▸ h.cl (by omega), hy' ▸ h.cl hp1⟩
      rw [hx, hy'] at LP
      have BR := Lib.hid (And.intro hb hr)
      have LP := Lib.hid LP
      have S0 := Lib.hid S0
      have k0 : (0 : Int) ≤ p := by omega
      have k1 : (p : Int) < m := by omega
      have v1 : IntKind.i64.wrap ((p : Int) + 1) = ((p + 1 : Nat) : Int) := by simp only [IntKind.wrap_i64]; omega
      have k2 : (0 : Int) ≤ ((p + 1 : Nat) : Int) := by omega
      have k3 : ((p + 1 : Nat) : Int) < m := by omega
      have v2 : IntKind.i64.wrap ((p : Int) + 2) = ((p + 2 : Nat) : Int) := by simp only [IntKind.wrap_i64]; omega
      have DD := Lib.hid D
      clear D hb hr hx hy' hjt hy sp J hp1
      go_upto_region 10 with fail
      go_cut [7, 8] (fun u v wc => ∃ pa pb, u = .pointer (some ⟨pa, 0, none⟩) ∧ v = .pointer (some ⟨pb, 0, none⟩) ∧ Hid (LmB wc b (some ⟨g, 0, none⟩) c mo ls n ∧ P2 wr pa pb (x1, x2, x3) (y1, y2, y3) wc))
      case first =>
        have DW := DD.out.below (Below.refl _ _).drew
        refine held_h (by kernel_rfl) (HeldS.mk' (S0.out _ DW)) (fun hHeld => ?_)
        have bd : Below wr.heap.size wr wr.drew := (Below.refl _ _).drew
        generalize wr.drew = W3 at *
        have hne := hHeld.ne
        have hf1 := fun x => (hHeld.get x).a.three
        have hf2 := fun x => (hHeld.get x).b
        have hf3 := fun x => (hHeld.get x).c
        refine runH [15] 4 hHeld ?_
        simp only [runL, runN, runOps_true, runOps_false, runOps_nil]
        repeat go_big_quiet_step (fail)
        refine wpQuiet_nil ?_
        clear hf1 hf2 hf3 hne
        have b1 := bn W3 (.cells #[.int .u64 0, .int .i64 0, .int .i64 0] 235)
        have b2 := keep1 b1 (bn (W3.alloc (.cells #[.int .u64 0, .int .i64 0, .int .i64 0] 235)) (.cells #[.int .u64 0, .int .i64 0, .int .i64 0] 235))
        have a1 := (At.new W3 #[.int .u64 0, .int .i64 0, .int .i64 0] 235).alloc (.cells #[.int .u64 0, .int .i64 0, .int .i64 0] 235)
        have a2 := At.new' (W3.alloc (.cells #[.int .u64 0, .int .i64 0, .int .i64 0] 235)) (b := W3.heap.size + 1) #[.int .u64 0, .int .i64 0, .int .i64 0] 235 (by simp)
        have D1 := S0.out _ (DW.below b1)
        have D2 := DW.below b2
        have lt := BR.out.2.2
        have sz := bd.size
        have bs := BR.out.1.size
        have PM := fun V pa pb ha hb ne la lb => P2.mk' (W0 := wr) (V := V) (pa := pa) (pb := pb) (x := (x1, x2, x3)) (y := (y1, y2, y3)) ha hb ne la lb
        replace b2 := keep1 bd b2
        refine wpAnyH_ready (rs := [15, 16]) (by kernel_rfl) (by simp) ?_
        refine AllReadyH.cons rfl (fun K hK => ?_) (AllReadyH.cons rfl (fun K hK => ?_) (AllReadyH.nil))
        go_simp
        refine hK.out _ _ (HeldS.mk' D1) (fun hHeld => ?_)
        clear hK K
        refine readyH 16 fun K hK => ?_
        go_simp
        refine hK.out _ _ (HeldS.mk' (S0.out _ D2)) (fun hHeld => ?_)
        clear hK K
        have E := Lib.hid (PM _ _ _ b2 a1 a2 (by omega) (by omega) (by omega))
        have F := Lib.hid (And.intro a1 (And.intro a2 (show W3.heap.size ≠ W3.heap.size + 1 by omega)))
        generalize W3.heap.size + 1 = pb at *
        generalize W3.heap.size = pa at *
        rotate_left
        go_simp
        refine hK.out _ _ (HeldS.mk' D1) (fun hHeld => ?_)
        clear hK K
        refine readyH 15 fun K hK => ?_
        go_simp
        refine hK.out _ _ (HeldS.mk' (S0.out _ D2)) (fun hHeld => ?_)
        clear hK K
        have E := Lib.hid (PM _ _ _ b2 a2 a1 (by omega) (by omega) (by omega))
        have F := Lib.hid (And.intro a2 (And.intro a1 (show W3.heap.size + 1 ≠ W3.heap.size by omega)))
        generalize W3.heap.size + 1 = pa at *
        generalize W3.heap.size = pb at *
        all_goals
          generalize (W3.alloc _).alloc _ = V at *
          have nb : pa ∉ b :: blk (some ⟨g, 0, none⟩) ∧ pb ∉ b :: blk (some ⟨g, 0, none⟩) := ⟨fun h => by have := lt _ h; have := E.out.la; omega, fun h => by have := lt _ h; have := E.out.lb; omega⟩
          have fr : ∀ (V : World) (q i : Nat) (v : Value), q ∉ b :: blk (some ⟨g, 0, none⟩) → LmB V b (some ⟨g, 0, none⟩) c mo ls n → LmB (V.setCell ⟨q, i, none⟩ v) b (some ⟨g, 0, none⟩) c mo ls n := fun V q i v hq h => h.frame (Frame.set [q] _ _ _ _ (by simp)) fun k hk e => by simp at e; exact hq (e ▸ hk)
          have D3 := fr _ pa 2 (.int .i64 x3) nb.1 (fr _ pa 1 (.int .i64 x2) nb.1 (fr _ pa 0 (.int .u64 x1) nb.1 D2))
          have D4 := Lib.hid (And.intro (fr _ pb 2 (.int .i64 y3) nb.2 (fr _ pb 1 (.int .i64 y2) nb.2 (fr _ pb 0 (.int .u64 y1) nb.2 D3))) E.out)
          have f1 := F.out.1.three
          have l1 := F.out.1.lt
          have a3 : At (((V.setCell ⟨pa, 0, none⟩ (.int .u64 x1)).setCell ⟨pa, 1, none⟩ (.int .i64 x2)).setCell ⟨pa, 2, none⟩ (.int .i64 x3)) pb _ _ := ((F.out.2.1.set_other (p := ⟨pa, _, none⟩) F.out.2.2.symm _).set_other (p := ⟨pa, _, none⟩) F.out.2.2.symm _).set_other (p := ⟨pa, _, none⟩) F.out.2.2.symm _
          clear D2 PM E a1 a2 b1 D1 lt nb fr bd b2 DW
          refine readyH 17 fun K hK => ?_
          go_simp
          go_wp2
          refine hK.out _ _ (HeldS.mk' (S0.out _ D3)) (fun hHeld => ?_)
          clear hK K f1 l1
          have f1 := a3.three
          have l1 := a3.lt
          refine readyH 18 fun K hK => ?_
          go_simp
          go_wp2
          refine hK.out _ _ (HeldS.mk' (S0.out _ D4.out.1)) (fun hHeld => ?_)
          clear hK K f1 l1 D3 F a3
          refine doneH ?_
          go_wp2
          go_meet
          case rel => exact ⟨pa, pb, rfl, rfl, D4⟩
      case rest =>
        clear S0
        obtain ⟨pa, pb, rfl, rfl, H2⟩ := hcut
        have D := H2.out.1
        have nb : b ∉ [g] := D.ne
        have DEL := delete_g (j := .l) (i := p) (q := p + 2) D.own flatL_one (by omega) (by have := G.out; omega) (by have := G.out; omega)
        have DD := fun w' r => D.del (w' := w') (i := p) (by have := G.out; omega) ⟨by rw [show ls.length - (p + 2 - p) = ls.length - 2 by omega], r⟩
        dsimp only [Sl.del] at DEL
        rw [G.out.2.1] at DEL DD
        have s1 := D.atm G.out.2.1
        have f1 := s1.three
        have l1 := s1.lt
        replace DEL := Lib.hid DEL
        replace DD := Lib.hid DD
        have nab : Hid (pa ∉ [b, g] ∧ pb ∉ [b, g]) := ⟨fun h => by have := BR.out.2.2 pa (by simp [blk] at h ⊢; exact h); have := H2.out.2.la; have := BR.out.1.size; omega, fun h => by have := BR.out.2.2 pb (by simp [blk] at h ⊢; exact h); have := H2.out.2.lb; have := BR.out.1.size; omega⟩
        have e2 : m - (p + 2 - p) = m - 2 := by omega
        clear D
        go_wp2_with fail
        refine DEL.out.mono ?_
        rintro e w5 ⟨rfl, r⟩
        obtain ⟨D6, F6⟩ := DD.out w5 r
        have s5 := r.2.at s1 nb
        have f5 := s5.three
        have l5 := s5.lt
        rw [e2]
        have A6 := F6.at H2.out.2.a nab.out.1
        have B6 := F6.at H2.out.2.b nab.out.2
        have hl : (ls.take p ++ ls.drop (p + 2)).length = m - 2 := by have := G.out; simp; omega
        have M6 := Lib.hid ((G.out.2.2.trans (Mv.of _ (keep1 BR.out.1 H2.out.2.bl))).trans (S2 := b :: blk (some ⟨g, 0, none⟩)) ⟨GrownS.refl _ _, F6.mono (by simp [blk])⟩)
        have nb' := nab.out.1
        have nb'' := nab.out.2
        clear f1 l1 r F6 DEL DD s1 s5 e2 nab
        go_upto_region 12 with fail
        clear f5 l5
        generalize w5.setCell _ _ = W6 at *
        have LO := Lib.hid LP.out.1.out
        have fa := A6.three
        have la := A6.lt
        have fb := B6.three
        have lb := B6.lt
        have s6 := D6.atm hl
        have f6 := s6.three
        have l6 := s6.lt
        have w1 : IntKind.u64.wrap (x1 + y1) = x1 + y1 := by have := LO.out; have := HM.out; dsimp only at *; simp only [IntKind.wrap_u64]; omega
        have w2 : IntKind.u64.wrap (n - (x1 + y1)) = n - (x1 + y1) := by have := LO.out; have := HM.out; dsimp only at *; simp only [IntKind.wrap_u64]; omega
        have D7 := (D6.tot (y := n - (x1 + y1))).below (Below.refl _ _).drew
        have A7 : At (W6.setCell ⟨b, 2, none⟩ (.int .u64 (n - (x1 + y1)))).drew pa _ _ := (A6.set_other (p := ⟨b, 2, none⟩) (show pa ≠ b from fun e => nb' (by simp [e])) _).drew
        have B7 : At (W6.setCell ⟨b, 2, none⟩ (.int .u64 (n - (x1 + y1)))).drew pb _ _ := (B6.set_other (p := ⟨b, 2, none⟩) (show pb ≠ b from fun e => nb'' (by simp [e])) _).drew
        have M7 : Hid (Mv (b :: blk A0) (b :: blk (some ⟨g, 0, none⟩)) w (W6.setCell ⟨b, 2, none⟩ (.int .u64 (n - (x1 + y1)))).drew) := M6.out.trans ⟨GrownS.refl _ _, (Frame.set _ _ _ _ _ (by simp)).drew⟩
        clear D6 A6 B6 M6 s6
        go_region
        clear fa la fb lb f6 l6 w2
        generalize (W6.setCell _ _).drew = W7 at *
        have fa := A7.three
        have la := A7.lt
        have fb := B7.three
        have lb := B7.lt
        obtain ⟨z, hz⟩ : ∃ z, max x3 y3 = z := ⟨_, rfl⟩
        have HZ := Lib.hid hz
        have LY := Lib.hid (lmlay_any (q1 := x1 + y1) (q2 := x2) (q3 := z) D7 LO.out.1 (by have := LO.out; rw [← HZ.out]; exact ⟨by dsimp only at this; omega, this.2.2.2.2⟩) (by have := HM.out; omega))
        clear D7 A7 B7
        go_wp2_with fail
        clear hz
        refine LY.out.mono ?_
        rintro e w8 ⟨rfl, A', c', ls', D8, mv, L8, LL, hlen⟩
        rw [show n - (x1 + y1) + (x1 + y1, x2, z).1 = n by dsimp only; omega] at D8 L8
        have J8 : Hid (PrJ b A0 mo n lo hi w w8 ls'.length) := ⟨A', c', ls', D8, ⟨L8, LP.out.press (by rw [HZ.out]; exact LL)⟩, M7.out.trans mv, rfl⟩
        have ML := Lib.hid (MU.out w8 ls'.length J8.out (by have := G.out; omega))
        clear D8 mv L8 LL hlen LY M7
        go_wp2
        go_step3
        exact ⟨rfl, ⟨_, rfl, rfl, _, J8.out⟩, ML.out⟩
end
end Go.Proofs.YtlbnlmhcpephbaaGreatDoor
