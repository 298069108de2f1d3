/- Texts of this claim, joined, indents halved: EDg2, EDg3, EDg4, EDg5, EDg6, ELu1. -/
import Derived.Lib.MinMax
import Derived.Test.YtlbnlmhcpephbaaGreatDoorProg
import Derived.StillTailTactics
import Derived.Test.YtlbnlmhcpephbaaGreatDoorKe11
namespace Go.Proofs.YtlbnlmhcpephbaaGreatDoor
open Go.RowKit
section
variable {w w' : World} {b sb : Nat} {T U : List Nat} {d f L lo hi x y : Int} {ps : List (Int × Int)}
theorem DgB.set {k : Nat} {v : Value} (h : DgB w b sb T d f L ps lo hi) (hs : At (w.setCell ⟨b, k, none⟩ v) b #[.int .i64 d, .int .i64 f, .int .i64 d, .pointer (some ⟨sb, 0, none⟩), .int .i64 x, .int .i64 y] 169) : DgB (w.setCell ⟨b, k, none⟩ v) b sb T d f L ps x y :=
 { h with at' := hs, st := h.st.frame (Frame.set [b] w b k v (by simp)) fun j hj e => h.ne (by simp at e; exact e ▸ hj) }
set_option maxRecDepth 100000 in
set_option maxHeartbeats 2000000 in
theorem dends'_any (h : DgB w b sb T d f L ps lo hi) : Calls Tryz.prog 234 #[.pointer (some ⟨b, 0, none⟩), .int .i64 x, .int .i64 y] w fun e w' => e = .returned (.tuple #[]) ∧ (if sumP ps = 0 then DgB w' b sb T d f L ps x y else DgB w' b sb T d f L ps (min lo x) (max hi y)) ∧ Frame [b] w w' := by
 have H := Lib.hid h
 have HT := Lib.hid (dtotal_any h)
 obtain ⟨n, hn⟩ : ∃ n, sumP ps = n := ⟨_, rfl⟩
 rw [hn] at HT ⊢
 clear h hn
 rcases Decidable.em (n = 0) with rfl | n
 ·simp only [if_true]
  have s1 := H.out.at'
  have f1 := s1.c6
  have l1 := s1.lt
  have H2 := H.out.set (x := x) (y := hi) (s1.set_any 4 (.int .i64 x) rfl)
  have H3 := Lib.hid (H2.set (x := x) (y := y) (H2.at'.set_any 5 (.int .i64 y) rfl))
  have HF := Lib.hid (((Frame.refl [b] w).setc (b := b) (.inl (by simp)) 4 (.int .i64 x)).setc (b := b) (.inl (by simp)) 5 (.int .i64 y))
  clear H2
  go_enter Tryz.func234, Tryz.ntmps234
  go_wp2_with fail
  refine HT.out.mono ?_
  rintro e w1 ⟨rfl, rfl⟩
  go_wp2
  exact bodyPost_ret (results_none rfl _ _ _) rfl ⟨rfl, H3.out, HF.out⟩
 ·simp only [if_neg n]
  obtain ⟨m, hm⟩ : ∃ m, min lo x = m := ⟨_, rfl⟩
  obtain ⟨M, hM⟩ : ∃ m, max hi y = m := ⟨_, rfl⟩
  rw [hm, hM]
  go_enter Tryz.func234, Tryz.ntmps234
  go_wp2_with fail
  refine HT.out.mono ?_
  rintro e w1 ⟨rfl, rfl⟩
  go_upto_region 2 with fail
  obtain ⟨W, hW⟩ : ∃ W, w.drew = W := ⟨_, rfl⟩
  have H1 := H.out.below (Below.refl _ _).drew
  have hF := (Frame.refl [b] w).drew
  rw [hW] at H1 hF
  refine wp_region_noPanic ?_
  refine wp_region_until (S := HeldS (CellW b 5 (.int .i64 hi))) 19 (by kernel_rfl) ?_
  rw [hW]
  have s1 := H1.at'
  have H2 := H1.set (x := m) (y := hi) (s1.set_any 4 (.int .i64 (m)) rfl)
  have H3 := Lib.hid (H2.set (x := m) (y := M) (H2.at'.set_any 5 (.int .i64 (M)) rfl))
  have HF := Lib.hid ((hF.setc (b := b) (.inl (by simp)) 4 (.int .i64 (m))).setc (b := b) (.inl (by simp)) 5 (.int .i64 (M)))
  have hm1 : CellW b 5 (.int .i64 hi) W := s1.cell rfl
  have hm2 : CellW b 5 (.int .i64 hi) (W.setCell ⟨b, 4, none⟩ (.int .i64 (m))) := H2.at'.cell rfl
  have hHeld : HeldS (CellW b 5 (.int .i64 hi)) W := HeldS.mk' hm1
  have hne : Nonempty (Held (CellW b 5 (.int .i64 hi))) := ⟨⟨W, hm1⟩⟩
  have hfar := fun x : Held (CellW b 5 (.int .i64 hi)) => x.held.c
  have hneF : Nonempty (Held fun _ => True) := ⟨⟨W, trivial⟩⟩
  have f1 := s1.c6
  have l1 := s1.lt
  have f2 := H2.at'.c6
  have l2 := H2.at'.lt
  clear H1 hF H2 s1 hW H HT
  refine runV [5, 1, 1, 1, 3, 1, 1] 10 hHeld ?_
  simp only [runL, runN, runOps_true, runOps_false, runOps_nil]
  repeat go_big_quiet_step (fail)
  refine wpQuiet_nil ?_
  refine runW [0, 11, 1, 1, 1] 8 hHeld ?_
  simp only [runL, runN, runOps_true, runOps_false, runOps_nil]
  repeat go_big_quiet_step (fail)
  refine wpQuiet_nil ?_
  clear hfar hne hHeld
  refine readyU 5 fun K hK => ?_
  go_simp
  go_wp2
  refine hK.out _ _ (fun _ => HeldS.mk' hm1) ?_
  clear hK K
  have hHeld := HeldS.mk' hm1
  refine runV [0, 7, 1, 6, 2] 4 hHeld ?_
  simp only [runL, runN, runOps_true, runOps_false, runOps_nil]
  repeat go_big_quiet_step (fail)
  refine wpQuiet_nil ?_
  refine readyU 16 fun K hK => ?_
  go_simp
  go_wp2
  refine hK.out _ _ (fun _ => HeldS.mk' hm2) ?_
  clear hK K
  replace hHeld := HeldS.mk' hm2
  clear f1 l1
  refine runV [0, 17, 2] 1 hHeld ?_
  simp only [runL, runN, runOps_true, runOps_false, runOps_nil]
  repeat go_big_quiet_step (fail)
  refine wpQuiet_nil ?_
  refine readyU 19 fun K hK => ?_
  go_simp
  go_wp2
  refine hK.out _ _ (fun h => late_no h (by kernel_rfl)) ?_
  refine wpAnyU_done (by kernel_rfl) ?_ _
  refine NoPanic.normal ?_
  go_wp2
  exact bodyPost_end (results_none rfl _ _ _) rfl ⟨rfl, H3.out, HF.out⟩
end
end Go.Proofs.YtlbnlmhcpephbaaGreatDoor

namespace Go.Proofs.YtlbnlmhcpephbaaGreatDoor
open Go.RowKit
theorem CloR.rda {ps : List (Int × Int)} {w w' : World} {A : Option Addr} {c : Nat} {S : List Nat} (h : Own2 w.heap.size w' A c ps) (hl : ∀ k ∈ S, k < w.heap.size) : RdA w' A (ps.flatMap fun x => [.int .i64 x.1, .int .u64 x.2]) S :=
 ⟨h.rd, fun a e _ => by have := h.base_le a e; exact ⟨this.2, fun k => by have := hl _ k; omega⟩⟩
structure LiftJ (w W : World) (A : Option Addr) (ps : List (Int × Int)) (b2 : Nat) (S2 : List Nat) (qs : List (Int × Int)) : Prop where
 bl : Below w.heap.size w W
 st : Strip W b2 S2 4096 qs
 rd : RdA W A (ps.flatMap fun x => [.int .i64 x.1, .int .u64 x.2]) S2
 ge : ∀ k ∈ S2, w.heap.size ≤ k
section
variable {w W W' : World} {A : Option Addr} {ps qs qs' : List (Int × Int)} {b2 b sb : Nat} {S2 S2' T : List Nat} {d f L lo hi v : Int}
theorem LiftJ.step (h : LiftJ w W A ps b2 S2 qs) (m : Mv S2 S2' W W') (hs : Strip W' b2 S2' 4096 qs') : LiftJ w W' A ps b2 S2' qs' :=
 ⟨m.f.below h.bl h.bl.size h.ge, hs, h.rd.mv m, m.ge h.ge h.bl.size⟩
theorem LiftJ.below (h : LiftJ w W A ps b2 S2 qs) (hb : Below W.heap.size W W') : LiftJ w W' A ps b2 S2 qs := h.step (Mv.of _ hb) (h.st.below hb)
def LiftR (b : Nat) (T : List Nat) (d f L : Int) (ps : List (Int × Int)) (lo hi : Int) (w : World) (e : Ending) (w' : World) : Prop :=
 ∃ (g : Bool) (sb' : Nat) (T' : List Nat) (qs : List (Int × Int)), e = .returned (.bool g) ∧ Mv (b :: T) (b :: T') w w' ∧ DgB w' b sb' T' d f L qs lo hi ∧ sumP qs = sumP ps ∧ qs.length ≤ ps.length ∧ ixS qs ≤ ixS ps ∧ (g = true → ixS qs < ixS ps)
set_option maxRecDepth 100000 in
set_option maxHeartbeats 2000000 in
theorem dlift_any (h : DgB w b sb T d f L ps lo hi) (hv : 1 ≤ v ∧ v < 2 * L) (hn : ps.length ≤ 4000) : Calls Tryz.prog 238 #[.pointer (some ⟨b, 0, none⟩), .int .i64 v] w (LiftR b T d f L ps lo hi w) := by
 have H := Lib.hid h
 have HB := Lib.hid fun W => beside_any d L v W h.tr hv
 have HU := Lib.hid fun W => up_any' d L v W h.tr hv
 obtain ⟨u, hu⟩ : ∃ u, (if v = 1 then 0 else bits .xor .i64 v 1) = u := ⟨_, rfl⟩
 rw [hu] at HB
 have HV : Hid (u ≠ v) := by have := h.tr.l1; have := xor1 (v := v) (by omega) (by omega); show _ ≠ _; subst hu; split <;> omega
 have HS := Lib.hid fun W (hb : Below w.heap.size w W) q => sat_any _ _ _ _ q W (h.below hb).st
 obtain ⟨l, HL⟩ := dlimit_any h
 replace HL := Lib.hid HL
 have s1 := h.at'
 have SAME : Hid (∀ W, Below w.heap.size w W → LiftR b T d f L ps lo hi w (.returned (.bool false)) W) := fun W hb => ⟨false, sb, T, ps, rfl, Mv.of _ hb, H.out.below hb, rfl, Nat.le_refl _, Nat.le_refl _, fun e => by cases e⟩
 obtain ⟨x, hx⟩ : ∃ x, cnt ps v = x := ⟨_, rfl⟩
 obtain ⟨y, hy⟩ : ∃ x, cnt ps u = x := ⟨_, rfl⟩
 obtain ⟨z, hz⟩ : ∃ x, cnt ps (v / 2) = x := ⟨_, rfl⟩
 clear h
 go_enter Tryz.func238, Tryz.ntmps238
 go_wp2
 have hfar1 := fun x : Far w => (x.at s1).c6
 refine wp_region_far (by kernel_rfl) (by kernel_rfl) ?_
 repeat go_big_quiet_step (first | (with_reducible refine far_of (HS.out _ (Far.below _) _)) | (with_reducible refine far_of (HB.out _)) | (with_reducible refine far_of (HU.out _)))
 refine wpQuiet_nil ?_
 rintro _ ⟨xq, rfl⟩
 clear hfar1
 have hb := xq.below
 generalize xq.far = W at hb ⊢
 rw [hx, hy, hz]
 by_cases h1 : v = 1
 ·subst h1
  go_wp2
  go_ret
  exact SAME.out _ hb
 by_cases h0 : x = 0
 ·subst h0
  go_wp2
  go_ret
  exact SAME.out _ hb
 have e1 := beq_eq_false_iff_ne.2 h1
 have e0 := beq_eq_false_iff_ne.2 h0
 have H0 := Lib.hid h0
 have H2v : Hid (2 ≤ v) := by show _ ≤ _; omega
 go_wp2_with fail
 refine (HL.out W hb).mono ?_
 rintro e w1 ⟨rfl, hb1⟩
 replace hb := keep1 hb hb1
 by_cases hc : l < IntKind.u64.wrap (IntKind.u64.wrap (x + y) + z)
 ·go_wp2
  go_ret
  exact SAME.out _ hb
 have ec := decide_eq_false hc
 clear hb1
 go_wp2_with fail
 refine (snew_any 4096 _ (by omega) (by omega)).mono ?_
 rintro e w2 ⟨⟨b2, rfl, hs, hS⟩, hb2⟩
 replace hs := Lib.hid hs
 have H2 := H.out.below (keep1 hb hb2)
 have f1 := H2.at'.c6
 clear hc ec e1 e0 h1 h0 HL HS SAME
 go_wp2_with fail
 refine (spairs_any _ _ _ _ _ H2.st).mono ?_
 rintro e w3 ⟨A, c, rfl, ho, hb3⟩
 have J : Hid (LiftJ w w3 A ps b2 [b2] (flt v u (ps.take 0))) := ⟨keep1 (keep1 hb hb2) hb3, hS.below hb3, CloR.rda ho hS.lt, fun k hk => by have := hb.size; have := hs.out; simp at hk; omega⟩
 obtain ⟨n, hN⟩ : ∃ n, ps.length = n := ⟨_, rfl⟩
 have HN := Lib.hid hN
 rw [hN] at hn ⊢
 clear hs hS hb hb2 hb3 H2 f1 ho hN hu
 go_wp2
 go_loopw [66] (fun i wr => ∃ k : Nat, k ≤ n ∧ i = .int .i64 k ∧ ∃ S2, Hid (LiftJ w wr A ps b2 S2 (flt v u (ps.take k)))) (fun i _ => n - (intOf i).toNat)
 case atStart => exact ⟨0, by omega, rfl, _, J⟩
 case round =>
  obtain ⟨k, hk, rfl, S2, J⟩ := hrel
  by_cases hlt : k < n
  ·have hkl : k < ps.length := by have := HN.out; omega
   obtain ⟨g, o, rfl, hg, c1, c2⟩ := RdP.at J.out.rd.1 k hkl
   have ft := flt_take (v := v) (u := u) hkl
   have ok := H.out.st.ok.at k hkl
   obtain ⟨⟨q, c⟩, hq⟩ : ∃ p, ps[k] = p := ⟨_, rfl⟩
   have ST := Lib.hid fun a b => flt_step H.out.st.gd H.out.st.sum hkl hq a b HV.out.symm
   rw [hq] at c1 c2 ft ok
   have FT := Lib.hid ft
   have OK := Lib.hid ok.1
   have J1 := J.out.below (bn wr (.cells #[.int .i64 q, .int .u64 c] 247))
   have aP := At.new wr #[.int .i64 q, .int .u64 c] 247
   dsimp only at c1 c2
   clear hq hkl ok ft
   go_upto_region 8 with fail
   generalize wr.alloc _ = W1 at *
   generalize wr.heap.size = pb at *
   have s2 := s1.below J1.bl
   have fp := aP.two
   have lp := aP.lt
   replace J1 := Lib.hid J1
   by_cases hqv : q = v
   ·subst hqv
    have hfar1 := fun x : Far W1 => (x.at s2).c6
    have hfar2 := fun x : Far W1 => (x.at aP).two
    refine wp_region_far (by kernel_rfl) (by kernel_rfl) ?_
    repeat go_big_quiet_step (first | (fail))
    refine wpQuiet_nil ?_
    rintro _ ⟨xq, rfl⟩
    clear hfar1 hfar2
    have J2 := Lib.hid (J1.out.below xq.below)
    replace aP := aP.below xq.below
    generalize xq.far = W2 at *
    replace fp := aP.two
    replace lp := aP.lt
    clear J1 xq s2
    rw [← FT.out.trans (if_neg (by simp))] at J2
    go_wp2
    go_roundw
    case rel => exact ⟨k + 1, by omega, by simp, S2, J2⟩
    case measure => simp [intOf]; omega
   have hqv' := bne_iff_ne.2 hqv
   have hfar1 := fun x : Far W1 => (x.at s2).c6
   have hfar2 := fun x : Far W1 => (x.at aP).two
   refine wp_region_far (by kernel_rfl) (by kernel_rfl) ?_
   repeat go_big_quiet_step (first | (with_reducible refine far_of (HB.out _)))
   refine wpQuiet_nil ?_
   rintro _ ⟨xq, rfl⟩
   clear hfar1 hfar2
   have J2 := Lib.hid (J1.out.below xq.below)
   replace aP := aP.below xq.below
   generalize xq.far = W2 at *
   replace fp := aP.two
   replace lp := aP.lt
   clear J1 xq s2
   by_cases hqu : q = u
   ·subst hqu
    rw [← FT.out.trans (if_neg (by simp))] at J2
    go_wp2
    go_roundw
    case rel => exact ⟨k + 1, by omega, by simp, S2, J2⟩
    case measure => simp [intOf]; omega
   have hqu' := bne_iff_ne.2 hqu
   obtain ⟨r1, r2, r3, r4⟩ := ST.out hqv hqu
   have AD := Lib.hid (sadd_w J2.out.st r3 r2 OK.out (by omega))
   rw [r1] at AD
   clear r1 r2 r3 r4 hqv hqu
   go_wp2_with fail
   refine AD.out.mono ?_
   rintro e w5 ⟨rfl, S3, m, hS⟩
   have J3 := Lib.hid (J2.out.step m hS)
   clear m hS J2 AD fp lp
   go_wp2
   go_roundw
   case rel => exact ⟨k + 1, by omega, by simp, S3, J3⟩
   case measure => simp [intOf]; omega
  ·obtain rfl : k = n := by omega
   rw [List.take_of_length_le (by have := HN.out; omega)] at J
   obtain ⟨m0, hm⟩ : ∃ m, IntKind.u64.wrap (x + y) = m := ⟨_, rfl⟩
   have fs := flt_sum HV.out.symm ps
   have gd := H.out.st.gd
   have sm := H.out.st.sum
   have nx := cnt_nonneg gd.pos v
   have ny := cnt_nonneg gd.pos u
   have nf := sumP_nonneg (flt_gd (v := v) (u := u) gd).pos
   have x0 := H0.out
   have v2 := H2v.out
   have hN := HN.out
   rw [hx] at nx fs
   rw [hy] at ny fs
   obtain rfl : m0 = x + y := by rw [← hm, IntKind.wrap_u64]; omega
   obtain ⟨X, hX, e⟩ := cnt_pos_mem (ps := ps) (i := v) (by omega)
   have le := cnt_le_sumP (flt_gd (v := v) (u := u) gd).pos (v / 2)
   have ra := rowAdd_ix (flt_gd (v := v) (u := u) gd) (q := v / 2) (c := x + y) (by omega) (by omega)
   have rs := sumP_rowAdd (flt_gd (v := v) (u := u) gd) (q := v / 2) (c := x + y) (by omega) (by omega)
   have fi := (flt_ix v u ps).2.2 (by rw [← e]; exact List.mem_map_of_mem hX)
   have F : Hid (∀ W S3, LiftJ w W A ps b2 S3 (rowAdd (flt v u ps) (v / 2) (x + y)) → LiftR b T d f L ps lo hi w (.returned (.bool true)) (W.setCell ⟨b, 3, none⟩ (.pointer (some ⟨b2, 0, none⟩)))) := fun W S3 J => by
    have s := s1.below J.bl
    have nb : b ∉ S3 := fun hm => by have := J.ge b hm; have := s1.lt; omega
    refine ⟨true, b2, S3, _, rfl, ⟨fun j hj => ?_, (Frame.of_below J.bl).setc (.inl (by simp)) 3 _⟩, { H.out with at' := s.set_any 3 _ rfl, st := J.st.frame (Frame.set [b] _ b 3 _ (by simp)) fun j hj e => nb (by simp at e; exact e ▸ hj), ne := nb, nd := fun X hX => ?_ }, by omega, by omega, by omega, fun _ => by omega⟩
    ·rcases List.mem_cons.1 hj with rfl | a
     ·simp
     ·exact .inr (J.ge j a)
    ·rcases ra.2.2 X hX with a | a
     ·exact H.out.nd X (List.mem_filter.1 a).1
     ·omega
   have AD := Lib.hid fun W (J : LiftJ w W A ps b2 S2 (flt v u ps)) => sadd_w (q := v / 2) (c := x + y) J.st (by omega) (by omega) (by have := H.out.tr.l1; omega) (by omega)
   have s2 := s1.below J.out.bl
   have f2 := s2.c6
   have l2 := s2.lt
   clear nx ny nf x0 fs sm le ra rs fi hX e hx hy hz s2 v2 hN hlt hk hn
   go_wp2_with fail
   refine (HU.out wr).mono ?_
   rintro e w5 ⟨rfl, hb5⟩
   replace J := Lib.hid (J.out.below hb5)
   clear f2 l2 hb5
   go_wp2_with fail
   refine (AD.out _ J.out).mono ?_
   rintro e w6 ⟨rfl, S3, m, hS⟩
   replace J := Lib.hid (J.out.step m hS)
   have s2 := s1.below J.out.bl
   have f2 := s2.c6
   have l2 := s2.lt
   clear AD m hS s2
   go_wp2
   go_ret
   exact F.out _ _ J.out
end
end Go.Proofs.YtlbnlmhcpephbaaGreatDoor

namespace Go.Proofs.YtlbnlmhcpephbaaGreatDoor
open Go.RowKit
def DgR (b : Nat) (T : List Nat) (d f L lo hi : Int) (Q : List (Int × Int) → Prop) (w w' : World) : Prop := ∃ sb T' qs, Mv (b :: T) (b :: T') w w' ∧ DgB w' b sb T' d f L qs lo hi ∧ Q qs
section
variable {w W W' w' : World} {A : Option Addr} {ps qs qs' : List (Int × Int)} {b sb : Nat} {T T' : List Nat} {d f L lo hi v : Int} {Q Q' : List (Int × Int) → Prop}
def Sq (ps : List (Int × Int)) (n : Nat) (qs : List (Int × Int)) : Prop := sumP qs = sumP ps ∧ qs.length ≤ ps.length ∧ ixS qs ≤ n
def SqJ (b : Nat) (T : List Nat) (d f L : Int) (ps : List (Int × Int)) (lo hi : Int) (w : World) (n : Nat) (g : Value) (W : World) : Prop := ∃ m : Bool, g = .bool m ∧ ∃ k, DgR b T d f L lo hi (Sq ps k) w W ∧ 2 * k + m.toNat = n
def InJ (b : Nat) (T : List Nat) (d f L : Int) (ps : List (Int × Int)) (lo hi : Int) (w : World) (A : Option Addr) (rs : List (Int × Int)) (N : Nat) (m : Bool) (W : World) : Prop :=
 ∃ sb T' qs, Mv (b :: T) (b :: T') w W ∧ DgB W b sb T' d f L qs lo hi ∧ (sumP qs = sumP ps ∧ qs.length ≤ ps.length ∧ ixS qs + m.toNat ≤ N) ∧ RdA W A (rs.flatMap fun x => [.int .i64 x.1, .int .u64 x.2]) (b :: T')
theorem DgB.lt (h : DgB w b sb T d f L ps lo hi) : ∀ k ∈ b :: T, k < w.heap.size := fun k hk => by rcases List.mem_cons.1 hk with rfl | a; exact h.at'.lt; exact h.st.lt k a
set_option maxHeartbeats 1000000 in
theorem dsqueeze_any (h : DgB w b sb T d f L ps lo hi) (hn : ps.length ≤ 4000) : Calls Tryz.prog 233 #[.pointer (some ⟨b, 0, none⟩)] w fun e w' => e = .returned (.tuple #[]) ∧ DgR b T d f L lo hi (fun qs => sumP qs = sumP ps ∧ qs.length ≤ ps.length) w w' := by
  have J : ∃ n, SqJ b T d f L ps lo hi w n (.bool true) w := ⟨_, true, rfl, ixS ps, ⟨sb, T, ps, Mv.of _ (Below.refl _ _), h, rfl, Nat.le_refl _, Nat.le_refl _⟩, rfl⟩
  replace J := Lib.hid J
  replace hn := Lib.hid hn
  clear h
  go_enter Tryz.func233, Tryz.ntmps233
  go_wp2
  go_loopw [2] (fun g wr => Hid (∃ n, SqJ b T d f L ps lo hi w n g wr)) (fun g wr => mu fun n => SqJ b T d f L ps lo hi w n g wr)
  case atStart => exact J
  case round =>
    clear J
    obtain ⟨m, rfl, N, ⟨sb, T', qs, mv, h, q⟩, e⟩ := mu_spec hrel.out
    clear hrel
    have F : Hid (DgR b T d f L lo hi (fun qs => sumP qs = sumP ps ∧ qs.length ≤ ps.length) w wr) := ⟨sb, T', qs, mv, h, q.1, q.2.1⟩
    cases m with
    | false =>
      clear mv h q e
      go_wp2
      exact bodyPost_end (results_none rfl _ _ _) rfl ⟨rfl, F.out⟩
    | true =>
      have s1 := h.at'
      have f1 := s1.c6
      have hl := h.lt
      have nd := Lib.hid h.nd
      have ql := q.2.1
      have HN : Hid (qs.length ≤ 4000) := Nat.le_trans ql hn.out
      have E := Lib.hid e
      have J : Hid (∀ W A, Below wr.heap.size wr W → RdA W A (qs.flatMap fun x => [.int .i64 x.1, .int .u64 x.2]) (b :: T') → InJ b T d f L ps lo hi w A qs N false W) := fun W A hb hr => ⟨sb, T', qs, mv.trans (Mv.of _ hb), h.below hb, q, hr⟩
      have HP := Lib.hid (spairs_any _ _ _ _ _ h.st)
      have hl := Lib.hid hl
      obtain ⟨n, hq⟩ : ∃ n, qs.length = n := ⟨_, rfl⟩
      have HQ := Lib.hid hq
      clear mv h q e F s1 ql
      go_wp2_with fail
      refine HP.out.mono ?_
      rintro e w1 ⟨A, c, rfl, ho, hb⟩
      have J := Lib.hid (J.out w1 A hb (CloR.rda ho hl.out))
      have h4 := HN.out
      rw [hq] at h4 ⊢
      clear hq ho hb HP f1 hl
      go_wp2
      go_loopw [2, 4] (fun g i wr => ∃ (m : Bool) (p : Nat), g = .bool m ∧ i = .int .i64 ((p : Int) - 1) ∧ p ≤ n ∧ Hid (InJ b T d f L ps lo hi w A qs N m wr)) (fun _ i _ => (intOf i + 1).toNat)
      case atStart => exact ⟨false, n, rfl, by simp, Nat.le_refl _, J⟩
      case round =>
        clear J
        obtain ⟨m, p, rfl, rfl, hp, J⟩ := hrel
        cases p with
        | zero =>
          have R : Hid (∃ k, SqJ b T d f L ps lo hi w k (.bool m) wr ∧ k < 2 * N + 1) := by
            obtain ⟨sb, T2, rs, mv, h, ⟨a, c, e⟩, _⟩ := J.out
            exact ⟨_, ⟨m, rfl, N - m.toNat, ⟨sb, T2, rs, mv, h, a, c, by omega⟩, rfl⟩, by cases m <;> simp at e ⊢; omega⟩
          clear J
          go_wp2
          go_roundw
          case rel => obtain ⟨k, h, _⟩ := R.out; exact ⟨k, h⟩
          case measure => obtain ⟨k, h, e⟩ := R.out; have := mu_le (p := fun n => SqJ b T d f L ps lo hi w n (.bool m) wr) h; have := E.out; simp at this; omega
        | succ p =>
          obtain ⟨i, hi⟩ : ∃ i, ((p + 1 : Nat) : Int) - 1 = i := ⟨_, rfl⟩
          obtain rfl : i = (p : Int) := by omega
          rw [hi]
          clear hi
          obtain ⟨sb, T2, rs, mv, h, q, hr⟩ := J.out
          have hpl : p < qs.length := by have := HQ.out; omega
          obtain ⟨g, o, rfl, hg, c1, c2⟩ := RdP.at hr.1 p hpl
          have nv := nd.out _ (List.getElem_mem hpl)
          obtain ⟨v, hv⟩ : ∃ v, (qs[p]'hpl).1 = v := ⟨_, rfl⟩
          rw [hv] at c1 nv
          have LF := Lib.hid (dlift_any h nv (Nat.le_trans q.2.1 hn.out))
          have K : Hid (∀ (g' : Bool) sb2 T3 us W, Mv (b :: T2) (b :: T3) wr W → DgB W b sb2 T3 d f L us lo hi → sumP us = sumP rs → us.length ≤ rs.length → ixS us ≤ ixS rs → (g' = true → ixS us < ixS rs) → InJ b T d f L ps lo hi w (some ⟨g, o, none⟩) qs N (m || g') W) := fun g' sb2 T3 us W m' h' a c e k => ⟨sb2, T3, us, mv.trans m', h', ⟨by omega, by omega, by cases g' <;> cases m <;> simp at * <;> omega⟩, hr.mv m'⟩
          clear c2 hpl nv hv mv h q hr J
          go_wp2_with fail
          refine LF.out.mono ?_
          rintro e W ⟨g', sb2, T3, us, rfl, m', h', a, c, e, k⟩
          have J := Lib.hid (K.out g' sb2 T3 us W m' h' a c e k)
          clear m' h' a c e k K LF hg c1
          cases g' <;> (
            go_wp2
            go_roundw
            case rel => exact ⟨_, p, by first | rfl | simp, by simp, by omega, by simpa using J⟩
            case measure => simp [intOf])
set_option maxHeartbeats 1000000 in
theorem dtidy_any (h : DgB w b sb T d f L ps lo hi) (hn : ps.length ≤ 4000) : Calls Tryz.prog 235 #[.pointer (some ⟨b, 0, none⟩)] w fun e w' => e = .returned (.tuple #[]) ∧ DgR b T d f L lo hi (fun qs => sumP qs = sumP ps ∧ qs.length ≤ ps.length) w w' := by
 have s1 := h.at'.c6
 have H := Lib.hid (slen_any _ _ _ _ _ h.st)
 have M := Lib.hid (dmost_any h)
 have S := Lib.hid (dsqueeze_any h hn)
 have F : Hid (DgR b T d f L lo hi (fun qs => sumP qs = sumP ps ∧ qs.length ≤ ps.length) w w) := ⟨sb, T, ps, Mv.of _ (Below.refl _ _), h, rfl, Nat.le_refl _⟩
 clear h hn
 go_enter Tryz.func235, Tryz.ntmps235
 go_wp2_with fail
 refine H.out.mono ?_
 rintro e w1 ⟨rfl, rfl⟩
 go_wp2_with fail
 refine M.out.mono ?_
 rintro e w1 ⟨rfl, rfl⟩
 by_cases hc : 4 * f < (ps.length : Nat)
 ·go_wp2_with fail
  refine S.out.mono ?_
  rintro e w1 ⟨rfl, h⟩
  have h := Lib.hid h
  go_wp2
  exact bodyPost_end (results_none rfl _ _ _) rfl ⟨rfl, h.out⟩
 ·go_wp2
  exact bodyPost_end (results_none rfl _ _ _) rfl ⟨rfl, F.out⟩
end
end Go.Proofs.YtlbnlmhcpephbaaGreatDoor

namespace Go.Proofs.YtlbnlmhcpephbaaGreatDoor
open Go.RowKit
section
variable {w W W' w' : World} {A : Option Addr} {ps qs qs' : List (Int × Int)} {b sb o so : Nat} {T T' U : List Nat} {d f L lo hi lo2 hi2 v x n d' f' L' : Int} {Q Q' : List (Int × Int) → Prop}
theorem dendsE_any (h : DgB w b sb T d f L ps lo hi) (x y : Int) : Calls Tryz.prog 234 #[.pointer (some ⟨b, 0, none⟩), .int .i64 x, .int .i64 y] w fun e w' => e = .returned (.tuple #[]) ∧ DgB w' b sb T d f L ps (lowE (sumP ps) lo x) (highE (sumP ps) hi y) ∧ Frame [b] w w' := by
 refine (dends'_any h).mono fun e w' ⟨a, k, c⟩ => ⟨a, ?_, c⟩
 unfold lowE highE
 split at k <;> rename_i z <;> simpa only [z, if_true, if_false] using k
theorem DgB.add {q c : Int} (h : DgB w b sb T d f L ps lo hi) (m : Mv T T' w w') (hS : Strip w' sb T' 4096 (rowAdd ps q c)) (hc : 0 < c) (hs : sumP ps + c ≤ 9223372036854775807) (hq : 1 ≤ q ∧ q < 2 * L) :
  DgB w' b sb T' d f L (rowAdd ps q c) lo hi ∧ sumP (rowAdd ps q c) = sumP ps + c ∧ (rowAdd ps q c).length ≤ ps.length + 1 := by
 have := cnt_le_sumP h.st.gd.pos q
 have ra := rowAdd_ix (q := q) h.st.gd hc (by omega)
 refine ⟨{ h with at' := m.f.at h.at' h.ne, st := hS, ne := fun k => (m.g _ k).elim h.ne fun z => by have := h.at'.lt; omega, nd := fun X hX => (ra.2.2 X hX).elim (h.nd X) fun z => by omega }, sumP_rowAdd h.st.gd hc (by omega), ra.1⟩
def DpR (b : Nat) (T : List Nat) (d f L : Int) (ps : List (Int × Int)) (lo hi x n : Int) (w : World) (e : Ending) (w' : World) : Prop :=
 ∃ c : Int, e = .returned (.int .i64 c) ∧ (c ≠ 0 ∧ Below w.heap.size w w' ∨ c = 0 ∧ 0 < n ∧ DgR b T d f L (lowE (sumP ps) lo x) (highE (sumP ps) hi x) (fun qs => sumP qs = sumP ps + n ∧ qs.length ≤ ps.length + 1) w w')
set_option maxHeartbeats 1000000 in
theorem dput_any (h : DgB w b sb T d f L ps lo hi) (hn : ps.length < 4000) (hx : -9223372036854775808 ≤ x ∧ x ≤ 9223372036854775807) (h0 : 0 ≤ n) (hs : sumP ps + n ≤ 9223372036854775807) : Calls Tryz.prog 231 #[.pointer (some ⟨b, 0, none⟩), .int .i64 x, .int .u64 n] w (DpR b T d f L ps lo hi x n w) := by
 have F : ∀ c : Int, c ≠ 0 → Hid (∀ W, Below w.heap.size w W → DpR b T d f L ps lo hi x n w (.returned (.int .i64 c)) W) := fun c hc W hb => ⟨c, rfl, .inl ⟨hc, hb⟩⟩
 by_cases hz : n = 0
 ·subst hz
  have F := F 1 (by omega)
  clear h hs h0
  go_enter Tryz.func231, Tryz.ntmps231
  go_wp2
  go_ret
  exact F.out _ (Below.refl _ _)
 have hz' := beq_eq_false_iff_ne.2 hz
 have s1 := h.at'.c6
 have LF := Lib.hid (leaf_any d L x w h.tr hx)
 have H := Lib.hid h
 have N := Lib.hid (And.intro (show 0 < n by omega) hs)
 have hp := Lib.hid (sumP_nonneg h.st.gd.pos)
 by_cases hl : 0 ≤ x ∧ x < L
 ·rw [if_pos hl] at LF
  have HL := Lib.hid hl
  clear h F hs h0 hz hl
  go_enter Tryz.func231, Tryz.ntmps231
  go_wp2_with fail
  refine LF.out.mono ?_
  rintro e w1 ⟨rfl, hb⟩
  go_wp2_with fail
  have H1 := H.out.below hb
  refine (dtotal_any H1).mono ?_
  rintro e w1 ⟨rfl, rfl⟩
  go_wp2_with fail
  refine (plus2_new hb hp.out (by have := N.out; omega) N.out.2).mono ?_
  rintro e w2 ⟨rfl, hb2⟩
  have H2 := Lib.hid (H.out.below hb2)
  clear hb H1
  go_wp2_with fail
  refine (dendsE_any H2.out x x).mono ?_
  rintro e w3 ⟨rfl, H3, hF⟩
  have m := Lib.hid ((Mv.of (b :: T) hb2).trans ⟨GrownS.refl _ _, hF.mono (by simp)⟩)
  have f3 := H3.at'.c6
  have H3 := Lib.hid H3
  clear hF hb2 H2 LF s1
  go_wp2_with fail
  refine (sadd_w H3.out.st N.out.1 N.out.2 (by have := HL.out; have := H.out.tr.l1; omega) (by omega)).mono ?_
  rintro e w4 ⟨rfl, T', m', hS⟩
  obtain ⟨H4, rs, ra⟩ := H3.out.add m' hS N.out.1 N.out.2 (by have := HL.out; omega)
  have FIN : Hid (∀ W, DgR b T' d f L (lowE (sumP ps) lo x) (highE (sumP ps) hi x) (fun qs => sumP qs = sumP (rowAdd ps (L + x) n) ∧ qs.length ≤ (rowAdd ps (L + x) n).length) w4 W → DpR b T d f L ps lo hi x n w (.returned (.int .i64 0)) W) := fun W ⟨s, T2, qs, m2, h, q1, q2⟩ => ⟨0, rfl, .inr ⟨rfl, N.out.1, s, T2, qs, m.out.trans ((m'.cons b).trans m2), h, by omega, by omega⟩⟩
  have TD := Lib.hid (dtidy_any H4 (by omega))
  clear H4 ra rs hS m' m f3
  go_wp2_with fail
  refine TD.out.mono ?_
  rintro e w5 ⟨rfl, h5⟩
  have R := Lib.hid (FIN.out w5 h5)
  clear h5
  go_wp2
  go_ret
  exact R.out
 ·rw [if_neg hl] at LF
  have F := F 7 (by omega)
  clear h hs h0 hz hl
  go_enter Tryz.func231, Tryz.ntmps231
  go_wp2_with fail
  refine LF.out.mono ?_
  rintro e w1 ⟨rfl, hb⟩
  go_wp2
  go_ret
  exact F.out _ hb
def JnJ (b : Nat) (T : List Nat) (d f L : Int) (ps : List (Int × Int)) (lo hi : Int) (A : Option Addr) (qs : List (Int × Int)) (w : World) (k : Nat) (W : World) : Prop :=
 ∃ sb T' rs, Mv (b :: T) (b :: T') w W ∧ DgB W b sb T' d f L rs lo hi ∧ (sumP rs = sumP ps + sumP (qs.take k) ∧ rs.length ≤ ps.length + k) ∧ RdA W A (qs.flatMap fun x => [.int .i64 x.1, .int .u64 x.2]) (b :: T')
def DjR (b : Nat) (T : List Nat) (d f L : Int) (ps qs : List (Int × Int)) (lo hi lo2 hi2 : Int) (w : World) (e : Ending) (w' : World) : Prop :=
 ∃ c : Int, e = .returned (.int .i64 c) ∧ (c ≠ 0 ∧ Below w.heap.size w w' ∨ c = 0 ∧ if sumP qs = 0 then Below w.heap.size w w' else DgR b T d f L (lowE (sumP ps) lo lo2) (highE (sumP ps) hi hi2) (fun rs => sumP rs = sumP ps + sumP qs ∧ rs.length ≤ ps.length + qs.length) w w')
set_option maxRecDepth 100000 in
set_option maxHeartbeats 2000000 in
theorem djoin_any (h : DgB w b sb T d f L ps lo hi) (k : DgB w o so U d f L qs lo2 hi2) (ap : Apart (b :: T) (o :: U)) (hn : ps.length + qs.length < 4000) (hs : sumP ps + sumP qs ≤ 9223372036854775807) : Calls Tryz.prog 266 #[.pointer (some ⟨b, 0, none⟩), .pointer (some ⟨o, 0, none⟩)] w (DjR b T d f L ps qs lo hi lo2 hi2 w) := by
 have H := Lib.hid h
 have K := Lib.hid k
 have N := Lib.hid hn
 have S := Lib.hid hs
 have s1 := h.at'
 have t1 := k.at'
 have f1 := s1.c6
 have f2 := t1.c6
 have l1 := s1.lt
 have l2 := t1.lt
 have AP := Lib.hid ap
 have p0 := Lib.hid (And.intro (sumP_nonneg h.st.gd.pos) (sumP_nonneg k.st.gd.pos))
 clear h k hn hs ap
 go_enter Tryz.func266, Tryz.ntmps266
 go_wp2
 go_quiet (fail)
 have hb : Below w.heap.size w (w.drewN nq) := (Below.refl _ _).drewN _
 go_wp2_with fail
 refine (dtotal_any (K.out.below hb)).mono ?_
 rintro e w1 ⟨rfl, rfl⟩
 obtain ⟨n, hn⟩ : ∃ n, sumP qs = n := ⟨_, rfl⟩
 have E := Lib.hid hn
 rw [hn]
 clear hn
 by_cases z : n = 0
 ·subst z
  have R : Hid (DjR b T d f L ps qs lo hi lo2 hi2 w (.returned (.int .i64 0)) (w.drewN nq)) := ⟨0, rfl, .inr ⟨rfl, by rw [if_pos E.out]; exact hb⟩⟩
  go_wp2
  go_ret
  exact R.out
 have z' := beq_eq_false_iff_ne.2 z
 have E := Lib.hid (And.intro E.out z)
 clear z
 go_wp2_with fail
 refine (dtotal_any (H.out.below hb)).mono ?_
 rintro e w1 ⟨rfl, rfl⟩
 go_wp2_with fail
 refine (dtotal_any (K.out.below hb)).mono ?_
 rintro e w1 ⟨rfl, rfl⟩
 go_wp2_with fail
 rw [E.out.1]
 refine (plus2_new hb p0.out.1 (by have := p0.out; rw [E.out.1] at this; exact this.2) (by have := S.out; rw [E.out.1] at this; exact this)).mono ?_
 rintro e w2 ⟨rfl, hb2⟩
 have g2 := (t1.below hb2).c6
 have k2 := (t1.below hb2).lt
 replace hb2 := hb2.drew
 clear hb
 go_upto_region 10 with fail
 go_still_tail 9, (by kernel_rfl)
 change wpList _ _ _ _ _ w2.drew
 clear g2 k2
 generalize w2.drew = W at hb2 ⊢
 have H2 := Lib.hid (H.out.below hb2)
 go_wp2_with fail
 refine (dendsE_any H2.out lo2 hi2).mono ?_
 rintro e w3 ⟨rfl, H3, hF⟩
 have m := (Mv.of (b :: T) hb2).trans (S2 := b :: T) ⟨GrownS.refl _ _, hF.mono (by simp)⟩
 have lU := (K.out.below hb2).lt
 have K3 := (K.out.below hb2).frame hF fun k hk e => AP.out b (by simp) (by simp at e; exact e ▸ hk)
 have f3 := K3.at'.c6
 have HP := Lib.hid (spairs_any _ _ _ _ _ K3.st)
 have J := Lib.hid (fun W A c (ho : Own2 w3.heap.size W A c qs) (hb : Below w3.heap.size w3 W) => (⟨sb, T, ps, m.trans (Mv.of _ hb), H3.below hb, by simp [sumP_nil], CloR.rda ho H3.lt⟩ : JnJ b T d f L ps (lowE (sumP ps) lo lo2) (highE (sumP ps) hi hi2) A qs w 0 W))
 clear H3 hF m lU K3 hb2 H2 s1 t1 f1 f2 l1 l2
 go_wp2_with fail
 refine HP.out.mono ?_
 rintro e w4 ⟨A, c, rfl, ho, hb⟩
 have J := Lib.hid (J.out w4 A c ho hb)
 obtain ⟨q, hq⟩ : ∃ q, qs.length = q := ⟨_, rfl⟩
 have Q := Lib.hid (And.intro hq N.out)
 have hq4 : q < 4000 := by have := N.out; omega
 rw [hq]
 clear ho hb HP f3 hq
 go_wp2
 go_loopw [57] (fun i wr => ∃ k : Nat, k ≤ q ∧ i = .int .i64 k ∧ Hid (JnJ b T d f L ps (lowE (sumP ps) lo lo2) (highE (sumP ps) hi hi2) A qs w k wr)) (fun i _ => q - (intOf i).toNat)
 case atStart => exact ⟨0, by omega, rfl, J⟩
 case round =>
  clear J
  obtain ⟨k, hk, rfl, J⟩ := hrel
  by_cases hlt : k < q
  ·obtain ⟨sb', T', rs, mv, D, r, hr⟩ := J.out
   have hkl : k < qs.length := by have := Q.out.1; omega
   obtain ⟨g, o', rfl, hg, c1, c2⟩ := RdP.at hr.1 k hkl
   have nd := K.out.nd _ (List.getElem_mem hkl)
   have gp := K.out.st.gd.pos _ (List.getElem_mem hkl)
   have tk := sumP_take qs k hkl
   have tl := sumP_take_le K.out.st.gd.pos (k + 1)
   obtain ⟨⟨x, c⟩, hx⟩ : ∃ p, qs[k] = p := ⟨_, rfl⟩
   rw [hx] at c1 c2 nd gp tk
   dsimp only at c1 c2 nd gp tk
   have Z := Lib.hid (And.intro nd (And.intro gp (And.intro tk tl)))
   have hb := bn wr (.cells #[.int .i64 x, .int .u64 c] 247)
   have aP := At.new wr #[.int .i64 x, .int .u64 c] 247
   have f1 := (D.below hb).at'.c6
   have l1 := (D.below hb).at'.lt
   have f2 := aP.two
   have l2 := aP.lt
   clear hkl nd gp tk tl hx J
   replace mv := Lib.hid (mv.trans (Mv.of _ hb.drew))
   replace D := Lib.hid (D.below hb.drew)
   replace hr := Lib.hid (hr.mv (Mv.of _ hb.drew))
   clear hb aP
   go_upto_region 14 with fail
   clear c1 c2 hg
   generalize wr.alloc _ = W at *
   generalize wr.heap.size = pb at *
   go_still_tail 8, (by kernel_rfl)
   change wpList _ _ _ _ _ W.drew
   clear f1 l1 f2 l2
   generalize W.drew = W at *
   go_wp2_with fail
   have AD := sadd_w D.out.st Z.out.2.1 (c := c) (q := x) (by have := Z.out; have := S.out; omega) (by have := Z.out; have := K.out.tr.l1; omega) (by have := Q.out; omega)
   refine AD.mono ?_
   rintro e w5 ⟨rfl, T3, m, hS⟩
   obtain ⟨D', a, b'⟩ := D.out.add m hS Z.out.2.1 (by have := Z.out; have := S.out; omega) Z.out.1
   have J : Hid (JnJ b T d f L ps (lowE (sumP ps) lo lo2) (highE (sumP ps) hi hi2) (some ⟨g, o', none⟩) qs w (k + 1) w5) := ⟨sb', T3, _, mv.out.trans (m.cons b), D', by have := Z.out; omega, hr.out.mv (m.cons b)⟩
   clear D' m hS AD a b' D hr mv r
   go_wp2
   go_roundw
   case rel => exact ⟨k + 1, by omega, by simp, J⟩
   case measure => simp [intOf]; omega
  ·obtain rfl : k = q := by omega
   obtain ⟨sb', T', rs, mv, D, r, _⟩ := J.out
   rw [List.take_of_length_le (by have := Q.out; omega)] at r
   have TD := Lib.hid (dtidy_any D (by have := Q.out; omega))
   have R : Hid (∀ W, DgR b T' d f L (lowE (sumP ps) lo lo2) (highE (sumP ps) hi hi2) (fun us => sumP us = sumP rs ∧ us.length ≤ rs.length) wr W → DjR b T d f L ps qs lo hi lo2 hi2 w (.returned (.int .i64 0)) W) := fun W ⟨s, T2, us, m2, h, q1, q2⟩ => ⟨0, rfl, .inr ⟨rfl, by rw [if_neg (by have := E.out; omega)]; exact ⟨s, T2, us, mv.trans m2, h, by omega, by have := Q.out; omega⟩⟩⟩
   clear mv D r J hlt
   go_wp2_with fail
   refine TD.out.mono ?_
   rintro e w5 ⟨rfl, h5⟩
   have R := Lib.hid (R.out w5 h5)
   clear h5
   go_wp2
   go_ret
   exact R.out
end
end Go.Proofs.YtlbnlmhcpephbaaGreatDoor

namespace Go.Proofs.YtlbnlmhcpephbaaGreatDoor
open Go.RowKit
def DgP (b pb : Nat) (cs ds : Array Value) (W : World) : Prop := At W b cs 169 ∧ At W pb ds 247
theorem DgP.a {b pb : Nat} {cs ds : Array Value} {W : World} (h : DgP b pb cs ds W) : At W b cs 169 := h.1
theorem DgP.p {b pb : Nat} {cs ds : Array Value} {W : World} (h : DgP b pb cs ds W) : At W pb ds 247 := h.2
section
variable {w W W' w' : World} {A : Option Addr} {rs : List (Int × Int)} {b sb : Nat} {T : List Nat} {d f L lo hi : Int}
structure LdJ (w W : World) (A : Option Addr) (rs : List (Int × Int)) (b sb : Nat) (T : List Nat) (d f L : Int) (k : Nat) : Prop where
 bl : Below w.heap.size w W
 dg : DgB W b sb T d f L (rs.take k) 0 0
 ge : ∀ j ∈ b :: T, w.heap.size ≤ j
 rd : RdA W A (rs.flatMap fun x => [.int .i64 x.1, .int .u64 x.2]) (b :: T)
theorem LdJ.below {k : Nat} (h : LdJ w W A rs b sb T d f L k) (hb : Below W.heap.size W W') : LdJ w W' A rs b sb T d f L k := ⟨keep1 h.bl hb, h.dg.below hb, h.ge, h.rd.mv (Mv.of _ hb)⟩
def DlR (d f L : Int) (rs : List (Int × Int)) (lo hi : Int) (w : World) (e : Ending) (w' : World) : Prop :=
 ((∃ b sb T, e = .returned (.tuple #[.pointer (some ⟨b, 0, none⟩), .int .i64 0]) ∧ DgB w' b sb T d f L rs lo hi ∧ Within (b :: T) w.heap.size w'.heap.size) ∨ ∃ c : Int, c ≠ 0 ∧ e = .returned (.tuple #[.pointer none, .int .i64 c])) ∧ Below w.heap.size w w'
set_option maxRecDepth 100000 in
set_option maxHeartbeats 2000000 in
theorem dload_any {cap n : Nat} (hL : TrD d L) (hr : RdP w A rs) (hn : rs.length = n) (hn4 : n ≤ 4000) (gd : Gd rs) (ok : okP rs) (sm : sumP rs ≤ 9223372036854775807) (nd : ∀ x ∈ rs, 1 ≤ x.1 ∧ x.1 < 2 * L)
  (hlo : -9223372036854775808 ≤ lo ∧ lo ≤ 9223372036854775807) (hhi : -9223372036854775808 ≤ hi ∧ hi ≤ 9223372036854775807) :
  Calls Tryz.prog 89 #[.agg #[.int .i64 d, .int .i64 f], .slice A n cap, .int .i64 lo, .int .i64 hi] w (DlR d f L rs lo hi w) := by
 have s := At.new w #[.int .i64 d, .int .i64 f] 117
 have g := s.two
 have hb := bn w (.cells #[.int .i64 d, .int .i64 f] 117)
 have NW := Lib.hid (dnew_any d f (w.alloc (.cells #[.int .i64 d, .int .i64 f] 117)))
 have Z := Lib.hid (And.intro gd (And.intro ok (And.intro sm (And.intro nd hn))))
 have HR := Lib.hid hr
 have LO := Lib.hid (And.intro hlo hhi)
 have HL := Lib.hid hL
 have F : Hid (∀ (c : Int) W, c ≠ 0 → Below w.heap.size w W → DlR d f L rs lo hi w (.returned (.tuple #[.pointer none, .int .i64 c])) W) := fun c W h k => ⟨.inr ⟨c, h, rfl⟩, k⟩
 clear hL hr hn gd ok sm nd hlo hhi
 go_enter Tryz.func89, Tryz.ntmps89
 go_wp2_with fail
 refine NW.out.mono ?_
 rintro e w1 ⟨⟨b, sb, T, L', rfl, D, wi⟩ | rfl, hb1⟩
 ·obtain rfl : L' = L := D.tr.e.symm.trans HL.out.e
  have J : Hid (LdJ w w1 A rs b sb T d f L' 0) := ⟨keep1 hb hb1, by simpa using D, fun j hj => by have := (wi j hj).1; simp at this; omega, RdA.new HR.out (keep1 hb hb1) fun j hj => by have := (wi j hj).1; simp at this; omega⟩
  clear D wi hb hb1 s g NW HR
  go_wp2
  go_loopw [12, 31] (fun l i wr => ∃ (k : Nat) (q : Int), k ≤ n ∧ l = .int .i64 q ∧ i = .int .i64 k ∧ (∀ j (h : j < rs.length), k ≤ j → q < rs[j].1) ∧ ∃ T, Hid (LdJ w wr A rs b sb T d f L' k)) (fun _ i _ => n - (intOf i).toNat)
  case atStart => exact ⟨0, 0, by omega, rfl, rfl, fun j h _ => by have := Z.out.2.2.2.1 _ (List.getElem_mem h); omega, T, J⟩
  case round =>
   clear J
   obtain ⟨k, q, hk, rfl, rfl, hq, T, J⟩ := hrel
   by_cases hlt : k < n
   ·have hkl : k < rs.length := by have := Z.out.2.2.2.2; omega
    have D := J.out.dg
    obtain ⟨g, o', rfl, hg, c1, c2⟩ := RdP.at J.out.rd.1 k hkl
    have qx := hq k hkl (Nat.le_refl _)
    have nx := Z.out.2.2.2.1 _ (List.getElem_mem hkl)
    have gp := Z.out.1.pos _ (List.getElem_mem hkl)
    have tk := sumP_take rs k hkl
    have tl := sumP_take_le Z.out.1.pos (k + 1)
    have tt := List.take_succ_eq_append_getElem hkl
    have lt := fun x => gd_lt (x := x) Z.out.1 hkl
    have gt : ∀ j (h : j < rs.length), k + 1 ≤ j → rs[k].1 < rs[j].1 := fun j h e => List.pairwise_iff_getElem.1 Z.out.1.srt k j hkl h (by omega)
    obtain ⟨⟨x, c⟩, hx⟩ : ∃ p, rs[k] = p := ⟨_, rfl⟩
    rw [hx] at c1 c2 qx nx gp tk tt gt
    simp only [hx] at lt
    dsimp only at c1 c2 qx nx gp tk gt
    have Y := Lib.hid (And.intro nx (And.intro gp (And.intro tk (And.intro tl (And.intro tt (And.intro lt gt))))))
    have ec : decide (x ≤ q) = false := decide_eq_false (by omega)
    have hb := bn wr (.cells #[.int .i64 x, .int .u64 c] 247)
    have aP := At.new wr #[.int .i64 x, .int .u64 c] 247
    have J1 := Lib.hid (J.out.below hb)
    have GD := Lib.hid fun W => good_any d L' x W D.tr (by have := D.tr.l1; omega)
    rw [decide_eq_true nx] at GD
    have pn : Hid (wr.heap.size ∉ b :: T) := fun m => by have := D.lt _ m; omega
    have s1 := J1.out.dg.at'
    clear hkl nx gp tk tl tt lt gt hx hb D hq J qx
    go_upto_region 8 with fail
    clear c1 c2 hg
    generalize wr.alloc _ = W at *
    generalize wr.heap.size = pb at *
    have hP : DgP b pb #[.int .i64 d, .int .i64 f, .int .i64 d, .pointer (some ⟨sb, 0, none⟩), .int .i64 0, .int .i64 0] #[.int .i64 x, .int .u64 c] W := ⟨s1, aP⟩
    replace hP : DgP b pb #[.int .i64 d, .int .i64 f, .int .i64 d, .pointer (some ⟨sb, 0, none⟩), .int .i64 0, .int .i64 0] #[.int .i64 x, .int .u64 c] W.drew := hP
    replace J1 := Lib.hid (J1.out.below (Below.refl _ _).drew)
    refine wp_region_noPanic ?_
    refine wp_region_held_drew (by kernel_rfl) (HeldS.mk' hP) (fun hHeld => ?_)
    generalize W.drew = W2 at *
    have hne : Nonempty (Held (DgP b pb #[.int .i64 d, .int .i64 f, .int .i64 d, .pointer (some ⟨sb, 0, none⟩), .int .i64 0, .int .i64 0] #[.int .i64 x, .int .u64 c])) := ⟨⟨W2, hP⟩⟩
    have hf1 := fun x : Held (DgP b pb #[.int .i64 d, .int .i64 f, .int .i64 d, .pointer (some ⟨sb, 0, none⟩), .int .i64 0, .int .i64 0] #[.int .i64 x, .int .u64 c]) => x.held.a.c6
    have hf2 := fun x : Held (DgP b pb #[.int .i64 d, .int .i64 f, .int .i64 d, .pointer (some ⟨sb, 0, none⟩), .int .i64 0, .int .i64 0] #[.int .i64 x, .int .u64 c]) => x.held.p.two
    clear s1 aP
    refine runH [11] 15 hHeld ?_
    simp only [runL, runN, runOps_true, runOps_false, runOps_nil]
    repeat go_big_quiet_step (fail)
    refine wpQuiet_nil ?_
    refine readyH 11 fun K hK => ?_
    go_simp
    go_wp2_with (go_at_call 108; refine (GD.out _).mono ?_; rintro e w5 ⟨rfl, hb5⟩)
    refine hK.out _ _ ?_ (fun hHeld => ?_)
    clear hK K
    ·exact HeldS.mk' ⟨hP.a.below hb5, hP.p.below hb5⟩
    replace hP : DgP b pb #[.int .i64 d, .int .i64 f, .int .i64 d, .pointer (some ⟨sb, 0, none⟩), .int .i64 0, .int .i64 0] #[.int .i64 x, .int .u64 c] w5 := ⟨hP.a.below hb5, hP.p.below hb5⟩
    replace J1 := Lib.hid (J1.out.below hb5)
    clear hb5
    refine runH [0, 12, 11] 3 hHeld ?_
    simp only [runL, runN, runOps_true, runOps_false, runOps_nil]
    repeat go_big_quiet_step (fail)
    refine wpQuiet_nil ?_
    refine readyH 23 fun K hK => ?_
    go_simp
    go_wp2_with (go_at_call 105; refine (sadd_w J1.out.dg.st Y.out.2.1 (by have := Y.out; have := Z.out; omega) (by have := Y.out; have := HL.out.l1; omega) (by simp; omega)).mono ?_; rintro e w6 ⟨rfl, T3, m, hS⟩)
    refine hK.out _ _ ?_ (fun hHeld => ?_)
    clear hK K
    ·exact HeldS.mk' ⟨m.f.at hP.a J1.out.dg.ne, m.f.at hP.p fun h => pn.out (by simp [h])⟩
    refine runH [0, 24, 2] 0 hHeld ?_
    simp only [runL, runN, runOps_true, runOps_false, runOps_nil]
    repeat go_big_quiet_step (fail)
    refine wpQuiet_nil ?_
    refine wpAnyH_done (by kernel_rfl) ?_ _
    refine NoPanic.normal ?_
    have s5 := m.f.at hP.p fun h => pn.out (by simp [h])
    have f5 := s5.two
    have l5 := s5.lt
    clear hf1 hf2 hne hHeld
    have D := (J1.out.dg.add m hS Y.out.2.1 (by have := Y.out; have := Z.out; omega) Y.out.1).1
    rw [rowAdd_end J1.out.dg.st.gd Y.out.2.2.2.2.2.1 Y.out.2.1 (by have := Y.out; have := Z.out; have := sumP_nonneg J1.out.dg.st.gd.pos; omega), ← Y.out.2.2.2.2.1] at D
    have J : Hid (LdJ w w6 (some ⟨g, o', none⟩) rs b sb T3 d f L' (k + 1)) := ⟨(m.cons b).f.below J1.out.bl J1.out.bl.size J1.out.ge, D, (m.cons b).ge J1.out.ge J1.out.bl.size, J1.out.rd.mv (m.cons b)⟩
    have gt := Lib.hid Y.out.2.2.2.2.2.2
    clear D m hS s5 hP J1 Y GD ec
    go_wp2
    go_roundw
    case rel => exact ⟨k + 1, x, by omega, rfl, by simp, gt.out, T3, J⟩
    case measure => simp [intOf]; omega
   ·obtain rfl : k = n := by omega
    replace J : Hid (LdJ w wr A rs b sb T d f L' k) := J
    obtain ⟨l, LM⟩ := dlimit_any J.out.dg
    have LV := Lib.hid fun W => leaves_any d L' W HL.out
    have LF := Lib.hid fun W x hx => leaf_any d L' x W HL.out hx
    have MO := Lib.hid fun W (h : LdJ w W A rs b sb T d f L' k) => dmost_any h.dg
    replace LM := Lib.hid LM
    have JB : Hid (Below wr.heap.size wr wr) := Below.refl _ _
    clear hlt hq
    go_wp2
    go_loopw [66] (fun i wq => ∃ j : Nat, j ≤ k ∧ i = .int .i64 j ∧ Hid (LdJ w wq A rs b sb T d f L' k) ∧ Hid (Below wr.heap.size wr wq)) (fun i _ => k - (intOf i).toNat)
    case atStart => exact ⟨0, by omega, rfl, J, JB⟩
    case round =>
     clear J JB
     obtain ⟨j, hj, rfl, J, JB⟩ := hrel
     by_cases hlt : j < k
     ·have hkl : j < rs.length := by have := Z.out.2.2.2.2; omega
      obtain ⟨g, o', rfl, hg, c1, c2⟩ := RdP.at J.out.rd.1 j hkl
      obtain ⟨⟨x, c⟩, hx⟩ : ∃ p, rs[j] = p := ⟨_, rfl⟩
      rw [hx] at c1 c2
      dsimp only at c1 c2
      have hb := bn wr (.cells #[.int .i64 x, .int .u64 c] 247)
      have aP := At.new wr #[.int .i64 x, .int .u64 c] 247
      replace J := Lib.hid (J.out.below hb)
      replace JB := Lib.hid (keep1 JB.out hb)
      have s1 := J.out.dg.at'
      clear hkl hx hb
      go_upto_region 15 with fail
      clear c1 c2 hg
      generalize wr.alloc _ = W at *
      generalize wr.heap.size = pb at *
      cases hx : decide (x < L')
      all_goals
       have hfar1 := fun x : Far W => (x.at s1).c6
       have hfar2 := fun x : Far W => (x.at aP).two
       refine wp_region_far (by kernel_rfl) (by kernel_rfl) ?_
       repeat go_big_quiet_step (first | (with_reducible refine far_of (LV.out _)) | (with_reducible refine far_of (LM.out _ (keep1 JB.out (Far.below _)))))
       refine wpQuiet_nil ?_
       rintro _ ⟨xq, rfl⟩
       clear hfar1 hfar2
       replace J := Lib.hid (J.out.below xq.below)
       replace JB := Lib.hid (keep1 JB.out xq.below)
       generalize xq.far = W2 at *
       clear s1 aP xq
      ·go_wp2
       go_roundw
       case rel => exact ⟨j + 1, by omega, by simp, J, JB⟩
       case measure => simp [intOf]; omega
      ·by_cases hc : l < c
       ·have R := Lib.hid (F.out 1 W2 (by omega) J.out.bl)
        go_wp2
        go_ret2
        exact R.out
       ·go_wp2
        go_roundw
        case rel => exact ⟨j + 1, by omega, by simp, J, JB⟩
        case measure => simp [intOf]; omega
     ·obtain rfl : j = k := by omega
      have s1 := J.out.dg.at'
      have f1 := s1.c6
      have l1 := s1.lt
      clear JB hlt LM LV
      go_wp2_with fail
      refine (LF.out wr lo LO.out.1).mono ?_
      rintro e w5 ⟨rfl, hb5⟩
      replace J := Lib.hid (J.out.below hb5)
      replace s1 := s1.below hb5
      clear f1 l1
      have f1 := s1.c6
      have l1 := s1.lt
      clear hb5
      obtain ⟨v1, g1, hv1⟩ : ∃ v g, (if 0 ≤ lo ∧ lo < L' then Value.tuple #[.int .i64 (L' + lo), .bool true] else .tuple #[.int .i64 0, .bool false]) = .tuple #[.int .i64 v, .bool g] := by split <;> exact ⟨_, _, rfl⟩
      rw [hv1]
      clear hv1
      go_wp2_with fail
      refine (LF.out w5 hi LO.out.2).mono ?_
      rintro e w6 ⟨rfl, hb5⟩
      replace J := Lib.hid (J.out.below hb5)
      replace s1 := s1.below hb5
      clear f1 l1
      have f1 := s1.c6
      have l1 := s1.lt
      clear hb5
      obtain ⟨v2, g2, hv2⟩ : ∃ v g, (if 0 ≤ hi ∧ hi < L' then Value.tuple #[.int .i64 (L' + hi), .bool true] else .tuple #[.int .i64 0, .bool false]) = .tuple #[.int .i64 v, .bool g] := by split <;> exact ⟨_, _, rfl⟩
      rw [hv2]
      clear hv2 LF
      go_wp2_with fail
      refine (MO.out w6 J.out).mono ?_
      rintro e w7 ⟨rfl, rfl⟩
      have R := Lib.hid (F.out 1 w6 (by omega) J.out.bl)
      have D := J.out.dg
      rw [List.take_of_length_le (by have := Z.out.2.2.2.2; omega)] at D
      have D2 := D.set (x := lo) (y := 0) (D.at'.set_any 4 (.int .i64 lo) rfl)
      have D3 := D2.set (x := lo) (y := hi) (D2.at'.set_any 5 (.int .i64 hi) rfl)
      have FIN : Hid (DlR d f L' rs lo hi w (.returned (.tuple #[.pointer (some ⟨b, 0, none⟩), .int .i64 0])) ((w6.setCell ⟨b, 4, none⟩ (.int .i64 lo)).setCell ⟨b, 5, none⟩ (.int .i64 hi))) := ⟨.inl ⟨b, sb, T, rfl, D3, fun q hq => ⟨J.out.ge q hq, D3.lt q hq⟩⟩, (J.out.bl.setCell (J.out.ge b (by simp)) _).setCell (J.out.ge b (by simp)) _⟩
      clear D D2 D3 MO J s1
      go_wp2
      all_goals
       go_ret2
       first | exact R.out | exact FIN.out
 ·replace hb := keep1 hb hb1
  go_wp2
  go_ret2
  exact F.out 1 _ (by omega) hb
end
end Go.Proofs.YtlbnlmhcpephbaaGreatDoor

namespace Go.Proofs.YtlbnlmhcpephbaaGreatDoor
open Go.RowKit
def flatL (ls : List Lu) : List Value := ls.flatMap fun x => [.int .u64 x.1, .int .i64 x.2.1, .int .i64 x.2.2]
theorem flatL_one {ls : List Lu} : ∀ u ∈ flatL ls, u.oneCell' = true := by
 intro u hu
 simp only [flatL, List.mem_flatMap, List.mem_cons, List.not_mem_nil, or_false] at hu
 obtain ⟨x, _, rfl | rfl | rfl⟩ := hu <;> rfl
structure LmB (w : World) (b : Nat) (A : Option Addr) (c : Nat) (mo : Int) (ls : List Lu) (n : Int) : Prop where
 at' : At w b #[.int .i64 mo, .slice A ls.length c, .int .u64 n] 181
 own : w.ownsRow 0 235 3 (.slice A ls.length c) ls.length (flatL ls)
 ne : b ∉ blk A
section
variable {w w' : World} {b c : Nat} {A : Option Addr} {mo n lo hi : Int} {ls : List Lu} {T : List Nat}
theorem LmB.frame (h : LmB w b A c mo ls n) (hf : Frame T w w') (hn : Apart (b :: blk A) T) : LmB w' b A c mo ls n := ⟨hf.at h.at' (hn b (by simp)), own_frame h.own hf fun k hk => hn k (by simp [hk]), h.ne⟩
theorem LmB.below (h : LmB w b A c mo ls n) (hb : Below w.heap.size w w') : LmB w' b A c mo ls n := h.frame (T := []) (Frame.of_below hb) fun _ _ => by simp
theorem LmB.lt (h : LmB w b A c mo ls n) : ∀ k ∈ b :: blk A, k < w.heap.size := fun k hk => by
 rcases List.mem_cons.1 hk with rfl | hk
 ·exact h.at'.lt
 ·exact (own_blk h.own k hk).2
theorem LmB.rd (h : LmB w b A c mo ls n) {i : Nat} (hi : i < ls.length) : ∃ g, A = some ⟨g, 0, none⟩ ∧ g < w.heap.size ∧ w.cell? ⟨g, i * 3, none⟩ = some (.int .u64 ls[i].1) ∧ w.cell? ⟨g, i * 3 + 1, none⟩ = some (.int .i64 ls[i].2.1) ∧ w.cell? ⟨g, i * 3 + 2, none⟩ = some (.int .i64 ls[i].2.2) := by
 obtain ⟨g, rfl⟩ := (own_nil h.own).2.2 (.inl (by omega))
 obtain ⟨g', o, e, hg, c1, c2, c3⟩ := Rd.at3 (own_rd h.own) hi
 cases e
 rw [Nat.zero_add] at c1 c2 c3
 exact ⟨_, rfl, hg, c1, c2, c3⟩
def LmN (mo : Int) (w : World) (e : Ending) (w' : World) : Prop := ((∃ b, e = .returned (.tuple #[.pointer (some ⟨b, 0, none⟩), .int .i64 0]) ∧ LmB w' b none 0 mo [] 0 ∧ b = w.heap.size ∧ 2 ≤ mo ∧ mo ≤ 64) ∨ e = .returned (.tuple #[.pointer none, .int .i64 1])) ∧ Below w.heap.size w w'
theorem lmnew_any (mo : Int) (w : World) : Calls Tryz.prog 47 #[.int .i64 mo] w (LmN mo w) := by
 have R : (2 ≤ mo ∧ mo ≤ 64) → Hid (LmN mo w (.returned (.tuple #[.pointer (some ⟨w.heap.size, 0, none⟩), .int .i64 0])) (w.alloc (.cells #[.int .i64 mo, .slice none 0 0, .int .u64 0] 181))) := fun h => ⟨.inl ⟨_, rfl, ⟨At.new w _ _, World.ownsRow_nil _ _ _ _, by simp [blk]⟩, rfl, h⟩, bn _ _⟩
 by_cases h1 : mo < 2 <;> by_cases h2 : 64 < mo
 all_goals
  try have R := R (by omega)
  go_enter Tryz.func47, Tryz.ntmps47
  go_wp2
  go_ret2
  first | exact ⟨.inr rfl, Below.refl _ _⟩ | exact R.out
theorem lmtotal_any (h : LmB w b A c mo ls n) : Calls Tryz.prog 359 #[.pointer (some ⟨b, 0, none⟩)] w fun e w' => e = .returned (.int .u64 n) ∧ w = w' := by
 have f := h.at'.three
 clear h
 go_enter Tryz.func359, Tryz.ntmps359
 go_wp2
 go_ret
 exact ⟨rfl, rfl⟩
theorem lmmost_any (h : LmB w b A c mo ls n) : Calls Tryz.prog 378 #[.pointer (some ⟨b, 0, none⟩)] w fun e w' => e = .returned (.int .i64 mo) ∧ w = w' := by
 have f := h.at'.three
 clear h
 go_enter Tryz.func378, Tryz.ntmps378
 go_wp2
 go_ret
 exact ⟨rfl, rfl⟩
theorem lmlumps_any (h : LmB w b A c mo ls n) (hl : ls.length ≤ 8000) : Calls Tryz.prog 377 #[.pointer (some ⟨b, 0, none⟩)] w (ClnG .l ls.length (flatL ls) w) := by
 have f := h.at'.three
 have H := Lib.hid (clone_g (j := .l) h.own flatL_one (by omega))
 dsimp only [Sl.cln] at H
 clear h
 generalize ls.length = m at *
 go_enter Tryz.func377, Tryz.ntmps377
 go_wp2_with fail
 refine H.out.mono ?_
 rintro e w1 ⟨A', c', rfl, h⟩
 have h := Lib.hid h
 go_wp2
 go_ret
 exact ⟨_, _, rfl, h.out⟩
theorem LuG.head (h : LuG ls n lo hi) (h0 : 0 < ls.length) : ls[0].2.1 = lo ∧ ls[0].2.2 ≤ hi := by
 obtain ⟨⟨sr, _, _⟩, p, q, r, s⟩ := h
 obtain ⟨x, l, rfl⟩ : ∃ x l, ls = x :: l := by cases ls with | nil => simp at h0 | cons x l => exact ⟨_, _, rfl⟩
 rw [List.pairwise_cons] at sr
 simp only [List.map_cons, List.mem_cons, reduceCtorEq, false_or, List.getElem_cons_zero] at p q r s ⊢
 refine ⟨?_, q _ (.inl rfl)⟩
 have := p _ (.inl rfl)
 obtain ⟨v, hv, e⟩ := r
 rcases hv with rfl | hv
 ·exact e
 ·obtain ⟨y, hy, rfl⟩ := List.mem_map.1 hv
  have := sr.1 y hy
  unfold lless at this
  omega
set_option maxHeartbeats 1000000 in
theorem lmends_any (h : LmB w b A c mo ls n) (g : LuG ls n lo hi) (hl : ls.length ≤ 8000) : Calls Tryz.prog 356 #[.pointer (some ⟨b, 0, none⟩)] w fun e w' => e = .returned (if n = 0 then .tuple #[.int .i64 0, .int .i64 0, .bool false] else .tuple #[.int .i64 lo, .int .i64 hi, .bool true]) ∧ Below w.heap.size w w' := by
 have f := h.at'.three
 have gl := g.1.len
 by_cases hn : n = 0
 ·subst hn
  obtain rfl : ls = [] := List.eq_nil_of_length_eq_zero (by omega)
  rw [if_pos rfl]
  have l := h.at'.lt
  clear h g gl hl
  go_enter Tryz.func356, Tryz.ntmps356
  go_wp2
  try go_quiet (fail)
  go_wp2
  go_ret3
  first | exact ⟨rfl, (Below.refl _ _).drewN _⟩ | exact ⟨rfl, Below.refl _ _⟩
 ·rw [if_neg hn]
  have l0 : 0 < ls.length := by
   rcases Nat.eq_zero_or_pos ls.length with e | e
   ·have := List.eq_nil_of_length_eq_zero e; subst this; exact absurd g.1.sum.symm hn
   ·exact e
  obtain ⟨ga, rfl, hg, _, c2, c3⟩ := h.rd l0
  rw [Nat.zero_mul] at c2 c3
  have hd := g.head l0
  obtain ⟨m, hm⟩ : ∃ m, ls.length = m := ⟨_, rfl⟩
  obtain ⟨v0, hv⟩ : ∃ v, ls[0].2.2 = v := ⟨_, rfl⟩
  rw [hd.1] at c2
  rw [hv] at c3 hd
  rw [hm] at f l0 hl
  have H := Lib.hid h
  have G := Lib.hid (And.intro g hm)
  have n0 : ((m : Int) == 0) = false := beq_eq_false_iff_ne.2 (by omega)
  have k1 : (0 : Int) < m := by omega
  have V0 : Hid (v0 ≤ hi ∧ ∀ x ∈ ls.take 0, x.2.2 ≤ v0) := ⟨hd.2, by simp⟩
  have C := Lib.hid (And.intro c2 hg)
  have s := h.at'
  clear h g gl hd hm hv
  go_enter Tryz.func356, Tryz.ntmps356
  go_wp2
  go_loopw [5, 7, 30] (fun v _ i wr => ∃ k : Nat, ∃ y, k ≤ m ∧ i = .int .i64 k ∧ v = .int .i64 y ∧ Hid (y ≤ hi ∧ ∀ x ∈ ls.take k, x.2.2 ≤ y) ∧ Below w.heap.size w wr) (fun _ _ i _ => m - (intOf i).toNat)
  case atStart => exact ⟨0, v0, by omega, rfl, rfl, V0, Below.refl _ _⟩
  case round =>
   clear f c2 c3 V0
   obtain ⟨k, y, hk, rfl, rfl, V, hB⟩ := hrel
   by_cases hlt : k < m
   ·have hkl : k < ls.length := by have := G.out.2; omega
    obtain ⟨g', e, hg', d1, d2, d3⟩ := (H.out.below hB).rd hkl
    cases e
    have V2 : Hid (max y ls[k].2.2 ≤ hi ∧ ∀ x ∈ ls.take (k + 1), x.2.2 ≤ max y ls[k].2.2) := ⟨by have := V.out.1; have := G.out.1.2.hi1 _ (List.mem_map_of_mem (List.getElem_mem hkl)); omega, fun x hx => by
     rw [List.take_succ_eq_append_getElem hkl] at hx
     rcases List.mem_append.1 hx with hx | hx
     ·have := V.out.2 x hx; omega
     ·rw [List.mem_singleton] at hx; subst hx; omega⟩
    generalize ls[k] = z at *
    obtain ⟨z1, z2, z3⟩ := z
    dsimp only at *
    have zB := hB.size
    clear hkl V
    go_wp2
    go_roundw
    case rel => exact ⟨k + 1, _, by omega, by simp, rfl, V2, (by repeat (first | with_reducible assumption | with_reducible exact Below.refl _ _ | with_reducible refine Below.drew ?_ | with_reducible refine Below.drewN ?_ _ | with_reducible refine Below.setCell ?_ (by first | omega | (simp; done) | (simp; omega)) _ | with_reducible refine Below.alloc ?_ (by first | omega | (simp; done) | (simp; omega) | (simp [World.setCell]; omega)) _))⟩
    case measure => simp [intOf]; omega
   ·obtain rfl : k = m := by omega
    have fW := (s.below hB).three
    have lW := (s.below hB).lt
    have e2 := cellB hB C.out.2 C.out.1
    obtain rfl : y = hi := by
     have ⟨a, b⟩ := V.out
     rw [List.take_of_length_le (by have := G.out.2; omega)] at b
     rcases G.out.1.2.hi2 with e | ⟨v, hv, e⟩
     ·have := congrArg List.length e; simp at this; have := G.out.2; simp_all
     ·obtain ⟨x, hx, rfl⟩ := List.mem_map.1 hv
      have := b x hx; omega
    clear V
    go_wp2
    go_ret3
    exact ⟨rfl, hB⟩
end
end Go.Proofs.YtlbnlmhcpephbaaGreatDoor
