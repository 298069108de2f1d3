/- Texts of this claim, joined, indents halved: Tup2, Tup3, Tup4, Tup5. -/
import Derived.Test.YtlbnlmhcpephbaaGreatDoorProg
import Derived.Test.YtlbnlmhcpephbaaGreatDoorKc15
namespace Go.Proofs.YtlbnlmhcpephbaaGreatDoor
open Go.RowKit Tt
def BdT (ps : List Tu) : Prop := ∀ t ∈ ps, (1 ≤ t.2.1 ∧ 0 ≤ t.2.2) ∧ t.2.1 + t.2.2 < 18446744073709551616
theorem tget_mem {ps : List Tu} {k : Nat} (h : k < ps.length) : tget ps k ∈ ps := by
 unfold tget
 rw [List.getD_eq_getElem?_getD, List.getElem?_eq_getElem h]
 exact List.getElem_mem h
def slkT (ps : List Tu) (k : Nat) : Int := if 0 < k ∧ k < ps.length then (tget ps k).2.1 + (tget ps k).2.2 - 1 else 0
def TinR (base : Nat) (A : Option Addr) (ps : List Tu) (x : Int) (w : World) (e : Ending) (w' : World) : Prop :=
 ∃ k, PosA ps x k ∧ ∃ A' c', e = .returned (.slice A' (ps.length + 1) c') ∧ OwnT base w' A' c' (ps.take k ++ (x, 1, slkT ps k) :: ps.drop k) ∧ Frame (blk A) w w' ∧ ∀ j ∈ blk A', j ∈ blk A ∨ w.heap.size ≤ j
theorem tin_end (base : Nat) (A : Option Addr) (c : Nat) (ps : List Tu) (x d : Int) (k : Nat) (w W : World) (hB : Below w.heap.size w W) (hown : OwnT base w A c ps) (hk : k ≤ ps.length) (hlen : ps.length ≤ 1048576) (hb : base ≤ w.heap.size) (vb : Nat) (hv : At W vb #[.int .i64 x, .int .u64 1, .int .u64 d] 230) (hvb : w.heap.size ≤ vb) :
    Calls Tryz.prog 282 #[.slice A ps.length c, .int .i64 k, .slice (some ⟨vb, 0, none⟩) 1 1] W fun e w' =>
      ∃ A' c', e = .returned (.slice A' (ps.length + 1) c') ∧ OwnT base w' A' c' (ps.take k ++ (x, 1, d) :: ps.drop k) ∧ Frame (blk A) w w' ∧ ∀ j ∈ blk A', j ∈ blk A ∨ w.heap.size ≤ j := by
  refine (Tt.insert_any base A c k ps (x, 1, d) vb W (hown.below hB) hk hlen hv (fun j hj e => ?_) (Nat.le_trans hb hB.size)).mono ?_
  · have : j < w.heap.size := by
      cases A with
      | none => simp [blk] at hj
      | some a =>
        simp only [blk, List.mem_singleton] at hj
        rw [hj]; exact (hown.base_le a rfl).2
    omega
  · rintro e w' ⟨A', c', rfl, ho, hf, hm⟩
    refine ⟨A', c', rfl, ho, (Frame.of_below hB).trans hf, fun j hj => ?_⟩
    rcases hm j hj with h | h
    · exact .inl h
    · exact .inr (Nat.le_trans hB.size h)
set_option maxRecDepth 100000 in
set_option maxHeartbeats 2000000 in
theorem tin_any (base : Nat) (A : Option Addr) (c : Nat) (ps : List Tu) (x : Int) (w : World) (hown : OwnT base w A c ps) (hg : ps.Pairwise fun a b => a.1 ≤ b.1) (hbd : BdT ps) (hlen : ps.length ≤ 1048576) (hb : base ≤ w.heap.size) :
  Calls Tryz.prog 277 #[.slice A ps.length c, .int .i64 x] w fun e w' => TinR base A ps x w e w' := by
 have HC := Lib.hid (after_any A c ps.length ps x w rfl hown.rd hg (by omega))
 have HI := Lib.hid (fun k d W hB hk => tin_end base A c ps x d k w W hB hown hk hlen hb)
 have HR := Lib.hid hown.rd
 have HBd := Lib.hid hbd
 obtain ⟨n, hn⟩ : ∃ n, ps.length = n := ⟨_, rfl⟩
 have HN := Lib.hid hn
 rw [hn] at HC hlen ⊢
 simp only [hn] at HI
 clear hown hg hbd hb
 go_enter Tryz.func277, Tryz.ntmps277
 go_wp2_with (go_at_call 281; refine HC.out.mono ?_)
 rintro e w1 ⟨⟨k, rfl, hp⟩, hB⟩
 have HP := Lib.hid hp
 have hk : k ≤ n := by rw [← hn]; exact hp.le
 obtain ⟨B, hBs⟩ : ∃ B, w1.heap.size = B := ⟨_, rfl⟩
 have hwB : w.heap.size ≤ B := by rw [← hBs]; exact hB.size
 have HB1 := Lib.hid hB
 clear HC hp hn hB
 by_cases h1 : 0 < k ∧ k < n
 ·obtain ⟨g, o, rfl, hgs, hc1, hc2, hc3⟩ := HR.out.at' k (by rw [HN.out]; exact h1.2)
  have hbk := HBd.out _ (tget_mem (by rw [HN.out]; exact h1.2 : k < ps.length))
  have HS : Hid (slkT ps k = (tget ps k).2.1 + (tget ps k).2.2 - 1) := by show _ = _; unfold slkT; rw [if_pos (by rw [HN.out]; exact h1)]
  obtain ⟨⟨y, s, l⟩, hy⟩ : ∃ y, tget ps k = y := ⟨_, rfl⟩
  rw [hy] at hc1 hc2 hc3 hbk HS
  dsimp only at hc1 hc2 hc3 hbk HS
  have hg1 : g < w1.heap.size := Nat.lt_of_lt_of_le hgs HB1.out.size
  replace hc2 := cellB HB1.out hgs hc2
  replace hc3 := cellB HB1.out hgs hc3
  have k0 : (0 : Int) < k := by omega
  have k1 : (k : Int) < n := by omega
  have k2 : (0 : Int) ≤ k := by omega
  have v1 : IntKind.u64.wrap (s + l) = s + l := by simp only [IntKind.wrap_u64]; omega
  have v2 : IntKind.u64.wrap (s + l - 1) = s + l - 1 := by simp only [IntKind.wrap_u64]; omega
  clear hy hc1
  go_wp2
  refine gen_world (fun W => Hid (Below w1.heap.size w1 W ∧ At W B #[.int .i64 x, .int .u64 1, .int .u64 0] 230)) ?_ ?_
  ·subst hBs
   exact ⟨(by repeat (first | with_reducible assumption | with_reducible exact Below.refl _ _ | with_reducible refine Below.drew ?_ | with_reducible refine Below.drewN ?_ _ | with_reducible refine Below.setCell ?_ (by first | omega | (simp; done) | (simp; omega)) _ | with_reducible refine Below.alloc ?_ (by first | omega | (simp; done) | (simp; omega) | (simp [World.setCell]; omega)) _)), (by repeat (first | with_reducible assumption | (with_reducible apply At.new'; (first | with_reducible rfl | (simp; done))) | with_reducible apply At.set2 | with_reducible apply At.alloc | with_reducible apply At.drew | with_reducible apply At.drewN | (with_reducible apply At.set_other; (case hne => first | (simp; done) | (simp; omega)))))⟩
  rintro W HW
  have TK : W.drew.cell? ⟨g, o + k * 3 + 1, none⟩ = some (.int .u64 s) ∧ W.drew.cell? ⟨g, o + k * 3 + 2, none⟩ = some (.int .u64 l) := ⟨cellB HW.out.1.drew hg1 hc2, cellB HW.out.1.drew hg1 hc3⟩
  have sP := HW.out.2.drew
  have aP := HW.out.2.drew.three
  have lP := HW.out.2.drew.lt
  clear hc2 hc3
  refine wp_region_noPanic ?_
  refine wp_region_until (S := HeldS fun W' => W'.cell? ⟨g, o + k * 3 + 1, none⟩ = some (.int .u64 s) ∧ W'.cell? ⟨g, o + k * 3 + 2, none⟩ = some (.int .u64 l)) 13 (by kernel_rfl) ?_
  obtain ⟨W0, hW0⟩ : ∃ W0, W.drew = W0 := ⟨_, rfl⟩
  have HW0 := Lib.hid hW0
  rw [hW0] at TK sP aP lP ⊢
  have hHeld : HeldS (fun W' => W'.cell? ⟨g, o + k * 3 + 1, none⟩ = some (.int .u64 s) ∧ W'.cell? ⟨g, o + k * 3 + 2, none⟩ = some (.int .u64 l)) W0 := HeldS.mk' TK
  have hne : Nonempty (Held fun W' => W'.cell? ⟨g, o + k * 3 + 1, none⟩ = some (.int .u64 s) ∧ W'.cell? ⟨g, o + k * 3 + 2, none⟩ = some (.int .u64 l)) := ⟨⟨W0, TK⟩⟩
  have hneF : Nonempty (Held fun _ => True) := ⟨⟨W0, trivial⟩⟩
  have hfar1 := fun z : Held (fun W' => W'.cell? ⟨g, o + k * 3 + 1, none⟩ = some (.int .u64 s) ∧ W'.cell? ⟨g, o + k * 3 + 2, none⟩ = some (.int .u64 l)) => z.held.1
  have hfar2 := fun z : Held (fun W' => W'.cell? ⟨g, o + k * 3 + 1, none⟩ = some (.int .u64 s) ∧ W'.cell? ⟨g, o + k * 3 + 2, none⟩ = some (.int .u64 l)) => z.held.2
  clear hW0
  refine wpAnyU_run0F [true, true, true, true, false, true, true, true, true] 6 (by kernel_rfl) (by kernel_rfl) (fun _ _ _ _ h => h) (by kernel_rfl) hHeld ?_
  simp only [runOps_true, runOps_false, runOps_nil]
  repeat (first | go_big_quiet_skip | (go_big_quiet_want; go_big_quiet_op; go_big_quiet_on))
  refine wpQuiet_nil ?_
  refine wpAnyU_run0 [false, false, false, false, true, false, false, false, false, true] 4 (by kernel_rfl) (by kernel_rfl) (fun _ _ _ _ h => h) (by kernel_rfl) hHeld ?_
  simp only [runOps_true, runOps_false, runOps_nil]
  repeat (first | go_big_quiet_skip | (go_big_quiet_want; go_big_quiet_op; go_big_quiet_on))
  refine wpQuiet_nil ?_
  refine wpAnyU_run0F [false, false, false, false, false, false, false, false, false, false, true, true, true] 1 (by kernel_rfl) (by kernel_rfl) (fun _ _ _ _ h => h) (by kernel_rfl) hHeld ?_
  simp only [runOps_true, runOps_false, runOps_nil]
  repeat (first | go_big_quiet_skip | (go_big_quiet_want; go_big_quiet_op; go_big_quiet_on))
  refine wpQuiet_nil ?_
  clear hfar1 hfar2 hne hneF
  refine wpAnyU_ready (rs := [13]) (by kernel_rfl) (by simp) ?_
  refine AllReadyU.cons rfl (fun K hK => ?_) (AllReadyU.nil)
  go_simp
  go_wp2
  refine hK.out _ _ (fun h => late_no h (by kernel_rfl)) ?_
  clear hK K
  refine wpAnyU_done (by kernel_rfl) ?_ _
  refine NoPanic.normal ?_
  have sN := sP.set_any 2 (.int .u64 (s + l - 1)) rfl
  have bN : Below w.heap.size w (W0.setCell ⟨B, 2, none⟩ (.int .u64 (s + l - 1))) := Below.setCell (by rw [← HW0.out]; exact (HB1.out.trans (HW.out.1.mono HB1.out.size)).drew) hwB _
  clear sP aP lP TK hHeld HW0 HW
  obtain ⟨W1, hW1⟩ : ∃ W1, W0.setCell ⟨B, 2, none⟩ (.int .u64 (s + l - 1)) = W1 := ⟨_, rfl⟩
  rw [hW1] at sN bN ⊢
  have HBN := Lib.hid bN
  clear hW1 bN
  have aN := sN.three
  have lN := sN.lt
  go_wp2_with (go_at_call 282; refine (HI.out k (s + l - 1) _ ?_ hk _ ?_ ?_).mono ?_)
  case refine_1 => exact HBN.out.alloc HBN.out.size _
  case refine_2 => exact At.new' _ _ _ rfl
  case refine_3 => exact HBN.out.size
  rintro e w' ⟨A', c', rfl, ho, hf, hm⟩
  have HRR : Hid (TinR base (some ⟨g, o, none⟩) ps x w (.returned (.slice A' (n + 1) c')) w') := ⟨k, HP.out, A', c', by rw [HN.out], by rw [HS.out]; exact ho, hf, hm⟩
  clear ho hf hm
  go_wp2
  go_ret
  exact HRR.out
 ·have HS : Hid (slkT ps k = 0) := by show _ = _; unfold slkT; rw [if_neg (by rw [HN.out]; exact h1)]
  by_cases h2 : 0 < k
  ·have k0 : (0 : Int) < k := by omega
   have k1 : ¬ (k : Int) < n := by omega
   clear HR HBd
   go_wp2_with (go_at_call 282; refine (HI.out k 0 _ ?_ hk _ ?_ ?_).mono ?_)
   case refine_1 =>
    subst hBs
    exact HB1.out.trans (Below.mono (by repeat (first | with_reducible assumption | with_reducible exact Below.refl _ _ | with_reducible refine Below.drew ?_ | with_reducible refine Below.drewN ?_ _ | with_reducible refine Below.setCell ?_ (by first | omega | (simp; done) | (simp; omega)) _ | with_reducible refine Below.alloc ?_ (by first | omega | (simp; done) | (simp; omega) | (simp [World.setCell]; omega)) _)) HB1.out.size)
   case refine_2 => exact At.new' _ _ _ (by simp [hBs])
   case refine_3 => exact Nat.le_trans hwB (by simp)
   rintro e w' ⟨A', c', rfl, ho, hf, hm⟩
   have HRR : Hid (TinR base A ps x w (.returned (.slice A' (n + 1) c')) w') := ⟨k, HP.out, A', c', by rw [HN.out], by rw [HS.out]; exact ho, hf, hm⟩
   clear ho hf hm
   go_wp2
   go_ret
   exact HRR.out
  ·obtain rfl : k = 0 := by omega
   have HI2 := HI.out 0
   simp only [show ((0 : Nat) : Int) = 0 from rfl] at HI2
   replace HI2 := Lib.hid HI2
   clear HR HBd
   go_wp2_with (go_at_call 282; refine (HI2.out 0 _ ?_ hk _ ?_ ?_).mono ?_)
   case refine_1 =>
    subst hBs
    exact HB1.out.trans (Below.mono (by repeat (first | with_reducible assumption | with_reducible exact Below.refl _ _ | with_reducible refine Below.drew ?_ | with_reducible refine Below.drewN ?_ _ | with_reducible refine Below.setCell ?_ (by first | omega | (simp; done) | (simp; omega)) _ | with_reducible refine Below.alloc ?_ (by first | omega | (simp; done) | (simp; omega) | (simp [World.setCell]; omega)) _)) HB1.out.size)
   case refine_2 => exact At.new' _ _ _ (by simp [hBs])
   case refine_3 => exact Nat.le_trans hwB (by simp)
   rintro e w' ⟨A', c', rfl, ho, hf, hm⟩
   have HRR : Hid (TinR base A ps x w (.returned (.slice A' (n + 1) c')) w') := ⟨0, HP.out, A', c', by rw [HN.out], by rw [HS.out]; exact ho, hf, hm⟩
   clear ho hf hm
   go_wp2
   go_ret
   exact HRR.out
end Go.Proofs.YtlbnlmhcpephbaaGreatDoor

namespace Go.Proofs.YtlbnlmhcpephbaaGreatDoor
open Go.RowKit Tt
theorem flatT_setS (ls : List Tu) (k : Nat) (v : Int) (hk : k < ls.length) : flatT (ls.set k ((tget ls k).1, v, (tget ls k).2.2)) = (flatT ls).set (k * 3 + 1) (.int .u64 v) := by
  induction ls generalizing k with
  | nil => simp at hk
  | cons x ls ih =>
    cases k with
    | zero => simp [flatT, tget]
    | succ k =>
      have := ih k (by simpa using hk)
      rw [List.set_cons_succ, show tget (x :: ls) (k + 1) = tget ls k from rfl, flatT_cons, flatT_cons, show (k + 1) * 3 + 1 = (k * 3 + 1) + 1 + 1 + 1 by omega]
      rw [this]
      simp only [List.cons_append, List.nil_append, List.set_cons_succ]
theorem ownT_set {base : Nat} {w : World} {g c k : Nat} {v : Int} {ls : List Tu} (h : OwnT base w (some ⟨g, 0, none⟩) c ls) (hk : k < ls.length) : OwnT base (w.setCell ⟨g, k * 3 + 1, none⟩ (.int .u64 v)) (some ⟨g, 0, none⟩) c (ls.set k ((tget ls k).1, v, (tget ls k).2.2)) := by
 have hown := own_setCell h (o := k * 3 + 1) (by omega) (.int .u64 v)
 rw [← flatT_setS ls k v hk] at hown
 show World.ownsRow _ _ _ _ _ _ _
 rw [List.length_set]
 exact hown
theorem ownT_frz {base : Nat} {w : World} {g c : Nat} {ls : List Tu} (h : OwnT base w (some ⟨g, 0, none⟩) c ls) (o : Nat) : w.frozen? ⟨g, o, none⟩ = false := by
 rcases h.2 with ⟨e, _⟩ | ⟨g', cp, cur, e, _, hc, _⟩
 ·cases e
 ·simp only [Value.slice.injEq, Option.some.injEq, Addr.mk.injEq] at e
  obtain ⟨⟨rfl, _⟩, _⟩ := e
  simp [World.frozen?, hc]
theorem ownT_at {base : Nat} {w : World} {A : Option Addr} {c : Nat} {ls : List Tu} (h : OwnT base w A c ls) (hl : 0 < ls.length) : ∃ g, A = some ⟨g, 0, none⟩ := by
 rcases h.2 with ⟨_, h0⟩ | ⟨g, cp, cur, e, _⟩
 ·omega
 ·simp only [Value.slice.injEq] at e; exact ⟨g, e.1⟩
def SqzR (base : Nat) (A : Option Addr) (c : Nat) (ps : List Tu) (L : Int) (w : World) (e : Ending) (w' : World) : Prop :=
 ∃ qs, e = .returned (.slice A qs.length c) ∧ OwnT base w' A c qs ∧ Sqz L ps qs ∧ Frame (blk A) w w'
structure SqzJ (base : Nat) (A : Option Addr) (c : Nat) (ps : List Tu) (L : Int) (w w' : World) (qs : List Tu) : Prop where
 own : OwnT base w' A c qs
 sqz : Sqz L ps qs
 fr : Frame (blk A) w w'
set_option maxRecDepth 100000 in
set_option maxHeartbeats 4000000 in
theorem squeeze_any (base : Nat) (A : Option Addr) (c : Nat) (ps : List Tu) (L : Int) (w : World) (hown : OwnT base w A c ps) (hbd : BdS ps) (hlen : ps.length ≤ 1048576) :
  Calls Tryz.prog 278 #[.slice A ps.length c, .int .u64 L] w fun e w' => SqzR base A c ps L w e w' := by
 have HJ0 : Hid (SqzJ base A c ps L w w ps) := ⟨hown, Sqz.refl _ _, Frame.refl _ _⟩
 have HBD := Lib.hid hbd
 obtain ⟨n, hn⟩ : ∃ n, ps.length = n := ⟨_, rfl⟩
 have HN := Lib.hid hn
 rw [hn] at hlen ⊢
 have v0 : IntKind.i64.wrap ((n : Int) - 2) = n - 2 := by simp only [IntKind.wrap_i64]; omega
 clear hown hbd hn
 go_enter Tryz.func278, Tryz.ntmps278
 go_wp2
 refine wp_scope_again 0 (fun a' w' => ∃ (m : Nat) (i : Int) (qs : List Tu) (l : List Value), a' = { tmps := (.slice A m c :: .int .u64 L :: undef :: undef :: .slice none 0 0 :: .int .i64 i :: l).toArray, defers := [] } ∧ l.length = 46 ∧ qs.length = m ∧ m ≤ n ∧ i + 2 ≤ m ∧ -2 ≤ i ∧ Hid (SqzJ base A c ps L w w' qs)) (fun a' _ => (intOf (a'.tmps.getD 5 undef) + 2).toNat) rfl ?_ ?_
 ·rintro a' w0 ⟨m, i, qs, l, rfl, hll, hm, hmn, hi, hi2, HJ⟩
  revert hll
  revert l
  refine curryY_elim ?_
  intro u1 u2 u3 u4 u5 u6 u7 u8 u9 u10 u11 u12 u13 u14 u15 u16 u17 u18 u19 u20 u21 u22 u23 u24 u25 u26 u27 u28 u29 u30 u31 u32 u33 u34 u35 u36 u37 u38 u39 u40 u41 u42 u43 u44 u45 u46
  dsimp only [CurryY]
  clear HJ0 v0
  have HM := Lib.hid hm
  by_cases h1 : i < 1
  ·have HF : Hid (SqzR base A c ps L w (.returned (.slice A m c)) w0) := ⟨qs, by rw [HM.out], HJ.out.own, HJ.out.sqz, HJ.out.fr⟩
   clear hm
   go_wp2
   simp only [Exit.jump]
   go_ret
   exact HF.out
  ·obtain ⟨k, rfl⟩ : ∃ k : Nat, i = k := ⟨i.toNat, by omega⟩
   have hk1 : k + 1 < m := by omega
   obtain ⟨g, rfl⟩ := ownT_at HJ.out.own (by omega)
   obtain ⟨⟨y1, s1, l1⟩, hy1⟩ : ∃ y, tget qs k = y := ⟨_, rfl⟩
   obtain ⟨⟨y2, s2, l2⟩, hy2⟩ : ∃ y, tget qs (k + 1) = y := ⟨_, rfl⟩
   have hsp := two_split qs (0, 0, 0) k (by omega)
   rw [show qs.getD k (0, 0, 0) = tget qs k from rfl, show qs.getD (k + 1) (0, 0, 0) = tget qs (k + 1) from rfl, hy1, hy2] at hsp
   have hbb := HJ.out.sqz.bd HBD.out
   rw [hsp] at hbb
   obtain ⟨b1, b2, b3, b4⟩ := hbb.two
   dsimp only at b1 b2 b3 b4
   obtain ⟨g', o, e, hgs, _, c1, _⟩ := HJ.out.own.rd.at' k (by omega)
   cases e
   obtain ⟨g', o, e, _, d1, d2, d3⟩ := HJ.out.own.rd.at' (k + 1) (by omega)
   cases e
   rw [hy1] at c1
   rw [hy2] at d1 d2 d3
   dsimp only at c1 d1 d2 d3
   rw [Nat.zero_add] at c1 d1 d2 d3
   have HSP := Lib.hid hsp
   have HY2 := Lib.hid hy2
   have k0 : (0 : Int) ≤ k := by omega
   have k1 : (k : Int) < m := by omega
   have k2 : IntKind.i64.wrap ((k : Int) + 1) = ((k + 1 : Nat) : Int) := by simp only [IntKind.wrap_i64]; omega
   have k3 : (0 : Int) ≤ ((k + 1 : Nat) : Int) := by omega
   have k4 : ((k + 1 : Nat) : Int) < m := by omega
   have k5 : IntKind.i64.wrap ((k : Int) - 1) = k - 1 := by simp only [IntKind.wrap_i64]; omega
   have v1 : IntKind.u64.wrap (s1 + s2) = s1 + s2 := by simp only [IntKind.wrap_u64]; omega
   have v2 : IntKind.u64.wrap (s1 + s2 + l2) = s1 + s2 + l2 := by simp only [IntKind.wrap_u64]; omega
   have v3 : IntKind.u64.wrap (s2 + s1) = s1 + s2 := by simp only [IntKind.wrap_u64]; omega
   obtain ⟨B, hBs⟩ : ∃ B, w0.heap.size = B := ⟨_, rfl⟩
   clear hm hsp hy1 hy2 hbb
   go_wp2
   have bW : Below w0.heap.size w0 (w0.alloc (.cells #[.int .i64 y2, .int .u64 s2, .int .u64 l2] 230)) := (by repeat (first | with_reducible assumption | with_reducible exact Below.refl _ _ | with_reducible refine Below.drew ?_ | with_reducible refine Below.drewN ?_ _ | with_reducible refine Below.setCell ?_ (by first | omega | (simp; done) | (simp; omega)) _ | with_reducible refine Below.alloc ?_ (by first | omega | (simp; done) | (simp; omega) | (simp [World.setCell]; omega)) _))
   have aB := At.new' w0 #[.int .i64 y2, .int .u64 s2, .int .u64 l2] 230 hBs.symm
   generalize w0.alloc (.cells #[.int .i64 y2, .int .u64 s2, .int .u64 l2] 230) = W1 at bW aB ⊢
   have HB1 := Lib.hid bW
   replace c1 := cellB bW hgs c1
   replace d2 := cellB bW hgs d2
   have gW : g < W1.heap.size := Nat.lt_of_lt_of_le hgs bW.size
   have hfa1 := fun x : Far W1 => x.cell gW c1
   clear d1 d3 hBs bW
   have hfar1 := fun x : Far W1 => (x.at aB).three
   refine wp_region_far (by kernel_rfl) (by kernel_rfl) ?_
   repeat (first | go_big_quiet_skip | (go_big_quiet_want; go_big_quiet_op; first | go_big_quiet_on | (apply Exists.intro; refine ⟨fun _ => ?_, ?_⟩; (focus (first | fail)); go_big_quiet_on)))
   refine wpQuiet_nil ?_
   rintro _ ⟨xq, rfl⟩
   clear hfar1
   clear hfa1
   by_cases hle : s1 + s2 + l2 ≤ L
   ·obtain ⟨W2, hW2⟩ : ∃ W2, xq.far = W2 := ⟨_, rfl⟩
    have HB2 : Hid (Below w0.heap.size w0 W2) := by rw [← hW2]; exact HB1.out.trans ((Far.below xq).mono HB1.out.size)
    have e1 : W2.cell? ⟨g, k * 3 + 1, none⟩ = some (.int .u64 s1) := by rw [← hW2]; exact cellB (Far.below xq) gW c1
    have e2 : W2.cell? ⟨g, (k + 1) * 3 + 1, none⟩ = some (.int .u64 s2) := by rw [← hW2]; exact cellB (Far.below xq) gW d2
    rw [hW2]
    clear hW2 xq c1 d2 gW aB
    have hO2 := HJ.out.own.below HB2.out
    have fz := fun o => ownT_frz (hO2.below (Below.refl _ _).drew) o
    have TK : W2.drew.cell? ⟨g, k * 3 + 1, none⟩ = some (.int .u64 s1) ∧ W2.drew.cell? ⟨g, (k + 1) * 3 + 1, none⟩ = some (.int .u64 s2) := ⟨e1, e2⟩
    have hO3 := ownT_set (v := s1 + s2) (hO2.below (Below.refl _ _).drew) (k := k + 1) (by rw [HM.out]; exact hk1)
    have hF3 : Frame [g] w0 (W2.drew.setCell ⟨g, (k + 1) * 3 + 1, none⟩ (.int .u64 (s1 + s2))) := (Frame.of_below HB2.out.drew).setc (.inl (by simp)) _ _
    have HD := Lib.hid (Tt.delete_any base g c k _ _ hO3 (by rw [List.length_set, HM.out]; omega) (by rw [List.length_set, HM.out]; omega))
    have HF3 := Lib.hid hF3
    rw [List.length_set, HM.out] at HD
    clear hO2 hO3 hF3 e1 e2
    go_wp2
    refine wp_region_noPanic ?_
    refine wp_region_until (S := HeldS fun W' => W'.cell? ⟨g, k * 3 + 1, none⟩ = some (.int .u64 s1) ∧ W'.cell? ⟨g, (k + 1) * 3 + 1, none⟩ = some (.int .u64 s2)) 14 (by kernel_rfl) ?_
    obtain ⟨W3, hW3⟩ : ∃ W3, W2.drew = W3 := ⟨_, rfl⟩
    rw [hW3] at TK fz HD HF3 ⊢
    have hHeld : HeldS (fun W' => W'.cell? ⟨g, k * 3 + 1, none⟩ = some (.int .u64 s1) ∧ W'.cell? ⟨g, (k + 1) * 3 + 1, none⟩ = some (.int .u64 s2)) W3 := HeldS.mk' TK
    have hne : Nonempty (Held fun W' => W'.cell? ⟨g, k * 3 + 1, none⟩ = some (.int .u64 s1) ∧ W'.cell? ⟨g, (k + 1) * 3 + 1, none⟩ = some (.int .u64 s2)) := ⟨⟨W3, TK⟩⟩
    have hneF : Nonempty (Held fun _ => True) := ⟨⟨W3, trivial⟩⟩
    have hfar1 := fun z : Held (fun W' => W'.cell? ⟨g, k * 3 + 1, none⟩ = some (.int .u64 s1) ∧ W'.cell? ⟨g, (k + 1) * 3 + 1, none⟩ = some (.int .u64 s2)) => z.held.1
    have hfar2 := fun z : Held (fun W' => W'.cell? ⟨g, k * 3 + 1, none⟩ = some (.int .u64 s1) ∧ W'.cell? ⟨g, (k + 1) * 3 + 1, none⟩ = some (.int .u64 s2)) => z.held.2
    clear hW3
    refine wpAnyU_run0F [true, true, true, true, true, false, true, true, true, true] 6 (by kernel_rfl) (by kernel_rfl) (fun _ _ _ _ h => h) (by kernel_rfl) hHeld ?_
    simp only [runOps_true, runOps_false, runOps_nil]
    repeat (first | go_big_quiet_skip | (go_big_quiet_want; go_big_quiet_op; go_big_quiet_on))
    refine wpQuiet_nil ?_
    refine wpAnyU_run0 [false, false, false, false, false, true, false, false, false, false, true] 4 (by kernel_rfl) (by kernel_rfl) (fun _ _ _ _ h => h) (by kernel_rfl) hHeld ?_
    simp only [runOps_true, runOps_false, runOps_nil]
    repeat (first | go_big_quiet_skip | (go_big_quiet_want; go_big_quiet_op; go_big_quiet_on))
    refine wpQuiet_nil ?_
    refine wpAnyU_run0F [false, false, false, false, false, false, false, false, false, false, false, true, true, true] 1 (by kernel_rfl) (by kernel_rfl) (fun _ _ _ _ h => h) (by kernel_rfl) hHeld ?_
    simp only [runOps_true, runOps_false, runOps_nil]
    repeat (first | go_big_quiet_skip | (go_big_quiet_want; go_big_quiet_op; go_big_quiet_on))
    refine wpQuiet_nil ?_
    clear hfar1 hfar2 hne hneF
    refine wpAnyU_ready (rs := [14]) (by kernel_rfl) (by simp) ?_
    refine AllReadyU.cons rfl (fun K hK => ?_) (AllReadyU.nil)
    go_simp
    go_wp2
    refine hK.out _ _ (fun h => late_no h (by kernel_rfl)) ?_
    clear hK K
    refine wpAnyU_done (by kernel_rfl) ?_ _
    refine NoPanic.normal ?_
    clear fz hHeld TK
    generalize W3.setCell ⟨g, (k + 1) * 3 + 1, none⟩ (.int .u64 (s1 + s2)) = W4 at HD HF3 ⊢
    go_wp2_with (go_at_call 283; refine HD.out.mono ?_)
    rintro e w5 ⟨he, ho, hf⟩
    rw [List.length_set, HM.out] at he
    subst he
    rw [two_join qs k _ (by rw [HM.out]; exact hk1), HY2.out] at ho
    have hstep := HJ.out.sqz
    rw [HSP.out] at hstep
    have hstep := Sqz.step hstep (fun h0 => by have := congrArg List.length h0; rw [List.length_take, HM.out] at this; simp only [List.length_nil] at this; omega) hle
    have HJ2 : Hid (SqzJ base (some ⟨g, 0, none⟩) c ps L w w5 (qs.take k ++ (y2, s1 + s2, l2) :: qs.drop (k + 2))) := ⟨ho, hstep, HJ.out.fr.trans (HF3.out.trans hf)⟩
    have hlen2 : (qs.take k ++ (y2, s1 + s2, l2) :: qs.drop (k + 2)).length = m - 1 := by rw [List.length_append, List.length_cons, List.length_take, List.length_drop, HM.out]; omega
    clear HD HF3 ho hf hstep
    go_wp2
    go_step3
    refine ⟨rfl, ?_, ?_⟩
    ·exact ⟨m - 1, (k : Int) - 1, qs.take k ++ (y2, s1 + s2, l2) :: qs.drop (k + 2), _, rfl, rfl, hlen2, by omega, by omega, by omega, HJ2⟩
    ·simp [intOf]; omega
   ·go_wp2
    go_step3
    refine ⟨rfl, ?_, ?_⟩
    ·exact ⟨m, (k : Int) - 1, qs, _, rfl, rfl, HM.out, hmn, by omega, by omega, ⟨HJ.out.own.below (HB1.out.trans ((Far.below xq).mono HB1.out.size)), HJ.out.sqz, HJ.out.fr.trans (Frame.of_below (HB1.out.trans ((Far.below xq).mono HB1.out.size)))⟩⟩
    ·simp [intOf]; omega
 ·intro hpass
  go_wp2
  refine wp_label ?_
  rename_i K0 hK0
  exact hK0 _ _ (hpass _ _ ⟨n, (n : Int) - 2, ps, _, rfl, rfl, HN.out, Nat.le_refl _, by omega, by omega, HJ0⟩)
end Go.Proofs.YtlbnlmhcpephbaaGreatDoor

namespace Go.Proofs.YtlbnlmhcpephbaaGreatDoor
open Go.RowKit Tt
theorem BdS.take {ps : List Tu} (h : BdS ps) {k : Nat} (hk : k < ps.length) : 0 ≤ sg (ps.take k) ∧ sg (ps.take k) + (ps[k]'hk).2.1 ≤ sg ps ∧ sg ps + (ps[k]'hk).2.2 < 18446744073709551616 ∧ 1 ≤ (ps[k]'hk).2.1 ∧ 0 ≤ (ps[k]'hk).2.2 := by
 obtain ⟨e1, e2⟩ := take_split hk
 have hm : ps[k]'hk ∈ ps := List.getElem_mem hk
 have h1 := sg_nn (row := ps.take k) fun t ht => h.pos t (List.mem_of_mem_take ht)
 have h2 := sg_nn (row := ps.drop (k + 1)) fun t ht => h.pos t (List.mem_of_mem_drop ht)
 have h3 : sg ps = sg (ps.take k) + ((ps[k]'hk).2.1 + sg (ps.drop (k + 1))) := by
  conv => lhs; rw [e1]
  rw [sg_append, sg_cons]
 have := h.lt _ hm
 have := h.pos _ hm
 omega
set_option maxRecDepth 100000 in
set_option maxHeartbeats 2000000 in
theorem tfind_any (A : Option Addr) (c len : Nat) (ps : List Tu) (t : Int) (w : World) (hlen : ps.length = len) (h : RdT w A ps) (hbd : BdS ps) (ht : 0 ≤ t ∧ t < 18446744073709551616) (hl : len ≤ 1048576) :
  Calls Tryz.prog 279 #[.slice A len c, .int .u64 t] w fun e w' => (∃ best x at', e = .returned (.tuple #[.int .i64 x, .bool (decide (0 < len))]) ∧ FindJ ps t len best x at') ∧ Below w.heap.size w w' := by
 have HR := Lib.hid h
 have HLN := Lib.hid hlen
 have HBD := Lib.hid hbd
 clear h hlen hbd
 go_enter Tryz.func279, Tryz.ntmps279
 go_wp2
 go_loopw [6, 7, 8, 9, 10, 11, 14] (fun b x a _ _ _ i wr => ∃ k : Nat, ∃ bv xv av : Int, k ≤ len ∧ i = .int .i64 k ∧ b = .int .u64 bv ∧ x = .int .i64 xv ∧ a = .int .u64 av ∧ Hid (FindJ ps t k bv xv av) ∧ Below w.heap.size w wr) (fun _ _ _ _ _ _ i _ => len - (intOf i).toNat)
 case atStart => exact ⟨0, 0, 0, 0, by omega, rfl, rfl, rfl, rfl, Lib.hid (FindJ.start _ _), Below.refl _ _⟩
 case round =>
  obtain ⟨k, bv, xv, av, hk, rfl, rfl, rfl, rfl, HJ, hB⟩ := hrel
  by_cases hlt : k < len
  ·obtain ⟨g', o', e, hg', d1, d2, d3⟩ := (HR.out.below hB).at k (by have := HLN.out; omega)
   subst e
   have hkl : k < ps.length := by have := HLN.out; omega
   have HBT := Lib.hid (HBD.out.take hkl)
   have HBe := Lib.hid (fun hd => HJ.out.better hkl hd)
   have HSt := Lib.hid (fun h0 hd => HJ.out.stay hkl h0 hd)
   have HAt := Lib.hid HJ.out.at'
   obtain ⟨⟨z1, z2, z3⟩, hz⟩ : ∃ z, ps[k]'hkl = z := ⟨_, rfl⟩
   rw [hz] at d1 d2 d3 HBT HBe HSt
   dsimp only at d1 d2 d3 HBT HBe HSt
   rw [← HAt.out] at HBT
   have hbt := HBT.out
   have hw : IntKind.u64.wrap (av + z2) = av + z2 := by simp only [IntKind.wrap_u64]; omega
   have hw2 : IntKind.u64.wrap (av + z2 + z3) = av + z2 + z3 := by simp only [IntKind.wrap_u64]; omega
   have HO := fun W => Lib.hid (off_any t (av + z2) (av + z2 + z3) W ht (by omega) (by omega))
   have k0 : (0 : Int) ≤ k := by omega
   have k1 : (k : Int) < len := by omega
   have k2 : IntKind.i64.wrap ((k : Int) + 1) = ((k + 1 : Nat) : Int) := by simp only [IntKind.wrap_i64]; omega
   obtain ⟨B, hBs⟩ : ∃ B, wr.heap.size = B := ⟨_, rfl⟩
   obtain ⟨ov, hov⟩ : ∃ ov, offT t (av + z2) (av + z2 + z3) = ov := ⟨_, rfl⟩
   rw [hov] at HO HBe HSt
   clear hz hkl HR HBT hbt hov
   by_cases h0 : k = 0
   ·have h0' : ((k : Int) == 0) = true := by subst h0; rfl
    have HN2 := Lib.hid (HBe.out (.inl h0))
    clear HBe HSt h0
    go_wp2_with (go_at_call 284; refine (HO _).out.mono ?_)
    rintro e w2 ⟨rfl, hb2⟩
    have sB := At.below (At.new' wr #[.int .i64 z1, .int .u64 z2, .int .u64 z3] 230 hBs.symm) hb2
    have fB := sB.three
    replace hB := keep1 hB (Below.trans (Below.alloc (Below.refl _ _) (Nat.le_refl _) _) (Below.mono hb2 (by simp)))
    clear hb2 HO d1 d2 d3
    go_wp2
    have hfar1 := fun x : Far w2 => (x.at sB).three
    refine wp_region_far (by kernel_rfl) (by kernel_rfl) ?_
    repeat (first | go_big_quiet_skip | (go_big_quiet_want; go_big_quiet_op; first | go_big_quiet_on | (apply Exists.intro; refine ⟨fun _ => ?_, ?_⟩; (focus (first | fail)); go_big_quiet_on)))
    refine wpQuiet_nil ?_
    rintro _ ⟨xq, rfl⟩
    clear hfar1
    go_wp2
    go_roundw
    case rel => exact ⟨k + 1, ov, z1, av + z2, by omega, by simp, rfl, rfl, rfl, HN2, keep1 hB (Far.below xq)⟩
    case measure => simp [intOf]; omega
   ·have h0' : ((k : Int) == 0) = false := beq_eq_false_iff_ne.2 (by omega)
    by_cases h1 : ov < bv
    ·have HN2 := Lib.hid (HBe.out (.inr h1))
     clear HBe HSt
     go_wp2_with (go_at_call 284; refine (HO _).out.mono ?_)
     rintro e w2 ⟨rfl, hb2⟩
     have sB := At.below (At.new' wr #[.int .i64 z1, .int .u64 z2, .int .u64 z3] 230 hBs.symm) hb2
     have fB := sB.three
     replace hB := keep1 hB (Below.trans (Below.alloc (Below.refl _ _) (Nat.le_refl _) _) (Below.mono hb2 (by simp)))
     clear hb2 HO d1 d2 d3
     go_wp2
     have hfar1 := fun x : Far w2 => (x.at sB).three
     refine wp_region_far (by kernel_rfl) (by kernel_rfl) ?_
     repeat (first | go_big_quiet_skip | (go_big_quiet_want; go_big_quiet_op; first | go_big_quiet_on | (apply Exists.intro; refine ⟨fun _ => ?_, ?_⟩; (focus (first | fail)); go_big_quiet_on)))
     refine wpQuiet_nil ?_
     rintro _ ⟨xq, rfl⟩
     clear hfar1
     go_wp2
     go_roundw
     case rel => exact ⟨k + 1, ov, z1, av + z2, by omega, by simp, rfl, rfl, rfl, HN2, keep1 hB (Far.below xq)⟩
     case measure => simp [intOf]; omega
    ·have HN2 := Lib.hid (HSt.out (by omega) (by omega))
     clear HBe HSt
     go_wp2_with (go_at_call 284; refine (HO _).out.mono ?_)
     rintro e w2 he hb0
     subst he
     have hb2 : Below (wr.alloc (.cells #[.int .i64 z1, .int .u64 z2, .int .u64 z3] 230)).heap.size (wr.alloc (.cells #[.int .i64 z1, .int .u64 z2, .int .u64 z3] 230)) w2 := by simpa [hBs] using hb0
     clear hb0
     have sB := At.below (At.new' wr #[.int .i64 z1, .int .u64 z2, .int .u64 z3] 230 hBs.symm) hb2
     have fB := sB.three
     have hB3 : Below w.heap.size w w2 := keep1 hB (Below.trans (Below.alloc (Below.refl _ _) (Nat.le_refl _) _) (Below.mono hb2 (by simp)))
     clear HO d1 d2 d3
     go_wp2
     go_roundw
     case rel => exact ⟨k + 1, bv, xv, av + z2, by omega, by simp, rfl, rfl, rfl, HN2, hB3⟩
     case measure => simp [intOf]; omega
  ·obtain rfl : k = len := by omega
   clear HR HBD
   go_wp2
   go_ret2
   exact ⟨⟨bv, xv, av, rfl, HJ.out⟩, hB⟩
end Go.Proofs.YtlbnlmhcpephbaaGreatDoor

namespace Go.Proofs.YtlbnlmhcpephbaaGreatDoor
open Go.RowKit Tt
theorem dropWhile_at {P : Tu → Bool} {ps : List Tu} : ∀ {k : Nat}, k ≤ ps.length → (∀ j, j < k → P (tget ps j) = true) → (k < ps.length → P (tget ps k) = false) → ps.dropWhile P = ps.drop k := by
  induction ps with
  | nil => intro k _ _ _; cases k <;> rfl
  | cons p ps ih =>
    intro k hk h1 h2
    cases k with
    | zero =>
      have := h2 (by simp)
      rw [show tget (p :: ps) 0 = p from rfl] at this
      rw [List.dropWhile_cons_of_neg (by rw [this]; simp)]
      rfl
    | succ k =>
      have := h1 0 (by omega)
      rw [show tget (p :: ps) 0 = p from rfl] at this
      rw [List.dropWhile_cons_of_pos this, List.drop_succ_cons]
      exact ih (by simp at hk; exact hk) (fun j hj => h1 (j + 1) (by omega)) (fun hj => h2 (by simp; exact hj))
theorem drop_tget {ps : List Tu} {k : Nat} (h : k < ps.length) : ps.drop k = tget ps k :: ps.drop (k + 1) := by
 unfold tget
 rw [List.getD_eq_getElem?_getD, List.getElem?_eq_getElem h]
 exact List.drop_eq_getElem_cons h
def upT (qs : List Tu) (k : Nat) : Int := if k < qs.length then (tget qs k).2.1 + (tget qs k).2.2 - 1 else 0
theorem PosM.up {qs : List Tu} {x : Int} {k : Nat} (h : PosM qs x k) : exA qs x = upT qs k := by
 have e := dropWhile_at (P := fun t => decide (t.1 < x)) h.le (fun j hj => decide_eq_true (h.under j hj)) (fun hk => decide_eq_false (by have := h.over k (Nat.le_refl _) hk; omega))
 unfold exA upT
 rw [e]
 by_cases hk : k < qs.length
 ·rw [if_pos hk, drop_tget hk]
 ·rw [if_neg hk, List.drop_of_length_le (by omega)]
theorem prtA_fn (bb : Nat) (B : Option Addr) (c m : Nat) (qs : List Tu) (x : Int) (w : World) (hm : qs.length = m) (hbb : At w bb #[.slice B m c] 170) (hR : RdT w B qs) (hs : qs.Pairwise fun a b => a.1 ≤ b.1) (hl : m ≤ 1048576) :
  Calls Tryz.prog 315 #[.int .i64 x, .pointer (some ⟨bb, 0, none⟩)] w fun e w' => (∃ k : Nat, e = .returned (.int .i64 k) ∧ PosM qs x k) ∧ Below w.heap.size w w' := by
 have HC := Lib.hid (bsm_any B c m qs x w hm hR hs (by omega))
 have f1 := hbb.one
 clear hR hs hbb
 go_enter Tryz.func315, Tryz.ntmps315
 go_wp2_with fail
 refine HC.out.mono ?_
 rintro e w1 ⟨⟨k, rfl, hp⟩, hB⟩
 have HP := Lib.hid hp
 clear HC hp
 go_wp2
 go_ret
 exact ⟨⟨k, rfl, HP.out⟩, hB⟩
set_option maxRecDepth 100000 in
set_option maxHeartbeats 4000000 in
theorem prtA_any (A B : Option Addr) (bb c c2 n m : Nat) (ps qs : List Tu) (w : World) (hn : ps.length = n) (hm : qs.length = m) (hR : RdT w A ps) (hQ : RdT w B qs) (hbb : At w bb #[.slice B m c2] 170) (hs : qs.Pairwise fun a b => a.1 ≤ b.1)
  (hbd : ∀ p ∈ ps, ∀ q ∈ qs, 0 ≤ p.2.2 ∧ 1 ≤ q.2.1 ∧ 0 ≤ q.2.2 ∧ p.2.2 + q.2.1 + q.2.2 < 18446744073709551616) (hl : n ≤ 1048576) (hl2 : m ≤ 1048576) :
  Calls Tryz.prog 314 #[.slice A n c, .slice B m c2, .func (.func 315) #[] #[.pointer (some ⟨bb, 0, none⟩)]] w fun e w' => (∃ A' c', e = .returned (.slice A' n c') ∧ OwnT w.heap.size w' A' c' (partA ps qs)) ∧ Below w.heap.size w w' := by
 have HR := Lib.hid hR
 have HQ := Lib.hid hQ
 have HN := Lib.hid hn
 have HM := Lib.hid hm
 have HBD := Lib.hid hbd
 have HCL := Lib.hid (fun W (hB : Below w.heap.size w W) x => prtA_fn bb B c2 m qs x W hm (hbb.below hB) (hQ.below hB) hs hl2)
 clear hR hQ hbb hs hbd hn hm
 go_enter Tryz.func314, Tryz.ntmps314
 go_wp2
 go_loopw [7, 9, 10, 13] (fun o _ _ i wr => ∃ k : Nat, ∃ A' c', k ≤ n ∧ i = .int .i64 k ∧ o = .slice A' k c' ∧ Hid (OwnT w.heap.size wr A' c' ((partA ps qs).take k)) ∧ Below w.heap.size w wr) (fun _ _ _ i _ => n - (intOf i).toNat)
 case atStart => exact ⟨0, none, 0, by omega, rfl, rfl, OwnT.nil _ _, Below.refl _ _⟩
 case round =>
  obtain ⟨k, A', c', hk, rfl, rfl, HO, hB⟩ := hrel
  by_cases hlt : k < n
  ·have hkl : k < ps.length := by have := HN.out; omega
   obtain ⟨g, o, rfl, hg, d1, d2, d3⟩ := (HR.out.below hB).at k hkl
   have HBk := Lib.hid (HBD.out _ (List.getElem_mem hkl))
   obtain ⟨⟨z1, z2, z3⟩, hz⟩ : ∃ z, ps[k]'hkl = z := ⟨_, rfl⟩
   have HT : Hid ((partA ps qs).take (k + 1) = (partA ps qs).take k ++ [(z1, z2, z3 + exA qs z1)]) := by
    show (ps.map fun p => (p.1, p.2.1, p.2.2 + exA qs p.1)).take (k + 1) = (ps.map fun p => (p.1, p.2.1, p.2.2 + exA qs p.1)).take k ++ _
    have hkp : k < (ps.map fun p => (p.1, p.2.1, p.2.2 + exA qs p.1)).length := by rw [List.length_map]; exact hkl
    rw [List.take_succ_eq_append_getElem hkp, List.getElem_map, hz]
   have HL : Hid (((partA ps qs).take k).length = k) := by show _ = _; unfold partA; rw [List.length_take, List.length_map]; omega
   rw [hz] at d1 d2 d3 HBk
   dsimp only at d1 d2 d3 HBk
   have k0 : (0 : Int) ≤ k := by omega
   have k1 : (k : Int) < n := by omega
   have k2 : IntKind.i64.wrap ((k : Int) + 1) = ((k + 1 : Nat) : Int) := by simp only [IntKind.wrap_i64]; omega
   obtain ⟨B0, hB0⟩ : ∃ B0, wr.heap.size = B0 := ⟨_, rfl⟩
   have HB := Lib.hid hB
   clear hz hkl HR
   go_wp2_with (go_at_call 315; refine (HCL.out _ (Below.alloc hB hB.size _) z1).mono ?_)
   rintro e w2 ⟨⟨at', rfl, hp⟩, hb2⟩
   have sB := At.below (At.new' wr #[.int .i64 z1, .int .u64 z2, .int .u64 z3] 230 hB0.symm) hb2
   have HU := Lib.hid hp.up
   have hat : at' ≤ m := by rw [← HM.out]; exact hp.le
   have bW : Below wr.heap.size wr w2 := ((Below.refl _ _).alloc (Nat.le_refl _) _).trans (hb2.mono (by simp))
   have HNUM : Hid True := trivial
   clear hb2 hp hB d1 d2 d3 HCL
   by_cases h1 : at' < m
   ·have hWQ : Below w.heap.size w w2 := HB.out.trans (bW.mono HB.out.size)
    obtain ⟨g2, o2, rfl, hg2, _, c2', c3'⟩ := HQ.out.at' at' (by rw [HM.out]; exact h1)
    have hbk := HBk.out _ (tget_mem (by rw [HM.out]; exact h1 : at' < qs.length))
    have HUU : Hid (upT qs at' = (tget qs at').2.1 + (tget qs at').2.2 - 1) := by show _ = _; unfold upT; rw [if_pos (by rw [HM.out]; exact h1)]
    replace c2' := cellB hWQ hg2 c2'
    replace c3' := cellB hWQ hg2 c3'
    obtain ⟨⟨y, s, l⟩, hy⟩ : ∃ y, tget qs at' = y := ⟨_, rfl⟩
    rw [hy] at c2' c3' hbk HUU
    dsimp only at c2' c3' hbk HUU
    have HZ : Hid (z3 + exA qs z1 = z3 + (s + l - 1)) := by show _ = _; rw [HU.out, HUU.out]
    have j0 : (0 : Int) ≤ at' := by omega
    have j1 : (at' : Int) < m := by omega
    have v1 : IntKind.u64.wrap (s + l) = s + l := by simp only [IntKind.wrap_u64]; omega
    have v2 : IntKind.u64.wrap (s + l - 1) = s + l - 1 := by simp only [IntKind.wrap_u64]; omega
    have v3 : IntKind.u64.wrap (z3 + (s + l - 1)) = z3 + (s + l - 1) := by simp only [IntKind.wrap_u64]; omega
    have fB := sB.three
    have lB := sB.lt
    clear hy hWQ
    go_wp2
    have TK : At w2.drew B0 #[.int .i64 z1, .int .u64 z2, .int .u64 z3] 230 ∧ w2.drew.cell? ⟨g2, o2 + at' * 3 + 1, none⟩ = some (.int .u64 s) ∧ w2.drew.cell? ⟨g2, o2 + at' * 3 + 2, none⟩ = some (.int .u64 l) := ⟨sB.drew, c2', c3'⟩
    have bD : Below wr.heap.size wr w2.drew := bW.drew
    refine wp_region_noPanic ?_
    refine wp_region_until (S := HeldS fun W' => At W' B0 #[.int .i64 z1, .int .u64 z2, .int .u64 z3] 230 ∧ W'.cell? ⟨g2, o2 + at' * 3 + 1, none⟩ = some (.int .u64 s) ∧ W'.cell? ⟨g2, o2 + at' * 3 + 2, none⟩ = some (.int .u64 l)) 16 (by kernel_rfl) ?_
    obtain ⟨W0, hW0⟩ : ∃ W0, w2.drew = W0 := ⟨_, rfl⟩
    rw [hW0] at TK bD ⊢
    have hHeld : HeldS (fun W' => At W' B0 #[.int .i64 z1, .int .u64 z2, .int .u64 z3] 230 ∧ W'.cell? ⟨g2, o2 + at' * 3 + 1, none⟩ = some (.int .u64 s) ∧ W'.cell? ⟨g2, o2 + at' * 3 + 2, none⟩ = some (.int .u64 l)) W0 := HeldS.mk' TK
    have hne : Nonempty (Held fun W' => At W' B0 #[.int .i64 z1, .int .u64 z2, .int .u64 z3] 230 ∧ W'.cell? ⟨g2, o2 + at' * 3 + 1, none⟩ = some (.int .u64 s) ∧ W'.cell? ⟨g2, o2 + at' * 3 + 2, none⟩ = some (.int .u64 l)) := ⟨⟨W0, TK⟩⟩
    have hneF : Nonempty (Held fun _ => True) := ⟨⟨W0, trivial⟩⟩
    have hfar1 := fun z : Held (fun W' => At W' B0 #[.int .i64 z1, .int .u64 z2, .int .u64 z3] 230 ∧ W'.cell? ⟨g2, o2 + at' * 3 + 1, none⟩ = some (.int .u64 s) ∧ W'.cell? ⟨g2, o2 + at' * 3 + 2, none⟩ = some (.int .u64 l)) => z.held.1.three
    have hfar2 := fun z : Held (fun W' => At W' B0 #[.int .i64 z1, .int .u64 z2, .int .u64 z3] 230 ∧ W'.cell? ⟨g2, o2 + at' * 3 + 1, none⟩ = some (.int .u64 s) ∧ W'.cell? ⟨g2, o2 + at' * 3 + 2, none⟩ = some (.int .u64 l)) => z.held.2.1
    have hfar3 := fun z : Held (fun W' => At W' B0 #[.int .i64 z1, .int .u64 z2, .int .u64 z3] 230 ∧ W'.cell? ⟨g2, o2 + at' * 3 + 1, none⟩ = some (.int .u64 s) ∧ W'.cell? ⟨g2, o2 + at' * 3 + 2, none⟩ = some (.int .u64 l)) => z.held.2.2
    clear hW0 sB fB lB bW c2' c3'
    refine wpAnyU_run0F [true, false, true, true, true, true, false, true, true, true, true] 8 (by kernel_rfl) (by kernel_rfl) (fun _ _ _ _ h => h) (by kernel_rfl) hHeld ?_
    simp only [runOps_true, runOps_false, runOps_nil]
    repeat (first | go_big_quiet_skip | (go_big_quiet_want; go_big_quiet_op; go_big_quiet_on))
    refine wpQuiet_nil ?_
    refine wpAnyU_run0 [false, true, false, false, false, false, true, false, false, false, false, true] 5 (by kernel_rfl) (by kernel_rfl) (fun _ _ _ _ h => h) (by kernel_rfl) hHeld ?_
    simp only [runOps_true, runOps_false, runOps_nil]
    repeat (first | go_big_quiet_skip | (go_big_quiet_want; go_big_quiet_op; go_big_quiet_on))
    refine wpQuiet_nil ?_
    refine wpAnyU_run0F [false, false, false, false, false, false, false, false, false, false, false, false, true, true, true, true] 1 (by kernel_rfl) (by kernel_rfl) (fun _ _ _ _ h => h) (by kernel_rfl) hHeld ?_
    simp only [runOps_true, runOps_false, runOps_nil]
    repeat (first | go_big_quiet_skip | (go_big_quiet_want; go_big_quiet_op; go_big_quiet_on))
    refine wpQuiet_nil ?_
    clear hfar1 hfar2 hfar3 hne hneF
    have fB := TK.1.three
    have lB := TK.1.lt
    refine wpAnyU_ready (rs := [16]) (by kernel_rfl) (by simp) ?_
    refine AllReadyU.cons rfl (fun K hK => ?_) (AllReadyU.nil)
    go_simp
    go_wp2
    refine hK.out _ _ (fun h => late_no h (by kernel_rfl)) ?_
    clear hK K
    refine wpAnyU_done (by kernel_rfl) ?_ _
    refine NoPanic.normal ?_
    have sN := TK.1.set_any 2 (.int .u64 (z3 + (s + l - 1))) rfl
    have bN : Below wr.heap.size wr (W0.setCell ⟨B0, 2, none⟩ (.int .u64 (z3 + (s + l - 1)))) := Below.setCell bD (by rw [hB0]; exact Nat.le_refl _) _
    clear TK bD fB lB hHeld
    generalize W0.setCell ⟨B0, 2, none⟩ (.int .u64 (z3 + (s + l - 1))) = WW at sN bN ⊢
    have hWW : Below w.heap.size w WW := HB.out.trans (bN.mono HB.out.size)
    have HOW := Lib.hid (HO.out.below bN)
    have zW := bN.size
    have zH := HB.out.size
    have fN := sN.three
    have lN := sN.lt
    have nTup := HNUM.out
    clear bN sN
    go_wp2_with (at_builtin; refine Tt.wpList_append_tup rfl _ _ rfl w.heap.size A' c' k _ rfl HL.out (HOW.out.below (by repeat (first | with_reducible assumption | with_reducible exact Below.refl _ _ | with_reducible refine Below.drew ?_ | with_reducible refine Below.drewN ?_ _ | with_reducible refine Below.setCell ?_ (by first | omega | (simp; done) | (simp; omega)) _ | with_reducible refine Below.alloc ?_ (by first | omega | (simp; done) | (simp; omega) | (simp [World.setCell]; omega)) _))) _ _ (z1, z2, z3 + (s + l - 1)) rfl (new_three0 (by simp)) (new_three1 (by simp)) (new_three2 (by simp)) (by omega) w (by repeat (first | with_reducible assumption | with_reducible exact Below.refl _ _ | with_reducible refine Below.drew ?_ | with_reducible refine Below.drewN ?_ _ | with_reducible refine Below.setCell ?_ (by first | omega | (simp; done) | (simp; omega)) _ | with_reducible refine Below.alloc ?_ (by first | omega | (simp; done) | (simp; omega) | (simp [World.setCell]; omega)) _)) (by first | omega | (simp; done) | (simp; omega) | (simp [World.setCell]; omega)) ?_; intro A2 cap2 w4 HW2 hB4)
    go_wp2
    go_roundw
    case rel => exact ⟨k + 1, A2, cap2, by omega, by simp, rfl, by rw [HT.out, HZ.out]; exact HW2.out, hB4⟩
    case measure => simp [intOf]; omega
   ·have HZ : Hid (z3 + exA qs z1 = z3) := by show _ = _; rw [HU.out]; unfold upT; rw [if_neg (by rw [HM.out]; exact h1)]; omega
    have j1 : ¬ (at' : Int) < m := by omega
    obtain ⟨WW, hWW0⟩ : ∃ WW, w2 = WW := ⟨_, rfl⟩
    rw [hWW0] at sB bW ⊢
    have sN := sB
    have bN := bW
    clear sB bW hWW0
    have hWW : Below w.heap.size w WW := HB.out.trans (bN.mono HB.out.size)
    have HOW := Lib.hid (HO.out.below bN)
    have zW := bN.size
    have zH := HB.out.size
    have fN := sN.three
    have lN := sN.lt
    have nTup := HNUM.out
    clear bN sN
    go_wp2_with (at_builtin; refine Tt.wpList_append_tup rfl _ _ rfl w.heap.size A' c' k _ rfl HL.out (HOW.out.below (by repeat (first | with_reducible assumption | with_reducible exact Below.refl _ _ | with_reducible refine Below.drew ?_ | with_reducible refine Below.drewN ?_ _ | with_reducible refine Below.setCell ?_ (by first | omega | (simp; done) | (simp; omega)) _ | with_reducible refine Below.alloc ?_ (by first | omega | (simp; done) | (simp; omega) | (simp [World.setCell]; omega)) _))) _ _ (z1, z2, z3) rfl (new_three0 (by simp)) (new_three1 (by simp)) (new_three2 (by simp)) (by omega) w (by repeat (first | with_reducible assumption | with_reducible exact Below.refl _ _ | with_reducible refine Below.drew ?_ | with_reducible refine Below.drewN ?_ _ | with_reducible refine Below.setCell ?_ (by first | omega | (simp; done) | (simp; omega)) _ | with_reducible refine Below.alloc ?_ (by first | omega | (simp; done) | (simp; omega) | (simp [World.setCell]; omega)) _)) (by first | omega | (simp; done) | (simp; omega) | (simp [World.setCell]; omega)) ?_; intro A2 cap2 w4 HW2 hB4)
    go_wp2
    go_roundw
    case rel => exact ⟨k + 1, A2, cap2, by omega, by simp, rfl, by rw [HT.out, HZ.out]; exact HW2.out, hB4⟩
    case measure => simp [intOf]; omega
  ·obtain rfl : k = n := by omega
   have HF : Hid ((partA ps qs).take k = partA ps qs) := by show _ = _; unfold partA; rw [List.take_of_length_le (by rw [List.length_map, HN.out]; exact Nat.le_refl _)]
   have HO2 : Hid (OwnT w.heap.size wr A' c' (partA ps qs)) := by show OwnT _ _ _ _ _; rw [← HF.out]; exact HO.out
   clear HR HQ HO
   go_wp2
   go_ret
   exact ⟨⟨A', c', rfl, HO2.out⟩, hB⟩
theorem PosA.up {qs : List Tu} {x : Int} {k : Nat} (h : PosA qs x k) : exB qs x = upT qs k := by
 have e := dropWhile_at (P := fun t => decide (t.1 ≤ x)) h.le (fun j hj => decide_eq_true (h.under j hj)) (fun hk => decide_eq_false (by have := h.over k (Nat.le_refl _) hk; omega))
 unfold exB upT
 rw [e]
 by_cases hk : k < qs.length
 ·rw [if_pos hk, drop_tget hk]
 ·rw [if_neg hk, List.drop_of_length_le (by omega)]
theorem prtB_fn (bb : Nat) (B : Option Addr) (c m : Nat) (qs : List Tu) (x : Int) (w : World) (hm : qs.length = m) (hbb : At w bb #[.slice B m c] 170) (hR : RdT w B qs) (hs : qs.Pairwise fun a b => a.1 ≤ b.1) (hl : m ≤ 1048576) :
  Calls Tryz.prog 317 #[.int .i64 x, .pointer (some ⟨bb, 0, none⟩)] w fun e w' => (∃ k : Nat, e = .returned (.int .i64 k) ∧ PosA qs x k) ∧ Below w.heap.size w w' := by
 have HC := Lib.hid (after_any B c m qs x w hm hR hs (by omega))
 have f1 := hbb.one
 clear hR hs hbb
 go_enter Tryz.func317, Tryz.ntmps317
 go_wp2_with fail
 refine HC.out.mono ?_
 rintro e w1 ⟨⟨k, rfl, hp⟩, hB⟩
 have HP := Lib.hid hp
 clear HC hp
 go_wp2
 go_ret
 exact ⟨⟨k, rfl, HP.out⟩, hB⟩
set_option maxRecDepth 100000 in
set_option maxHeartbeats 4000000 in
theorem prtB_any (A B : Option Addr) (bb c c2 n m : Nat) (ps qs : List Tu) (w : World) (hn : ps.length = n) (hm : qs.length = m) (hR : RdT w A ps) (hQ : RdT w B qs) (hbb : At w bb #[.slice B m c2] 170) (hs : qs.Pairwise fun a b => a.1 ≤ b.1)
  (hbd : ∀ p ∈ ps, ∀ q ∈ qs, 0 ≤ p.2.2 ∧ 1 ≤ q.2.1 ∧ 0 ≤ q.2.2 ∧ p.2.2 + q.2.1 + q.2.2 < 18446744073709551616) (hl : n ≤ 1048576) (hl2 : m ≤ 1048576) :
  Calls Tryz.prog 314 #[.slice A n c, .slice B m c2, .func (.func 317) #[] #[.pointer (some ⟨bb, 0, none⟩)]] w fun e w' => (∃ A' c', e = .returned (.slice A' n c') ∧ OwnT w.heap.size w' A' c' (partB ps qs)) ∧ Below w.heap.size w w' := by
 have HR := Lib.hid hR
 have HQ := Lib.hid hQ
 have HN := Lib.hid hn
 have HM := Lib.hid hm
 have HBD := Lib.hid hbd
 have HCL := Lib.hid (fun W (hB : Below w.heap.size w W) x => prtB_fn bb B c2 m qs x W hm (hbb.below hB) (hQ.below hB) hs hl2)
 clear hR hQ hbb hs hbd hn hm
 go_enter Tryz.func314, Tryz.ntmps314
 go_wp2
 go_loopw [7, 9, 10, 13] (fun o _ _ i wr => ∃ k : Nat, ∃ A' c', k ≤ n ∧ i = .int .i64 k ∧ o = .slice A' k c' ∧ Hid (OwnT w.heap.size wr A' c' ((partB ps qs).take k)) ∧ Below w.heap.size w wr) (fun _ _ _ i _ => n - (intOf i).toNat)
 case atStart => exact ⟨0, none, 0, by omega, rfl, rfl, OwnT.nil _ _, Below.refl _ _⟩
 case round =>
  obtain ⟨k, A', c', hk, rfl, rfl, HO, hB⟩ := hrel
  by_cases hlt : k < n
  ·have hkl : k < ps.length := by have := HN.out; omega
   obtain ⟨g, o, rfl, hg, d1, d2, d3⟩ := (HR.out.below hB).at k hkl
   have HBk := Lib.hid (HBD.out _ (List.getElem_mem hkl))
   obtain ⟨⟨z1, z2, z3⟩, hz⟩ : ∃ z, ps[k]'hkl = z := ⟨_, rfl⟩
   have HT : Hid ((partB ps qs).take (k + 1) = (partB ps qs).take k ++ [(z1, z2, z3 + exB qs z1)]) := by
    show (ps.map fun p => (p.1, p.2.1, p.2.2 + exB qs p.1)).take (k + 1) = (ps.map fun p => (p.1, p.2.1, p.2.2 + exB qs p.1)).take k ++ _
    have hkp : k < (ps.map fun p => (p.1, p.2.1, p.2.2 + exB qs p.1)).length := by rw [List.length_map]; exact hkl
    rw [List.take_succ_eq_append_getElem hkp, List.getElem_map, hz]
   have HL : Hid (((partB ps qs).take k).length = k) := by show _ = _; unfold partB; rw [List.length_take, List.length_map]; omega
   rw [hz] at d1 d2 d3 HBk
   dsimp only at d1 d2 d3 HBk
   have k0 : (0 : Int) ≤ k := by omega
   have k1 : (k : Int) < n := by omega
   have k2 : IntKind.i64.wrap ((k : Int) + 1) = ((k + 1 : Nat) : Int) := by simp only [IntKind.wrap_i64]; omega
   obtain ⟨B0, hB0⟩ : ∃ B0, wr.heap.size = B0 := ⟨_, rfl⟩
   have HB := Lib.hid hB
   clear hz hkl HR
   go_wp2_with (go_at_call 317; refine (HCL.out _ (Below.alloc hB hB.size _) z1).mono ?_)
   rintro e w2 ⟨⟨at', rfl, hp⟩, hb2⟩
   have sB := At.below (At.new' wr #[.int .i64 z1, .int .u64 z2, .int .u64 z3] 230 hB0.symm) hb2
   have HU := Lib.hid hp.up
   have hat : at' ≤ m := by rw [← HM.out]; exact hp.le
   have bW : Below wr.heap.size wr w2 := ((Below.refl _ _).alloc (Nat.le_refl _) _).trans (hb2.mono (by simp))
   have HNUM : Hid True := trivial
   clear hb2 hp hB d1 d2 d3 HCL
   by_cases h1 : at' < m
   ·have hWQ : Below w.heap.size w w2 := HB.out.trans (bW.mono HB.out.size)
    obtain ⟨g2, o2, rfl, hg2, _, c2', c3'⟩ := HQ.out.at' at' (by rw [HM.out]; exact h1)
    have hbk := HBk.out _ (tget_mem (by rw [HM.out]; exact h1 : at' < qs.length))
    have HUU : Hid (upT qs at' = (tget qs at').2.1 + (tget qs at').2.2 - 1) := by show _ = _; unfold upT; rw [if_pos (by rw [HM.out]; exact h1)]
    replace c2' := cellB hWQ hg2 c2'
    replace c3' := cellB hWQ hg2 c3'
    obtain ⟨⟨y, s, l⟩, hy⟩ : ∃ y, tget qs at' = y := ⟨_, rfl⟩
    rw [hy] at c2' c3' hbk HUU
    dsimp only at c2' c3' hbk HUU
    have HZ : Hid (z3 + exB qs z1 = z3 + (s + l - 1)) := by show _ = _; rw [HU.out, HUU.out]
    have j0 : (0 : Int) ≤ at' := by omega
    have j1 : (at' : Int) < m := by omega
    have v1 : IntKind.u64.wrap (s + l) = s + l := by simp only [IntKind.wrap_u64]; omega
    have v2 : IntKind.u64.wrap (s + l - 1) = s + l - 1 := by simp only [IntKind.wrap_u64]; omega
    have v3 : IntKind.u64.wrap (z3 + (s + l - 1)) = z3 + (s + l - 1) := by simp only [IntKind.wrap_u64]; omega
    have fB := sB.three
    have lB := sB.lt
    clear hy hWQ
    go_wp2
    have TK : At w2.drew B0 #[.int .i64 z1, .int .u64 z2, .int .u64 z3] 230 ∧ w2.drew.cell? ⟨g2, o2 + at' * 3 + 1, none⟩ = some (.int .u64 s) ∧ w2.drew.cell? ⟨g2, o2 + at' * 3 + 2, none⟩ = some (.int .u64 l) := ⟨sB.drew, c2', c3'⟩
    have bD : Below wr.heap.size wr w2.drew := bW.drew
    refine wp_region_noPanic ?_
    refine wp_region_until (S := HeldS fun W' => At W' B0 #[.int .i64 z1, .int .u64 z2, .int .u64 z3] 230 ∧ W'.cell? ⟨g2, o2 + at' * 3 + 1, none⟩ = some (.int .u64 s) ∧ W'.cell? ⟨g2, o2 + at' * 3 + 2, none⟩ = some (.int .u64 l)) 16 (by kernel_rfl) ?_
    obtain ⟨W0, hW0⟩ : ∃ W0, w2.drew = W0 := ⟨_, rfl⟩
    rw [hW0] at TK bD ⊢
    have hHeld : HeldS (fun W' => At W' B0 #[.int .i64 z1, .int .u64 z2, .int .u64 z3] 230 ∧ W'.cell? ⟨g2, o2 + at' * 3 + 1, none⟩ = some (.int .u64 s) ∧ W'.cell? ⟨g2, o2 + at' * 3 + 2, none⟩ = some (.int .u64 l)) W0 := HeldS.mk' TK
    have hne : Nonempty (Held fun W' => At W' B0 #[.int .i64 z1, .int .u64 z2, .int .u64 z3] 230 ∧ W'.cell? ⟨g2, o2 + at' * 3 + 1, none⟩ = some (.int .u64 s) ∧ W'.cell? ⟨g2, o2 + at' * 3 + 2, none⟩ = some (.int .u64 l)) := ⟨⟨W0, TK⟩⟩
    have hneF : Nonempty (Held fun _ => True) := ⟨⟨W0, trivial⟩⟩
    have hfar1 := fun z : Held (fun W' => At W' B0 #[.int .i64 z1, .int .u64 z2, .int .u64 z3] 230 ∧ W'.cell? ⟨g2, o2 + at' * 3 + 1, none⟩ = some (.int .u64 s) ∧ W'.cell? ⟨g2, o2 + at' * 3 + 2, none⟩ = some (.int .u64 l)) => z.held.1.three
    have hfar2 := fun z : Held (fun W' => At W' B0 #[.int .i64 z1, .int .u64 z2, .int .u64 z3] 230 ∧ W'.cell? ⟨g2, o2 + at' * 3 + 1, none⟩ = some (.int .u64 s) ∧ W'.cell? ⟨g2, o2 + at' * 3 + 2, none⟩ = some (.int .u64 l)) => z.held.2.1
    have hfar3 := fun z : Held (fun W' => At W' B0 #[.int .i64 z1, .int .u64 z2, .int .u64 z3] 230 ∧ W'.cell? ⟨g2, o2 + at' * 3 + 1, none⟩ = some (.int .u64 s) ∧ W'.cell? ⟨g2, o2 + at' * 3 + 2, none⟩ = some (.int .u64 l)) => z.held.2.2
    clear hW0 sB fB lB bW c2' c3'
    refine wpAnyU_run0F [true, false, true, true, true, true, false, true, true, true, true] 8 (by kernel_rfl) (by kernel_rfl) (fun _ _ _ _ h => h) (by kernel_rfl) hHeld ?_
    simp only [runOps_true, runOps_false, runOps_nil]
    repeat (first | go_big_quiet_skip | (go_big_quiet_want; go_big_quiet_op; go_big_quiet_on))
    refine wpQuiet_nil ?_
    refine wpAnyU_run0 [false, true, false, false, false, false, true, false, false, false, false, true] 5 (by kernel_rfl) (by kernel_rfl) (fun _ _ _ _ h => h) (by kernel_rfl) hHeld ?_
    simp only [runOps_true, runOps_false, runOps_nil]
    repeat (first | go_big_quiet_skip | (go_big_quiet_want; go_big_quiet_op; go_big_quiet_on))
    refine wpQuiet_nil ?_
    refine wpAnyU_run0F [false, false, false, false, false, false, false, false, false, false, false, false, true, true, true, true] 1 (by kernel_rfl) (by kernel_rfl) (fun _ _ _ _ h => h) (by kernel_rfl) hHeld ?_
    simp only [runOps_true, runOps_false, runOps_nil]
    repeat (first | go_big_quiet_skip | (go_big_quiet_want; go_big_quiet_op; go_big_quiet_on))
    refine wpQuiet_nil ?_
    clear hfar1 hfar2 hfar3 hne hneF
    have fB := TK.1.three
    have lB := TK.1.lt
    refine wpAnyU_ready (rs := [16]) (by kernel_rfl) (by simp) ?_
    refine AllReadyU.cons rfl (fun K hK => ?_) (AllReadyU.nil)
    go_simp
    go_wp2
    refine hK.out _ _ (fun h => late_no h (by kernel_rfl)) ?_
    clear hK K
    refine wpAnyU_done (by kernel_rfl) ?_ _
    refine NoPanic.normal ?_
    have sN := TK.1.set_any 2 (.int .u64 (z3 + (s + l - 1))) rfl
    have bN : Below wr.heap.size wr (W0.setCell ⟨B0, 2, none⟩ (.int .u64 (z3 + (s + l - 1)))) := Below.setCell bD (by rw [hB0]; exact Nat.le_refl _) _
    clear TK bD fB lB hHeld
    generalize W0.setCell ⟨B0, 2, none⟩ (.int .u64 (z3 + (s + l - 1))) = WW at sN bN ⊢
    have hWW : Below w.heap.size w WW := HB.out.trans (bN.mono HB.out.size)
    have HOW := Lib.hid (HO.out.below bN)
    have zW := bN.size
    have zH := HB.out.size
    have fN := sN.three
    have lN := sN.lt
    have nTup := HNUM.out
    clear bN sN
    go_wp2_with (at_builtin; refine Tt.wpList_append_tup rfl _ _ rfl w.heap.size A' c' k _ rfl HL.out (HOW.out.below (by repeat (first | with_reducible assumption | with_reducible exact Below.refl _ _ | with_reducible refine Below.drew ?_ | with_reducible refine Below.drewN ?_ _ | with_reducible refine Below.setCell ?_ (by first | omega | (simp; done) | (simp; omega)) _ | with_reducible refine Below.alloc ?_ (by first | omega | (simp; done) | (simp; omega) | (simp [World.setCell]; omega)) _))) _ _ (z1, z2, z3 + (s + l - 1)) rfl (new_three0 (by simp)) (new_three1 (by simp)) (new_three2 (by simp)) (by omega) w (by repeat (first | with_reducible assumption | with_reducible exact Below.refl _ _ | with_reducible refine Below.drew ?_ | with_reducible refine Below.drewN ?_ _ | with_reducible refine Below.setCell ?_ (by first | omega | (simp; done) | (simp; omega)) _ | with_reducible refine Below.alloc ?_ (by first | omega | (simp; done) | (simp; omega) | (simp [World.setCell]; omega)) _)) (by first | omega | (simp; done) | (simp; omega) | (simp [World.setCell]; omega)) ?_; intro A2 cap2 w4 HW2 hB4)
    go_wp2
    go_roundw
    case rel => exact ⟨k + 1, A2, cap2, by omega, by simp, rfl, by rw [HT.out, HZ.out]; exact HW2.out, hB4⟩
    case measure => simp [intOf]; omega
   ·have HZ : Hid (z3 + exB qs z1 = z3) := by show _ = _; rw [HU.out]; unfold upT; rw [if_neg (by rw [HM.out]; exact h1)]; omega
    have j1 : ¬ (at' : Int) < m := by omega
    obtain ⟨WW, hWW0⟩ : ∃ WW, w2 = WW := ⟨_, rfl⟩
    rw [hWW0] at sB bW ⊢
    have sN := sB
    have bN := bW
    clear sB bW hWW0
    have hWW : Below w.heap.size w WW := HB.out.trans (bN.mono HB.out.size)
    have HOW := Lib.hid (HO.out.below bN)
    have zW := bN.size
    have zH := HB.out.size
    have fN := sN.three
    have lN := sN.lt
    have nTup := HNUM.out
    clear bN sN
    go_wp2_with (at_builtin; refine Tt.wpList_append_tup rfl _ _ rfl w.heap.size A' c' k _ rfl HL.out (HOW.out.below (by repeat (first | with_reducible assumption | with_reducible exact Below.refl _ _ | with_reducible refine Below.drew ?_ | with_reducible refine Below.drewN ?_ _ | with_reducible refine Below.setCell ?_ (by first | omega | (simp; done) | (simp; omega)) _ | with_reducible refine Below.alloc ?_ (by first | omega | (simp; done) | (simp; omega) | (simp [World.setCell]; omega)) _))) _ _ (z1, z2, z3) rfl (new_three0 (by simp)) (new_three1 (by simp)) (new_three2 (by simp)) (by omega) w (by repeat (first | with_reducible assumption | with_reducible exact Below.refl _ _ | with_reducible refine Below.drew ?_ | with_reducible refine Below.drewN ?_ _ | with_reducible refine Below.setCell ?_ (by first | omega | (simp; done) | (simp; omega)) _ | with_reducible refine Below.alloc ?_ (by first | omega | (simp; done) | (simp; omega) | (simp [World.setCell]; omega)) _)) (by first | omega | (simp; done) | (simp; omega) | (simp [World.setCell]; omega)) ?_; intro A2 cap2 w4 HW2 hB4)
    go_wp2
    go_roundw
    case rel => exact ⟨k + 1, A2, cap2, by omega, by simp, rfl, by rw [HT.out, HZ.out]; exact HW2.out, hB4⟩
    case measure => simp [intOf]; omega
  ·obtain rfl : k = n := by omega
   have HF : Hid ((partB ps qs).take k = partB ps qs) := by show _ = _; unfold partB; rw [List.take_of_length_le (by rw [List.length_map, HN.out]; exact Nat.le_refl _)]
   have HO2 : Hid (OwnT w.heap.size wr A' c' (partB ps qs)) := by show OwnT _ _ _ _ _; rw [← HF.out]; exact HO.out
   clear HR HQ HO
   go_wp2
   go_ret
   exact ⟨⟨A', c', rfl, HO2.out⟩, hB⟩
end Go.Proofs.YtlbnlmhcpephbaaGreatDoor
