/- Texts of this claim, joined, indents halved: ERq8, ERq9, ERqA, EKr. -/
import Derived.Test.YtlbnlmhcpephbaaGreatDoorProg
import Derived.Test.YtlbnlmhcpephbaaGreatDoorKe23
namespace Go.Proofs.YtlbnlmhcpephbaaGreatDoor
open Go.RowKit
structure RrN (base : Nat) (w : World) (A : Option Addr) (c : Nat) (rs : List Ro) : Prop where
 h : w.ownsRow base 171 1 (.slice A rs.length c) rs.length (rs.map Ro.v)
 r : ∀ r ∈ rs, OwnW base w r.A r.cap r.xs
section
variable {w w' : World} {base c cR b tb N : Nat} {A R : Option Addr} {rs rows : List Ro} {own : Nat → Nat} {wd wo us lo hi : Int} {T : List Nat}
theorem OwnW.ne {base' c' n : Nat} {A' : Option Addr} {xs : List Int} {ys : List Value} (h : OwnW base w A c xs) (h' : w.ownsRow base' 171 1 (.slice A' n c') n ys) : ∀ k ∈ blk A, k ∉ blk A' := fun k hk hk' => by
 rcases h.2 with ⟨e, _⟩ | ⟨g, _, _, e, _, hc, _⟩
 ·simp only [Value.slice.injEq] at e; rw [e.1] at hk; simp [blk] at hk
 rcases h'.2 with ⟨e', _⟩ | ⟨g', _, _, e', _, hc', _⟩
 ·simp only [Value.slice.injEq] at e'; rw [e'.1] at hk'; simp [blk] at hk'
 simp only [Value.slice.injEq] at e e'
 rw [e.1] at hk
 rw [e'.1] at hk'
 simp only [blk, List.mem_singleton] at hk hk'
 subst hk
 rw [hk'] at hc
 rw [hc'] at hc
 cases hc
theorem RrN.below (h : RrN base w A c rs) (hb : Below w.heap.size w w') : RrN base w' A c rs :=
 ⟨⟨h.h.1, h.h.2.imp id fun ⟨g, c, cur, e, a, b, d⟩ => ⟨g, c, cur, e, a, (hb.block g (Array.getElem?_eq_some_iff.1 b).1).trans b, d⟩⟩, fun r hr => (h.r r hr).below hb⟩
theorem RrN.app {r : Ro} {v' : Value} {k : Nat} (h : RrN base w A c rs) (hr : OwnW base w r.A r.cap r.xs) (hk : rs.length = k) (ho : w'.ownsRow base 171 1 v' (k + 1) (rs.map Ro.v ++ [r.v])) (hg : w.grownBy w' (Value.slice A k c).ownBlock) : ∃ A' c', v' = .slice A' (k + 1) c' ∧ RrN base w' A' c' (rs ++ [r]) := by
 subst hk
 have hF : Frame (blk A) w w' := frame_grown hg
 rcases ho.2 with ⟨_, e⟩ | ⟨g, c', _, e, _⟩
 ·omega
 ·subst e
  refine ⟨_, _, rfl, by rw [List.length_append, List.map_append]; exact ho, fun q hq => ?_⟩
  rcases List.mem_append.1 hq with hq | hq
  ·exact (h.r q hq).frame hF ((h.r q hq).ne h.h)
  ·rw [List.mem_singleton] at hq; subst hq; exact hr.frame hF (hr.ne h.h)
def SameX (rs rows : List Ro) : Prop := rs.map Ro.xs = rows.map Ro.xs
def RwR (rows : List Ro) (w : World) (e : Ending) (w' : World) : Prop := ∃ A c rs, e = .returned (.slice A rows.length c) ∧ SameX rs rows ∧ RrN w.heap.size w' A c rs ∧ Below w.heap.size w w'
set_option maxRecDepth 100000 in
theorem twrows_any (h : TwE w b tb wd wo us N lo hi R cR rows own) (hl : ∀ r ∈ rows, r.xs.length ≤ 8000) : Calls Tryz.prog 352 #[.pointer (some ⟨b, 0, none⟩)] w (RwR rows w) := by
 have f1 := h.tw.at'.c7
 have hm := h.q.2.2.2.2.1
 have H := Lib.hid h.tw
 have HL := Lib.hid hl
 obtain ⟨m, hm2⟩ : ∃ n, rows.length = n := ⟨_, rfl⟩
 rw [hm2] at f1 hm
 have HM := Lib.hid hm2
 have I0 : Hid (∃ rs, SameX rs (rows.take 0) ∧ RrN w.heap.size w none 0 rs ∧ Below w.heap.size w w) := ⟨[], rfl, ⟨World.ownsRow_nil _ _ _ _, by simp⟩, Below.refl _ _⟩
 clear h hl hm2
 go_enter Tryz.func352, Tryz.ntmps352
 go_wp2
 go_loopw [3, 13] (fun o i wr => ∃ k : Nat, k ≤ m ∧ i = .int .i64 k ∧ ∃ A c, o = .slice A k c ∧ Hid (∃ rs, SameX rs (rows.take k) ∧ RrN w.heap.size wr A c rs ∧ Below w.heap.size w wr)) (fun _ i _ => m - (intOf i).toNat)
 case atStart => exact ⟨0, by omega, rfl, none, 0, rfl, I0⟩
 case round =>
  clear I0 f1
  obtain ⟨k, hk, rfl, A, c, rfl, I⟩ := hrel
  by_cases hlt : k < m
  ·obtain ⟨rs, hs, hr, hb⟩ := I.out
   have hkr : k < rows.length := by have := HM.out; omega
   obtain ⟨gR, rfl⟩ := H.out.rr.addr (by omega)
   have c1 := (H.out.below hb).rr.cell hkr
   have z1 := (H.out.below hb).rr.lt gR (by simp [blk])
   have r1 := ((H.out.below hb).ro k hkr).rd
   have n1 := HL.out _ (List.getElem_mem hkr)
   have z2 : rows[k].A = none → rows[k].xs.length = 0 := fun e => by
    rcases (H.out.ro k hkr) with h | ⟨_, _, _, e', _⟩
    ·rcases h.2 with ⟨_, h⟩ | ⟨_, _, _, e', _⟩
     ·exact h
     ·rw [e] at e'; cases e'
    ·rw [e] at e'; cases e'
   have ts := List.take_succ_eq_append_getElem hkr
   have lk : rs.length = k := by have := congrArg List.length hs; simpa [SameX, Nat.min_eq_left (Nat.le_of_lt hkr)] using this
   obtain ⟨⟨A1, c1', x1⟩, hr1⟩ : ∃ r, rows[k] = r := ⟨_, rfl⟩
   rw [hr1] at c1 r1 n1 z2 ts
   unfold Ro.v at c1
   dsimp only at c1 r1 n1 z2
   obtain ⟨n, hn⟩ : ∃ n, x1.length = n := ⟨_, rfl⟩
   rw [hn] at c1 n1 z2
   have CL := Lib.hid (cloneR_any A1 c1' _ x1 wr r1 hn z2 (by omega))
   have HI := Lib.hid (And.intro hs (And.intro hr (And.intro hb (And.intro ts (And.intro lk hn)))))
   clear hs hr hb ts lk r1 hr1 hkr I z2 hn
   go_wp2_with fail
   refine CL.out.mono ?_
   rintro e w1 ⟨A2, c2, rfl, ho, hb1⟩
   obtain ⟨i, hif, hz, hsz, hby⟩ := Tryz.infoRs
   have hb2 := keep1 hb1 (bn w1 (.cells #[.slice A2 n c2] 171))
   have A1 := Lib.hid ((At.new w1 #[.slice A2 n c2] 171).cell (i := 0) rfl)
   have H1 := Lib.hid (HI.out.2.1.below hb2)
   have RR : Hid ((w1.alloc (.cells #[.slice A2 n c2] 171)).ownsRow w.heap.size 171 1 (.slice A k c) k (rs.map Ro.v)) := by have := H1.out.h; rw [HI.out.2.2.2.2.1] at this; exact this
   have zb := Lib.hid (Nat.le_trans HI.out.2.2.1.size hb2.size)
   have ho2 := Lib.hid (ho.below (bn w1 (.cells #[.slice A2 n c2] 171)))
   have hB := Lib.hid (keep1 HI.out.2.2.1 hb2)
   clear hb1 hb2 ho c1 z1
   go_wp2_with (first | (at_builtin; refine wpList_append_own_at _ rfl _ _ _ rfl w.heap.size _ i _ 1 24 Tryz.underlyingRs hif hz hsz hby rfl (by decide) _ k (rs.map Ro.v) rfl RR.out ⟨w1.heap.size, 0, none⟩ 1 1 [.slice A2 n c2] rfl rfl (fun q u hj => by match q, hj with | 0, hj => simp only [List.getElem?_cons_zero, Option.some.injEq] at hj; subst hj; exact A1.out) (fun u hu => by rw [List.mem_singleton] at hu; subst hu; rfl) (by simp only [maxLen]; omega) (by omega) zb.out ?_; intro v' w6 ho6 hg6 _ _; have ho6 := Lib.hid ho6; have hg6 := Lib.hid hg6) | fail)
   obtain ⟨A3, c3, rfl, HR⟩ := H1.out.app (r := ⟨A2, c2, x1⟩) (World.ownsRow.mono ho2.out HI.out.2.2.1.size) HI.out.2.2.2.2.1 (by have := ho6.out; rwa [← HI.out.2.2.2.2.2] at this) hg6.out
   have J : Hid (∃ rs, SameX rs (rows.take (k + 1)) ∧ RrN w.heap.size w6 A3 c3 rs ∧ Below w.heap.size w w6) := ⟨_, by rw [HI.out.2.2.2.1]; unfold SameX; rw [List.map_append, List.map_append, HI.out.1]; rfl, HR, hB.out.grown hg6.out zb.out fun j hj => (World.ownsRow.lt RR.out j hj).1⟩
   clear ho6 hg6 HR RR A1 H1 ho2 hB HI CL H zb
   go_wp2
   go_roundw
   case rel => exact ⟨k + 1, by omega, by simp, A3, c3, rfl, J⟩
   case measure => simp [intOf]; omega
  ·obtain rfl : k = m := by omega
   obtain ⟨rs, hs, hr, hb⟩ := I.out
   rw [List.take_of_length_le (by have := HM.out; omega)] at hs
   have FIN : Hid (RwR rows w (.returned (.slice A k c)) wr) := ⟨A, c, rs, by rw [HM.out], hs, hr, hb⟩
   clear hs hr hb I H HM
   go_wp2
   go_ret
   exact FIN.out
end
end Go.Proofs.YtlbnlmhcpephbaaGreatDoor

namespace Go.Proofs.YtlbnlmhcpephbaaGreatDoor
open Go.RowKit
def TjR (b : Nat) (S : List Nat) (wd wo : Int) (N N2 : Nat) (lo hi lo2 hi2 : Int) (w : World) (e : Ending) (w' : World) : Prop :=
 ∃ c : Int, e = .returned (.int .i64 c) ∧ (c ≠ 0 ∧ Below w.heap.size w w' ∨ c = 0 ∧ if N2 = 0 then Below w.heap.size w w' else ∃ S', Mv S S' w w' ∧ Twr w' b S' wd wo (N + N2) (lowE N lo lo2) (highE N hi hi2))
structure RrS (W : World) (A : Option Addr) (rs : List Ro) (S : List Nat) : Prop where
 h : RdA W A (rs.map Ro.v) S
 r : ∀ r ∈ rs, RdA W r.A (r.xs.map (.int .i64)) S
def TjJ (b tb : Nat) (S0 : List Nat) (wd wo us tot lo hi : Int) (N : Nat) (A : Option Addr) (rs : List Ro) (w : World) (k q : Nat) (W : World) : Prop :=
 ∃ R cR rows own, Mv S0 (twS b tb R rows) w W ∧ TwB W b tb wd wo us tot lo hi R cR rows own ∧ (wS rows = N + wS (rs.take k) ∧ q ≤ rows.length ∧ 1 ≤ rows.length ∧ rows.length ≤ 16) ∧ AllI rows ∧ RrS W A rs (twS b tb R rows)
section
variable {w w' W : World} {b tb cR N n : Nat} {wd wo us lo hi x : Int} {A R : Option Addr} {rows rs : List Ro} {own : Nat → Nat} {S S' : List Nat}
theorem RrS.mv (h : RrS w A rs S) (m : Mv S S' w w') : RrS w' A rs S' := ⟨h.h.mv m, fun r hr => (h.r r hr).mv m⟩
theorem RrS.of {c base : Nat} (h : RrN base w A c rs) (hs : ∀ k ∈ S, ¬ (base ≤ k ∧ k < w.heap.size)) : RrS w A rs S := by
 refine ⟨⟨fun i u hi => ?_, fun a e _ => ?_⟩, fun r hr => ⟨(h.r r hr).rd, fun a e _ => ?_⟩⟩
 ·rcases h.h.2 with ⟨_, h0⟩ | ⟨g, _, _, e, _⟩
  ·rw [List.eq_nil_of_length_eq_zero h0] at hi; simp at hi
  ·simp only [Value.slice.injEq] at e
   have := World.ownsRow.cells h.h (g := g) (by rw [e.1]; rfl) i u hi
   rw [Addr.add_lit] at this
   exact ⟨g, 0, e.1, (World.ownsRow.lt h.h g (by rw [e.1]; rfl)).2, this⟩
 ·have := World.ownsRow.lt h.h a.block (by rw [e]; rfl)
  exact ⟨this.2, fun k => hs _ k this⟩
 ·have := (h.r r hr).base_le a e
  exact ⟨this.2, fun k => hs _ k this⟩
theorem wS_same : ∀ {l k : List Ro}, SameX l k → wS l = wS k
  | [], [], _ => rfl
  | x :: l, y :: k, h => by
    simp only [SameX, List.map_cons, List.cons.injEq] at h
    simp only [wS, h.1, wS_same (l := l) (k := k) h.2]
  | [], y :: k, h => by simp [SameX] at h
  | x :: l, [], h => by simp [SameX] at h
theorem AllI.same {l k : List Ro} (h : SameX l k) (a : AllI k) : AllI l := fun r hr => by
 have : r.xs ∈ k.map Ro.xs := h ▸ List.mem_map.2 ⟨r, hr, rfl⟩
 obtain ⟨q, hq, e⟩ := List.mem_map.1 this
 exact e ▸ a q hq
theorem shS {l k : List Ro} {wd : Int} (h : SameX l k) (a : ∀ r ∈ k, (r.xs.length : Int) < wd) : ∀ r ∈ l, (r.xs.length : Int) < wd := fun r hr => by
 have : r.xs ∈ k.map Ro.xs := h ▸ List.mem_map.2 ⟨r, hr, rfl⟩
 obtain ⟨q, hq, e⟩ := List.mem_map.1 this
 exact e ▸ a q hq
theorem wS_take : ∀ {l : List Ro} {k : Nat} (h : k < l.length), wS (l.take (k + 1)) = wS (l.take k) + 2 ^ k * l[k].xs.length
  | x :: l, 0, _ => by simp [wS]
  | x :: l, k + 1, h => by
    have := wS_take (l := l) (k := k) (by simpa using h)
    simp only [List.take_succ_cons, wS, List.getElem_cons_succ, this, Nat.pow_succ]
    grind
theorem wS_take_le : ∀ (l : List Ro) (k : Nat), wS (l.take k) ≤ wS l
 | [], k => by simp
 | x :: l, 0 => by simp [wS]
 | x :: l, k + 1 => by have := wS_take_le l k; simp only [List.take_succ_cons, wS]; omega
theorem Rd.none {cs : List Value} (h : Rd w none cs) : cs = [] := by
 cases cs with
 | nil => rfl
 | cons x l => obtain ⟨_, _, e, _⟩ := h 0 x rfl; cases e
set_option maxRecDepth 100000 in
set_option maxHeartbeats 2000000 in
theorem twjoin_any {o ob cO N2 : Nat} {wo2 us2 lo2 hi2 : Int} {O : Option Addr} {orows : List Ro} {oown : Nat → Nat} (h : TwE w b tb wd wo us N lo hi R cR rows own) (h2 : TwE w o ob wd wo2 us2 N2 lo2 hi2 O cO orows oown) (ap : Apart (twS b tb R rows) (twS o ob O orows)) (hN : N + N2 ≤ 7200) :
  Calls Tryz.prog 351 #[.pointer (some ⟨b, 0, none⟩), .pointer (some ⟨o, 0, none⟩)] w (TjR b (twS b tb R rows) wd wo N N2 lo hi lo2 hi2 w) := by
 have H := Lib.hid h
 have K := Lib.hid h2
 have s1 := h.tw.at'
 have t1 := h2.tw.at'
 have f1 := s1.c7
 have f2 := t1.c7
 have AP := Lib.hid ap
 have MO := Lib.hid fun W (hb : Below w.heap.size w W) => twmost_any (h.tw.below hb) ⟨h.q.1.1, h.q.1.2.1⟩
 have q := h.q
 have n8 : ∀ r ∈ orows, r.xs.length ≤ 8000 := fun r hr => by
  obtain ⟨i, hi, rfl⟩ := List.getElem_of_mem hr
  have := wS_ge hi
  have := Nat.le_mul_of_pos_left orows[i].xs.length (Nat.two_pow_pos i)
  have := h2.q.2.2.1
  omega
 have NE := Lib.hid n8
 clear h h2 ap n8
 have e1 : IntKind.u64.wrap (wd * 1024 - N) = wd * 1024 - N := by simp only [IntKind.wrap_u64]; omega
 have Q := Lib.hid q
 clear q
 go_enter Tryz.func351, Tryz.ntmps351
 go_wp2
 go_quiet (fail)
 have hb : Below w.heap.size w (w.drewN nq) := (Below.refl _ _).drewN _
 by_cases z : N2 = 0
 ·subst z
  have R : Hid (TjR b (twS b tb R rows) wd wo N 0 lo hi lo2 hi2 w (.returned (.int .i64 0)) (w.drewN nq)) := ⟨0, rfl, .inr ⟨rfl, by rw [if_pos rfl]; exact hb⟩⟩
  clear MO e1
  go_wp2
  go_ret
  exact R.out
 go_upto_region 7 with fail
 generalize w.drewN nq = W at *
 replace s1 := s1.below hb
 replace t1 := t1.below hb
 clear f1 f2
 have hfar1 := fun x : Far W => (x.at s1).c7
 have hfar2 := fun x : Far W => (x.at t1).c7
 refine wp_region_far (by kernel_rfl) (by kernel_rfl) ?_
 repeat go_big_quiet_step (first | (with_reducible refine far_eq (MO.out _ (keep1 hb (Far.below _)))))
 refine wpQuiet_nil ?_
 rintro _ ⟨xq, rfl⟩
 clear hfar1 hfar2
 replace hb := keep1 hb xq.below
 replace s1 := s1.below xq.below
 replace t1 := t1.below xq.below
 generalize xq.far = W0 at *
 clear e1 MO xq
 by_cases hf : wd * 1024 - N < N2
 ·clear s1 t1
  go_wp2
  go_ret
  exact ⟨6, rfl, .inl ⟨by decide, hb⟩⟩
 replace hb := hb.drew
 have f1 := s1.c7
 have f2 := t1.c7
 have HZ : Hid (N2 ≠ 0 ∧ (N : Int) + N2 ≤ wd * 1024 ∧ N + N2 ≤ 7200) := ⟨z, by omega, hN⟩
 clear z hN s1 t1
 go_upto_region 9 with fail
 go_still_tail 9, (by kernel_rfl)
 change wpList _ _ _ _ _ W0.drew
 clear f1 f2 hf
 generalize W0.drew = W at hb ⊢
 go_wp2_with fail
 refine (twendsE_any (H.out.tw.below hb) lo2 hi2).mono ?_
 rintro e w3 ⟨rfl, H3, hF⟩
 obtain ⟨lo1, hl1⟩ : ∃ l, lowE N lo lo2 = l := ⟨_, rfl⟩
 obtain ⟨hi1, hh1⟩ : ∃ l, highE N hi hi2 = l := ⟨_, rfl⟩
 rw [hl1, hh1] at H3
 have LE := Lib.hid (And.intro hl1 hh1)
 clear hl1 hh1
 have K3 := { K.out with tw := (K.out.tw.below hb).frame hF fun k hk e => AP.out b (twS_mem.2 (.inl rfl)) (by simp at e; exact e ▸ hk) }
 have f1 := H3.at'.c7
 have l1 := H3.at'.lt
 have f2 := K3.tw.at'.c7
 have m := Lib.hid ((Mv.of (twS b tb R rows) hb).trans (S2 := twS b tb R rows) ⟨GrownS.refl _ _, hF.mono fun k hk => by simp at hk; exact twS_mem.2 (.inl hk)⟩)
 have H4 := Lib.hid (H3.set (x := lo1) (y := hi1) (H3.at'.set_any 4 (.int .u64 ((N : Int) + N2)) rfl))
 have e1 : IntKind.u64.wrap ((N : Int) + N2) = (N : Int) + N2 := by have := HZ.out; simp only [IntKind.wrap_u64]; omega
 have H3 := Lib.hid H3
 have K3 := Lib.hid K3
 clear hF hb
 go_upto_region 10 with fail
 go_region
 have b4 := (Below.refl (w3.setCell ⟨b, 4, none⟩ (.int .u64 ((N : Int) + N2))).heap.size (w3.setCell ⟨b, 4, none⟩ (.int .u64 ((N : Int) + N2)))).drew
 have fr : Frame [b] w3 (w3.setCell ⟨b, 4, none⟩ (.int .u64 ((N : Int) + N2))).drew := (Frame.set _ _ _ _ _ (by simp)).trans (Frame.of_below b4)
 replace H4 := H4.out.below b4
 have m := Lib.hid (m.out.trans (S2 := twS b tb R rows) ⟨GrownS.refl _ _, fr.mono fun k hk => by simp at hk; exact twS_mem.2 (.inl hk)⟩)
 have K4 : TwE (w3.setCell ⟨b, 4, none⟩ (.int .u64 ((N : Int) + N2))).drew o ob wd wo2 us2 N2 lo2 hi2 O cO orows oown := { K3.out with tw := K3.out.tw.frame fr fun k hk e => AP.out b (twS_mem.2 (.inl rfl)) (by simp at e; exact e ▸ hk) }
 clear fr b4 f1 l1 f2 e1 H3 K3
 generalize (w3.setCell _ _).drew = W4 at *
 have RW := Lib.hid (twrows_any K4 NE.out)
 have H4 := Lib.hid H4
 clear K4
 go_wp2_with fail
 refine RW.out.mono ?_
 rintro e w5 ⟨A, c, rs, rfl, hs, hr, hb⟩
 have J : Hid (TjJ b tb (twS b tb R rows) wd wo us ((N : Int) + N2) lo1 hi1 N A rs w 0 0 w5) := ⟨R, cR, rows, own, m.out.trans (Mv.of _ hb), H4.out.below hb, by have := Q.out; simp [wS]; omega, H.out.ai, RrS.of hr fun k hk e => by have := H4.out.lt k hk; omega⟩
 have WS : Hid (wS rs = N2 ∧ rs.length = orows.length ∧ rs.length ≤ 16 ∧ AllI rs) := ⟨(wS_same hs).trans K.out.q.2.2.1, by simpa using congrArg List.length hs, by have : rs.length = orows.length := (by simpa using congrArg List.length hs); have := K.out.q; omega, AllI.same hs K.out.ai⟩
 generalize twS b tb R rows = S0 at *
 obtain ⟨q, hq⟩ : ∃ n, orows.length = n := ⟨_, rfl⟩
 rw [hq] at WS ⊢
 have q16 : q ≤ 16 := by have := WS.out; omega
 clear hs hr hb RW H4 m hq
 go_wp2
 go_loopw [69] (fun i wr => ∃ k : Nat, k ≤ q ∧ i = .int .i64 k ∧ Hid (TjJ b tb S0 wd wo us ((N : Int) + N2) lo1 hi1 N A rs w k k wr)) (fun i _ => q - (intOf i).toNat)
 case atStart => exact ⟨0, by omega, rfl, J⟩
 case round =>
  clear J
  obtain ⟨k, hk, rfl, J⟩ := hrel
  by_cases hlt : k < q
  ·have hkl : k < rs.length := by have := WS.out; omega
   obtain ⟨R, cR, rows, own, mv, D, r, ai, rr⟩ := J.out
   obtain ⟨g, o', rfl, hg, c1⟩ := rr.h.1 k _ (by rw [List.getElem?_map, List.getElem?_eq_getElem hkl]; rfl)
   have r1 := rr.r _ (List.getElem_mem hkl)
   have tk := wS_take hkl
   have tl := wS_take_le rs (k + 1)
   have mk := List.getElem_mem hkl
   obtain ⟨⟨Y, cy, ys⟩, hx⟩ : ∃ p, rs[k] = p := ⟨_, rfl⟩
   rw [hx] at c1 r1 tk mk
   unfold Ro.v at c1
   dsimp only at c1 r1 tk
   obtain ⟨n, hn⟩ : ∃ n, ys.length = n := ⟨_, rfl⟩
   rw [hn] at c1 tk
   have Z := Lib.hid (And.intro tk (And.intro tl (And.intro hn mk)))
   obtain ⟨m, hm⟩ : ∃ m, rows.length = m := ⟨_, rfl⟩
   have a1 := D.at'
   rw [hm] at a1
   have f1 := a1.c7
   have l1 := a1.lt
   have hm16 : m ≤ 16 ∧ 1 ≤ m ∧ k ≤ m := by omega
   have HM := Lib.hid hm
   have T := Lib.hid (And.intro mv (And.intro D (And.intro r (And.intro ai rr))))
   clear tk tl hn hx mk a1 hm J mv r ai rr r1 hkl D
   go_upto_if 80 with fail
   clear c1 hg
   go_cut [] (fun wc => Hid (TjJ b tb S0 wd wo us ((N : Int) + N2) lo1 hi1 N (some ⟨g, o', none⟩) rs w k (k + 1) wc))
   case first =>
    by_cases hkm : k = m
    ·subst hkm
     have e4 : ((k : Int) == k) = true := by simp
     obtain ⟨i, hif, hz, hsz, hby⟩ := Tryz.infoRs
     have hba := bn wr (.cells #[.slice none 0 0] 171)
     have D1 := Lib.hid (T.out.2.1.below hba)
     have A1 := Lib.hid ((At.new wr #[.slice none 0 0] 171).cell (i := 0) rfl)
     have hRR : (wr.alloc (.cells #[.slice none 0 0] 171)).ownsRow 0 171 1 (.slice R k cR) k (rows.map Ro.v) := HM.out ▸ D1.out.rr
     have RR := Lib.hid hRR
     have NB : Hid (b ∉ blk R) := fun e => by have := D1.out.oR b e; have := D1.out.ob; omega
     clear hba hRR
     go_wp2_with (first | (at_builtin; refine wpList_append_own_at _ rfl _ _ _ rfl 0 _ i _ 1 24 Tryz.underlyingRs hif hz hsz hby rfl (by decide) _ k (rows.map Ro.v) rfl RR.out ⟨wr.heap.size, 0, none⟩ 1 1 [.slice none 0 0] rfl rfl (fun q u hj => by match q, hj with | 0, hj => simp only [List.getElem?_cons_zero, Option.some.injEq] at hj; subst hj; exact A1.out) (fun u hu => by rw [List.mem_singleton] at hu; subst hu; rfl) (by simp only [maxLen]; omega) (by omega) (Nat.zero_le _) ?_; intro v' w6 ho6 hg6 _ hk6; have hF : Frame (blk R) (wr.alloc (.cells #[.slice none 0 0] 171)) w6 := frame_grown hg6; (obtain ⟨g6, c6, rfl⟩ : ∃ g6 c6, v' = .slice (some ⟨g6, 0, none⟩) (k + 1) c6 := by (rcases ho6.2 with ⟨_, e⟩ | ⟨g6, c6, _, e, _⟩; omega; exact ⟨g6, c6, e⟩)); have A6 := hF.at D1.out.at' NB.out; have f6 := A6.c7; have l6 := A6.lt; have ho6 := Lib.hid ho6; have hk6 : (some g6 : Option Nat) = (Value.slice R k cR).ownBlock ∨ (some g6 : Option Nat) = some (wr.alloc (.cells #[.slice none 0 0] 171)).heap.size := hk6; have hk6 := Lib.hid hk6; have hF := Lib.hid hF; clear hg6) | fail)
     have R : Hid (TjJ b tb S0 wd wo us ((N : Int) + N2) lo1 hi1 N (some ⟨g, o', none⟩) rs w k (k + 1) (w6.setCell ⟨b, 3, none⟩ (.slice (some ⟨g6, 0, none⟩) (k + 1) c6))) := by
      have hba := bn wr (.cells #[.slice none 0 0] 171)
      have hR : RsAt w6 (some ⟨g6, 0, none⟩) c6 (rows ++ [⟨none, 0, []⟩]) := by have := ho6.out; unfold RsAt; rw [List.length_append, List.map_append, HM.out]; exact this
      have hb6 : ∀ q ∈ blk (some (⟨g6, 0, none⟩ : Addr)), q ∈ blk R ∨ wr.heap.size ≤ q := fun q hq => by
       simp only [blk, List.mem_singleton] at hq
       subst hq
       have hk := hk6.out
       simp only [Value.ownBlock] at hk
       rcases hk with e | e
       ·cases R with
        | none => simp at e
        | some a => simp only [Option.some.injEq] at e; exact .inl (by simp [blk, e])
       ·simp only [Option.some.injEq, World.size_alloc] at e; exact .inr (by omega)
      obtain ⟨D2, hs⟩ := D1.out.grow (n0 := wr.heap.size) (n1 := wr.heap.size) hF.out hR (RoAt.nil _) T.out.2.1.lt (Nat.le_refl _) (fun q hq => by simp [blk] at hq) hb6
      rw [HM.out] at D2
      have mv : Mv (twS b tb R rows) (twS b tb (some ⟨g6, 0, none⟩) (rows ++ [⟨none, 0, []⟩])) wr (w6.setCell ⟨b, 3, none⟩ (.slice (some ⟨g6, 0, none⟩) (k + 1) c6)) := ⟨hs, ((Frame.of_below hba).trans (hF.out.mono fun q hq => twS_mem.2 (.inr (.inr (.inl hq))))).setc (.inl (twS_mem.2 (.inl rfl))) 3 _⟩
      exact ⟨_, c6, _, _, T.out.1.trans mv, D2, by have := T.out.2.2.1; have := HM.out; rw [wS_nil, List.length_append]; simp; omega, fun r hr => by
       rcases List.mem_append.1 hr with hr | hr
       ·exact T.out.2.2.2.1 r hr
       ·rw [List.mem_singleton] at hr; subst hr; intro x hx; simp at hx, T.out.2.2.2.2.mv mv⟩
     clear D1 RR ho6 hk6 hF A6 T
     go_wp2
     go_meet
     case rel => exact R
    ·have e4 : ((k : Int) == m) = false := by simp; omega
     have R : Hid (TjJ b tb S0 wd wo us ((N : Int) + N2) lo1 hi1 N (some ⟨g, o', none⟩) rs w k (k + 1) wr) := ⟨R, cR, rows, own, T.out.1, T.out.2.1, by have := T.out.2.2.1; have := HM.out; omega, T.out.2.2.2⟩
     clear T
     go_wp2
     go_meet
     case rel => exact R
   case rest =>
    clear T f1 l1
    obtain ⟨R2, cR2, rows2, own2, mv, D, q2, ai, rr⟩ := hcut.out
    clear hcut
    obtain ⟨gQ, rfl⟩ := D.rr.addr (by omega)
    have hk2 : k < rows2.length := by omega
    have c1 := D.rr.cell hk2
    have lR := D.rr.lt gQ (by simp [blk])
    have r1 := D.ro k hk2
    have w1 := wS_set hk2
    have g1 := wS_ge hk2
    obtain ⟨⟨A1, c1', x1⟩, hr1⟩ : ∃ r, rows2[k] = r := ⟨_, rfl⟩
    rw [hr1] at c1 r1 g1
    simp only [hr1] at w1
    unfold Ro.v at c1
    dsimp only at c1 g1 w1
    obtain ⟨n1, hn1⟩ : ∃ n, x1.length = n := ⟨_, rfl⟩
    obtain ⟨m2, hm2⟩ : ∃ n, rows2.length = n := ⟨_, rfl⟩
    rw [hn1] at c1 g1 w1
    have a1 := D.at'
    rw [hm2] at a1
    have km : (k : Int) < m2 := by omega
    obtain ⟨tt, htt⟩ : ∃ t : Int, (N : Int) + N2 = t := ⟨_, rfl⟩
    rw [htt] at D a1
    have n18 : n1 ≤ 8000 ∧ n ≤ 8000 := by
     have := Nat.le_mul_of_pos_left n1 (Nat.two_pow_pos k)
     have := Nat.le_mul_of_pos_left n (Nat.two_pow_pos k)
     have := Z.out
     have := WS.out
     have := HZ.out
     omega
    have t1 : TwH b gQ k _ _ wc := ⟨a1, c1, lR⟩
    have D1 := Lib.hid (And.intro mv (And.intro D (And.intro q2 (And.intro ai (And.intro r1 (And.intro hr1 (And.intro hn1 (And.intro hm2 (And.intro w1 rr)))))))))
    have HT := Lib.hid htt
    clear mv D q2 ai r1 hr1 hn1 hm2 w1 g1 a1 c1 lR rr htt
    go_upto_region 16 with fail
    have hT0 := t1.below (Below.refl _ _).drew
    refine until_h 15 (by kernel_rfl) (HeldS.mk' hT0) (fun hHeld => ?_)
    have b0 : Hid (Below wc.heap.size wc wc.drew) := (Below.refl _ _).drew
    generalize wc.drew = W at *
    have hne := hHeld.ne
    have hneF := heldT W
    have hf1 := fun x => (hHeld.get x).a.c7
    have hf2 := fun x => (hHeld.get x).c
    refine runW [13] 3 hHeld ?_
    simp only [runL, runN, runOps_true, runOps_false, runOps_nil]
    repeat go_big_quiet_step (fail)
    refine wpQuiet_nil ?_
    clear hf1 hf2 hne hHeld
    refine readyU 13 fun K hK => ?_
    refine ite_of rfl ?_
    have D2 := Lib.hid (D1.out.2.1.below b0.out)
    have NA : Hid (b ∉ blk A1 ∧ gQ ∉ blk A1) := by
     have o := D2.out.oi k hk2
     rw [D1.out.2.2.2.2.2.1] at o
     exact ⟨fun h => by have := o b h; have := D2.out.ob; omega, fun h => by have := o gQ h; have := D2.out.oR gQ (by simp [blk]); omega⟩
    have mvb := Lib.hid (Mv.of (twS b tb (some ⟨gQ, 0, none⟩) rows2) b0.out)
    have rr := Lib.hid (D1.out.2.2.2.2.2.2.2.2.2.mv mvb.out)
    have ry := rr.out.r _ Z.out.2.2.2
    refine opwp_append_ro _ _ rfl rfl A1 n1 c1' x1 rfl D1.out.2.2.2.2.2.2.1 (D1.out.2.2.2.2.1.frame (T := []) (Frame.of_below b0.out) (by simp)) Y n cy ys rfl Z.out.2.2.1 ry.1 (fun e => by subst e; have := Rd.none ry.1; have := Z.out.2.2.1; simp_all) (by omega) 103 rfl ?_
    intro A2 c2 wA hA hF hB
    simp only [List.setIfInBounds_toArray, List.set_cons_zero, List.set_cons_succ]
    replace hT0 := hT0.frame hF NA.out.1 NA.out.2
    refine hK.out _ _ (fun _ => HeldS.mk' hT0) ?_
    clear hK K ry
    have hHeld := HeldS.mk' hT0
    have lz : (x1 ++ ys).length = n1 + n := by rw [List.length_append, D1.out.2.2.2.2.2.2.1, Z.out.2.2.1]
    obtain ⟨D3, hs3⟩ := D2.out.row hk2 (by rw [D1.out.2.2.2.2.2.1]; exact hF) hA fun q hq => (hB q hq).imp (fun a => by rw [D1.out.2.2.2.2.2.1]; exact a) fun a hm => by have := D2.out.lt q hm; omega
    unfold Ro.v at D3
    dsimp only at D3
    rw [lz] at D3
    have w3 := D1.out.2.2.2.2.2.2.2.2.1 ⟨A2, c2, x1 ++ ys⟩
    simp only [lz] at w3
    have mv3 : Mv (twS b tb (some ⟨gQ, 0, none⟩) rows2) (twS b tb (some ⟨gQ, 0, none⟩) (rows2.set k ⟨A2, c2, x1 ++ ys⟩)) W (wA.setCell ⟨gQ, k, none⟩ (.slice A2 (n1 + n) c2)) := ⟨fun q hq => (hs3 q hq).elim .inl fun a => (hB q a).imp (fun z => twS_mem.2 (.inr (.inr (.inr ⟨_, List.getElem_mem hk2, by rw [D1.out.2.2.2.2.2.1]; exact z⟩)))) id, (hF.mono fun q hq => twS_mem.2 (.inr (.inr (.inr ⟨_, List.getElem_mem hk2, by rw [D1.out.2.2.2.2.2.1]; exact hq⟩)))).setc (.inl (twS_mem.2 (.inr (.inr (.inl (by simp [blk])))))) k _⟩
    have J : Hid (TjJ b tb S0 wd wo us ((N : Int) + N2) lo1 hi1 N (some ⟨g, o', none⟩) rs w (k + 1) (k + 1) (wA.setCell ⟨gQ, k, none⟩ (.slice A2 (n1 + n) c2))) := ⟨_, cR2, _, _, (D1.out.1.trans mvb.out).trans mv3, HT.out ▸ D3, by
     have q2 := D1.out.2.2.1
     have := Z.out.1
     have := D1.out.2.2.2.2.2.2.2.1
     rw [Nat.mul_add] at w3
     rw [List.length_set]
     omega, fun r hr => by
     rcases List.mem_or_eq_of_mem_set hr with hr | rfl
     ·exact D1.out.2.2.2.1 r hr
     ·intro y hy
      rcases List.mem_append.1 hy with hy | hy
      ·exact D1.out.2.2.2.1 rows2[k] (List.getElem_mem hk2) y (by rw [D1.out.2.2.2.2.2.1]; exact hy)
      ·exact WS.out.2.2.2 _ Z.out.2.2.2 y hy, rr.out.mv mv3⟩
    have f3 := (D2.out.rr.frame hF fun q hq e => by simp only [blk, List.mem_singleton] at hq; subst hq; exact NA.out.2 e).frozen k
    have f4 := hT0.c
    clear D2 hs3 hA hF hB lz D1 NA w3 t1 mv3 mvb rr D3 b0
    refine runV [0, 14, 1] 1 hHeld ?_
    simp only [runL, runN, runOps_true, runOps_false, runOps_nil]
    repeat go_big_quiet_step (fail)
    refine wpQuiet_nil ?_
    refine readyU 15 fun K hK => ?_
    go_simp
    go_wp2
    refine hK.out _ _ (fun h => late_no h (by kernel_rfl)) ?_
    refine wpAnyU_done (by kernel_rfl) ?_ _
    refine NoPanic.normal ?_
    clear f3 f4 hT0 hHeld
    go_wp2
    go_roundw
    case rel => exact ⟨k + 1, by omega, by simp, J⟩
    case measure => simp [intOf]; omega
  ·obtain rfl : k = q := by omega
   obtain ⟨R2, cR2, rows2, own2, mv, D, q2, ai, rr⟩ := J.out
   rw [List.take_of_length_le (by have := WS.out; omega)] at q2
   have ST := Lib.hid (settle_any D (by have := Q.out; omega) (by have := Q.out; omega) (by have := WS.out; have := HZ.out; omega) q2.2.2 ai)
   have FIN : Hid (∀ W, TwJ (twS b tb R2 rows2) b tb wd wo ((N : Int) + N2) lo1 hi1 us (wS rows2) wr W 20 → TjR b S0 wd wo N N2 lo hi lo2 hi2 w (.returned (.int .i64 0)) W) := fun W ⟨u3, R3, cR3, rows3, own3, mv3, D3, q3, ai3, sh3⟩ =>
    ⟨0, rfl, .inr ⟨rfl, by rw [if_neg HZ.out.1]; exact ⟨_, mv.trans mv3, tb, u3, R3, cR3, rows3, own3, ⟨by rw [LE.out.1, LE.out.2, Int.natCast_add]; exact D3, by have := Q.out; have := HZ.out; have := WS.out; omega, ai3, fun r hr => by obtain ⟨i, h, rfl⟩ := List.getElem_of_mem hr; exact sh3 i h (by omega)⟩, rfl⟩⟩⟩
   clear mv D q2 ai rr J
   go_wp2_with fail
   refine ST.out.mono ?_
   rintro e w6 ⟨rfl, h6⟩
   have R := Lib.hid (FIN.out w6 h6)
   clear h6
   go_wp2
   go_ret
   exact R.out
end
end Go.Proofs.YtlbnlmhcpephbaaGreatDoor

namespace Go.Proofs.YtlbnlmhcpephbaaGreatDoor
open Go.RowKit
def TlR (wd wo : Int) (N : Nat) (lo hi : Int) (w : World) (e : Ending) (w' : World) : Prop :=
 ((∃ b S, e = .returned (.tuple #[.pointer (some ⟨b, 0, none⟩), .int .i64 0]) ∧ Twr w' b S wd wo N lo hi ∧ b ∈ S ∧ Within S w.heap.size w'.heap.size) ∨ ∃ f : Int, f ≠ 0 ∧ e = .returned (.tuple #[.pointer none, .int .i64 f])) ∧ Below w.heap.size w w'
structure TlJ (wd wo : Int) (b tb cb : Nat) (A : Option Addr) (rs : List Ro) (w : World) (k : Nat) (R : Option Addr) (cR : Nat) (rows : List Ro) (own : Nat → Nat) (W : World) : Prop where
 tw : TwB W b tb wd wo 0 ((wS (rs.take k) : Nat) : Int) 0 0 R cR rows own
 sm : SameX rows (rs.take k)
 bl : Below w.heap.size w W
 ge : ∀ q ∈ twS b tb R rows, w.heap.size ≤ q
 rr : RrS W A rs (twS b tb R rows)
 c : At W cb #[.int .i64 wd, .int .u64 wo] 129
 cn : cb ∉ twS b tb R rows ∧ w.heap.size ≤ cb
def AtW (b : Nat) (cs : Array Value) (T : TypeId) (W : World) : Prop := At W b cs T
theorem AtW.at {b : Nat} {cs : Array Value} {T : TypeId} {W : World} (h : AtW b cs T W) : At W b cs T := h
theorem run_append_rs {W : World} {base k cR : Nat} {R : Option Addr} {rows : List Ro} (h : W.ownsRow base 171 1 (.slice R k cR) k (rows.map Ro.v)) (hb : base ≤ W.heap.size) (ad : Addr) (c1 : Nat) (r : Ro) (hc : W.cell? ad = some r.v) (hk : k ≤ 1048576) :
  ∃ g c' W', (Builtin.append_ #[176, 176] 176 #[.slice R k cR, .slice (some ad) 1 c1]).run Tryz.prog W = .ok (.slice (some ⟨g, 0, none⟩) (k + 1) c') W' ∧
   W'.ownsRow base 171 1 (.slice (some ⟨g, 0, none⟩) (k + 1) c') (k + 1) ((rows ++ [r]).map Ro.v) ∧ Frame (blk R) W W' ∧ (g ∈ blk R ∨ W.heap.size ≤ g) := by
 obtain ⟨i, hif, hz, hsz, hby⟩ := Tryz.infoRs
 obtain ⟨v', W', hr, ho, hg, _, hb'⟩ := run_append_own_at (P := Tryz.prog) W base 176 176 _ i _ 1 24 Tryz.underlyingRs hif hz hsz hby rfl (by decide) _ k _ h ad 1 c1 [r.v] rfl (fun q u hj => by match q, hj with | 0, hj => simp only [List.getElem?_cons_zero, Option.some.injEq] at hj; subst hj; exact hc) (fun u hu => by rw [List.mem_singleton] at hu; subst hu; rfl) (by simp only [maxLen]; omega) (by omega) hb
 rcases ho.2 with ⟨_, e⟩ | ⟨g, c', _, e, _⟩
 ·omega
 subst e
 refine ⟨g, c', W', hr, by rw [List.map_append]; exact ho, frame_grown hg, ?_⟩
 simp only [Value.ownBlock] at hb'
 rcases hb' with e | e
 ·cases R with
  | none => simp at e
  | some a => simp only [Option.some.injEq] at e; exact .inl (by simp [blk, e])
 ·simp only [Option.some.injEq] at e; exact .inr (by omega)
section
variable {w w' W : World} {b tb cb cR k : Nat} {wd wo us lo hi tot : Int} {A R : Option Addr} {rows rs : List Ro} {own : Nat → Nat} {S : List Nat}
theorem TlJ.below (h : TlJ wd wo b tb cb A rs w k R cR rows own W) (hb : Below W.heap.size W w') : TlJ wd wo b tb cb A rs w k R cR rows own w' :=
 { h with tw := h.tw.below hb, bl := keep1 h.bl hb, rr := h.rr.mv (Mv.of _ hb), c := h.c.below hb }
theorem TwB.clear (h : TwB w b tb wd wo us tot lo hi R cR rows own) : TwB (w.setCell ⟨b, 3, none⟩ (.slice none 0 0)) b tb wd wo us tot lo hi none 0 [] own := by
 have fs : Frame [b] w (w.setCell ⟨b, 3, none⟩ (.slice none 0 0)) := Frame.set _ _ _ _ _ (by simp)
 exact ⟨h.at'.set_any 3 _ rfl, fs.at h.tp (fun e => by simp at e; have := h.ot; have := h.ob; rw [e] at *; omega), World.ownsRow_nil _ _ _ _, fun i hi => by simp at hi, h.ob, h.ot, fun k hk => by simp [blk] at hk, fun i hi => by simp at hi⟩
set_option maxRecDepth 100000 in
set_option maxHeartbeats 2000000 in
theorem twload_any {c m : Nat} (hr : RrN 0 w A c rs) (hm : rs.length = m) (h16 : 1 ≤ m ∧ m ≤ 16) (hu : 0 ≤ us ∧ us ≤ 63) (hN : wS rs ≤ 7200) (ai : AllI rs) (sh : ∀ r ∈ rs, (r.xs.length : Int) < wd) (hlo : -9223372036854775808 ≤ lo ∧ lo ≤ 9223372036854775807) (hhi : -9223372036854775808 ≤ hi ∧ hi ≤ 9223372036854775807) :
  Calls Tryz.prog 93 #[.agg #[.int .i64 wd, .int .u64 wo], .slice A m c, .int .i64 us, .int .i64 lo, .int .i64 hi] w (TlR wd wo (wS rs) lo hi w) := by
 have s := At.new w #[.int .i64 wd, .int .u64 wo] 129
 have g := s.two
 have hb := bn w (.cells #[.int .i64 wd, .int .u64 wo] 129)
 have NW := Lib.hid (twnew_any wd wo (w.alloc (.cells #[.int .i64 wd, .int .u64 wo] 129)))
 have F : Hid (∀ (f : Int) W, f ≠ 0 → Below w.heap.size w W → TlR wd wo (wS rs) lo hi w (.returned (.tuple #[.pointer none, .int .i64 f])) W) := fun f W h b => ⟨.inr ⟨f, h, rfl⟩, b⟩
 have HR := Lib.hid hr
 have Z := Lib.hid (And.intro hm (And.intro h16 (And.intro hu (And.intro hN (And.intro ai (And.intro hlo (And.intro hhi sh)))))))
 have u0 := hu.1
 clear hr hm hN ai hlo hhi hu sh
 go_enter Tryz.func93, Tryz.ntmps93
 go_wp2_with fail
 refine NW.out.mono ?_
 rintro e w1 ⟨⟨b, tb, R, cR, own, rfl, D, wi⟩ | rfl, hb1⟩
 ·have T0 := D.tw.clear
  have sB := s.below hb1
  have cz : ∀ q ∈ twS b tb none [], w.heap.size + 1 ≤ q := fun q hq => by
   rcases twS_mem.1 hq with rfl | rfl | hq | ⟨r, hr, _⟩
   ·exact (by simpa using (wi _ (twS_mem.2 (.inl rfl))).1)
   ·exact (by simpa using (wi _ (twS_mem.2 (.inr (.inl rfl)))).1)
   ·simp [blk] at hq
   ·simp at hr
  have bz := cz b (twS_mem.2 (.inl rfl))
  have bl1 : Below w.heap.size w (w1.setCell ⟨b, 3, none⟩ (.slice none 0 0)) := (keep1 hb hb1).setCell (show w.heap.size ≤ b by omega) _
  have J : Hid (TlJ wd wo b tb w.heap.size A rs w 0 none 0 [] own (w1.setCell ⟨b, 3, none⟩ (.slice none 0 0))) := ⟨T0, rfl, bl1, fun q hq => by have := cz q hq; omega, (RrS.of HR.out fun k hk e => by have := cz k hk; omega).mv (Mv.of _ bl1), (Frame.set [b] _ _ _ _ (by simp)).at sB (by simp; omega), fun h => by have := cz _ h; omega, Nat.le_refl _⟩
  have f1 := D.tw.at'.c7
  have l1 := D.tw.at'.lt
  have HW := Lib.hid D.q.1
  clear D wi hb hb1 s g NW HR T0 sB cz bz bl1
  generalize w.heap.size = cb at J ⊢
  go_wp2
  go_loopw [14, 15, 43] (fun _ _ i wr => ∃ k : Nat, k ≤ m ∧ i = .int .i64 k ∧ ∃ R cR rows own, Hid (TlJ wd wo b tb cb A rs w k R cR rows own wr)) (fun _ _ i _ => m - (intOf i).toNat)
  case atStart => exact ⟨0, by omega, rfl, _, _, _, _, J⟩
  case round =>
   clear J f1 l1
   obtain ⟨k, hk, rfl, R, cR, rows, own, J⟩ := hrel
   by_cases hlt : k < m
   ·have hkl : k < rs.length := by have := Z.out; omega
    obtain ⟨g, o', rfl, hg, c1⟩ := J.out.rr.h.1 k _ (by rw [List.getElem?_map, List.getElem?_eq_getElem hkl]; rfl)
    have r1 := J.out.rr.r _ (List.getElem_mem hkl)
    have tk := wS_take hkl
    have tl := wS_take_le rs (k + 1)
    have mk := List.getElem_mem hkl
    have ts := List.take_succ_eq_append_getElem hkl
    obtain ⟨⟨Y, cy, ys⟩, hx⟩ : ∃ p, rs[k] = p := ⟨_, rfl⟩
    rw [hx] at c1 r1 tk mk ts
    unfold Ro.v at c1
    dsimp only at c1 r1 tk
    obtain ⟨n, hn⟩ : ∃ n, ys.length = n := ⟨_, rfl⟩
    rw [hn] at c1 tk
    have a1 := J.out.tw.at'
    obtain ⟨t, ht⟩ : ∃ t, wS (rs.take k) = t := ⟨_, rfl⟩
    obtain ⟨m2, hm2⟩ : ∃ t, rows.length = t := ⟨_, rfl⟩
    rw [ht, hm2] at a1
    have TT := Lib.hid (And.intro ht hm2)
    have n8 : n ≤ 8000 ∧ t + 2 ^ k * n ≤ 7200 ∧ 2 ^ k * n ≤ 7200 := by
     have := Nat.le_mul_of_pos_left n (Nat.two_pow_pos k)
     have := Z.out
     omega
    obtain ⟨z, hz⟩ : ∃ z, 2 ^ k * n = z := ⟨_, rfl⟩
    have e1 : IntKind.u64.wrap ((n : Int) * 2 ^ k) = z := by
     have e : (n : Int) * 2 ^ k = ((2 ^ k * n : Nat) : Int) := by rw [Int.natCast_mul, Int.natCast_pow, Int.mul_comm]; rfl
     rw [e, hz]; simp only [IntKind.wrap_u64]; omega
    rw [hz] at tk n8
    have YY := Lib.hid (And.intro tk (And.intro tl (And.intro hn (And.intro mk ts))))
    clear hx tl tk mk ts hn ht hm2 hkl r1 hz
    go_upto_region 10 with fail
    have hT0 : AtW b _ _ wr.drew := a1.below (Below.refl _ _).drew
    refine held_h (by kernel_rfl) (HeldS.mk' hT0) (fun hHeld => ?_)
    have b0 : Hid (Below wr.heap.size wr wr.drew) := (Below.refl _ _).drew
    generalize wr.drew = W at *
    have hne := hHeld.ne
    have hf1 := fun x => (hHeld.get x).at.c7
    clear a1 c1 hg
    refine runH [9] 7 hHeld ?_
    simp only [runL, runN, runOps_true, runOps_false, runOps_nil]
    repeat go_big_quiet_step (fail)
    refine wpQuiet_nil ?_
    refine readyH 9 fun K hK => ?_
    go_simp
    refine hK.out _ _ (HeldS.mk' (hT0.below (bn _ _))) (fun hHeld => ?_)
    clear hK K
    have PL := Lib.hid (plus2_new (w := W) (a := (t : Int)) (b := (z : Int)) b0.out (by omega) (by omega) (by omega))
    refine readyH 10 fun K hK => ?_
    go_simp
    go_wp2_with (go_at_call 102; refine PL.out.mono ?_; rintro e w5 ⟨rfl, hb5⟩)
    refine hK.out _ _ ?_ (fun hHeld => ?_)
    clear hK K
    ·exact HeldS.mk' (J.out.tw.at'.below hb5 |> fun h => by rw [TT.out.1, TT.out.2] at h; exact h)
    refine runH [0, 11, 5] 0 hHeld ?_
    simp only [runL, runN, runOps_true, runOps_false, runOps_nil]
    repeat go_big_quiet_step (fail)
    refine wpQuiet_nil ?_
    refine wpAnyH_done (by kernel_rfl) ?_ _
    refine NoPanic.normal ?_
    replace J := Lib.hid (J.out.below hb5)
    have fc := J.out.c.two
    have BL := Lib.hid J.out.bl
    clear hf1 hne hHeld b0 hb5 e1 PL hT0
    have e2 : IntKind.i64.wrap ((m : Int) - 1) = (m : Int) - 1 := by have := Z.out.2.1; simp only [IntKind.wrap_i64]; omega
    go_upto_region 13 with fail
    any_goals (go_ret2; exact F.out 1 _ (by omega) BL.out)
    all_goals
     clear fc e2 BL
     have hT0 : AtW b _ _ w5.drew := (TT.out.1 ▸ TT.out.2 ▸ J.out.tw.at').below (Below.refl _ _).drew
     refine until_h 13 (by kernel_rfl) (HeldS.mk' hT0) (fun hHeld => ?_)
     replace J := Lib.hid (J.out.below (Below.refl _ _).drew)
     generalize w5.drew = W5 at *
     have hne := hHeld.ne
     have hneF := heldT W5
     have hf1 := fun x => (hHeld.get x).at.c7
     refine runV [0, 1, 1, 8, 1] 15 hHeld ?_
     simp only [runL, runN, runOps_true, runOps_false, runOps_nil]
     repeat go_big_quiet_step (fail)
     refine wpQuiet_nil ?_
     refine runW [1, 1, 5] 9 hHeld ?_
     simp only [runL, runN, runOps_true, runOps_false, runOps_nil]
     repeat go_big_quiet_step (fail)
     refine wpQuiet_nil ?_
     clear hf1 hne
     have CL := Lib.hid (cloneR_any Y cy n ys W5 (J.out.rr.r _ YY.out.2.2.2.1).1 YY.out.2.2.1 (fun e => by subst e; have := Rd.none (J.out.rr.r _ YY.out.2.2.2.1).1; have := YY.out.2.2.1; simp_all) (by omega))
     refine readyU 7 fun K hK => ?_
     go_simp
     go_wp2_with (go_at_call 117; refine CL.out.mono ?_; rintro e w6 ⟨A2, c2, rfl, ho, hb6⟩)
     replace hT0 : AtW b _ _ w6 := hT0.at.below hb6
     refine hK.out _ _ (fun _ => HeldS.mk' hT0) ?_
     clear hK K
     refine readyU 8 fun K hK => ?_
     go_simp
     replace hT0 : AtW b _ _ (w6.alloc (.cells #[.slice A2 n c2] 171)) := hT0.at.below (bn _ _)
     refine hK.out _ _ (fun _ => HeldS.mk' hT0) ?_
     clear hK K
     refine readyU 9 fun K hK => ?_
     refine ite_of rfl ?_
     have J2 := Lib.hid (J.out.below (keep1 hb6 (bn w6 (.cells #[.slice A2 n c2] 171))))
     have ho2 := ho.below (bn w6 (.cells #[.slice A2 n c2] 171))
     have hRR : RsAt _ R cR rows := J2.out.tw.rr
     unfold RsAt at hRR
     rw [TT.out.2] at hRR
     obtain ⟨g3, c3, w7, hr7, hR7, hF7, hB7⟩ := run_append_rs hRR (Nat.zero_le _) ⟨w6.heap.size, 0, none⟩ 1 ⟨A2, c2, ys⟩ (((At.new w6 #[.slice A2 n c2] 171).cell rfl).trans (by unfold Ro.v; dsimp only; rw [YY.out.2.2.1]; rfl)) (by have := congrArg List.length J.out.sm; simp at this; have := TT.out; omega)
     refine opwp_run _ _ _ _ rfl _ _ _ rfl rfl hr7 96 rfl ?_
     simp only [List.setIfInBounds_toArray, List.set_cons_zero, List.set_cons_succ]
     have l5 := J.out.tw.lt
     have l6 := hb6.size
     have hbR : b ∉ blk R := fun h => by have := J2.out.tw.oR b h; have := J2.out.tw.ob; omega
     replace hT0 : AtW b _ _ w7 := hF7.at hT0.at hbR
     refine hK.out _ _ (fun _ => HeldS.mk' hT0) ?_
     clear hK K
     obtain ⟨D8, hs8⟩ := J2.out.tw.grow (n0 := W5.heap.size) (n1 := w6.heap.size + 1) (r := ⟨A2, c2, ys⟩) hF7 (by unfold RsAt; rw [List.length_append, TT.out.2]; exact hR7) (.inl (World.ownsRow.mono ho2 (Nat.zero_le _))) l5 (by omega) (fun q hq => by
      cases A2 with
      | none => simp [blk] at hq
      | some a => simp only [blk, List.mem_singleton] at hq; subst hq; have := ho.base_le a rfl; omega) (fun q hq => by simp only [blk, List.mem_singleton] at hq; subst hq; simpa using hB7)
     have D9 := D8.set (tot' := ((t + z : Nat) : Int)) (D8.at'.set_any 4 (.int .u64 ((t + z : Nat) : Int)) rfl)
     have mv : Mv (twS b tb R rows) (twS b tb (some ⟨g3, 0, none⟩) (rows ++ [⟨A2, c2, ys⟩])) W5 ((w7.setCell ⟨b, 3, none⟩ (.slice (some ⟨g3, 0, none⟩) (rows.length + 1) c3)).setCell ⟨b, 4, none⟩ (.int .u64 ((t + z : Nat) : Int))) := ⟨hs8, (((Frame.of_below (keep1 hb6 (bn w6 _))).trans (hF7.mono fun q hq => twS_mem.2 (.inr (.inr (.inl hq))))).setc (.inl (twS_mem.2 (.inl rfl))) 3 _).setc (.inl (twS_mem.2 (.inl rfl))) 4 _⟩
     have J9 : Hid (TlJ wd wo b tb cb (some ⟨g, o', none⟩) rs w (k + 1) (some ⟨g3, 0, none⟩) c3 (rows ++ [⟨A2, c2, ys⟩]) (fun q => if w6.heap.size + 1 ≤ q then 2 else if W5.heap.size ≤ q then rows.length + 3 else own q) ((w7.setCell ⟨b, 3, none⟩ (.slice (some ⟨g3, 0, none⟩) (rows.length + 1) c3)).setCell ⟨b, 4, none⟩ (.int .u64 ((t + z : Nat) : Int)))) := ⟨by rw [YY.out.1, TT.out.1]; exact D9, by rw [YY.out.2.2.2.2]; unfold SameX; rw [List.map_append, List.map_append, J.out.sm]; rfl, mv.f.below J.out.bl J.out.bl.size J.out.ge, mv.ge J.out.ge J.out.bl.size, J.out.rr.mv mv, mv.f.at J.out.c J.out.cn.1, fun h => (mv.g cb h).elim J.out.cn.1 fun a => by have := J.out.c.lt; omega, J.out.cn.2⟩
     rw [TT.out.2] at D8 J9
     have f5 := hT0.at.c7
     have l7 := hT0.at.lt
     have f8 := D8.at'.c7
     have l8 := D8.at'.lt
     have tz : ((t + z : Nat) : Int) = (t : Int) + z := by simp
     rw [tz] at J9
     have hHeld := HeldS.mk' hT0
     clear D9 mv D8 hs8 ho2 hRR hr7 hR7 hF7 hB7 J2 ho hb6 J CL l5 l6 hbR tz
     refine runV [0, 11, 2] 4 hHeld ?_
     simp only [runL, runN, runOps_true, runOps_false, runOps_nil]
     repeat go_big_quiet_step (fail)
     refine wpQuiet_nil ?_
     refine readyU 13 fun K hK => ?_
     go_simp
     go_wp2
     refine hK.out _ _ (fun h => late_no h (by kernel_rfl)) ?_
     clear hK K
     refine readyU 14 fun K hK => ?_
     go_simp
     refine hK.out _ _ (fun h => late_no h (by kernel_rfl)) ?_
     clear hK K
     refine readyU 15 fun K hK => ?_
     go_simp
     refine hK.out _ _ (fun h => late_no h (by kernel_rfl)) ?_
     clear hK K
     clear f5 l7
     refine readyU 16 fun K hK => ?_
     go_simp
     go_wp2
     refine hK.out _ _ (fun h => late_no h (by kernel_rfl)) ?_
     refine wpAnyU_done (by kernel_rfl) ?_ _
     refine NoPanic.normal ?_
     clear f8 l8
     go_wp2
     go_roundw
     case rel => exact ⟨k + 1, by omega, by simp <;> omega, _, _, _, _, J9⟩
     case measure => simp [intOf]; omega
   ·obtain rfl : k = m := by omega
    have D := J.out.tw
    have sm := J.out.sm
    rw [List.take_of_length_le (by have := Z.out; omega)] at D sm
    obtain ⟨N, hN⟩ : ∃ n, wS rs = n := ⟨_, rfl⟩
    rw [hN] at D
    have T : Hid (TwB wr b tb wd wo 0 N 0 0 R cR rows own ∧ SameX rows rs ∧ wS rs = N) := ⟨D, sm, hN⟩
    have BL := Lib.hid J.out.bl
    have GE := Lib.hid J.out.ge
    have s1 := D.at'
    have MO := Lib.hid fun W (hb : Below wr.heap.size wr W) => twmost_any (D.below hb) ⟨HW.out.1, HW.out.2.1⟩
    clear J D sm hN
    have cs : decide (wd * 1024 < (N : Int)) = true ∨ decide (wd * 1024 < (N : Int)) = false ∧ (decide (hi < lo) = true ∨ decide (hi < lo) = false ∧ (((N : Int) == 0) = false ∨ ((N : Int) == 0) = true ∧ ((lo != 0) = true ∨ (lo != 0) = false ∧ ((hi != 0) = true ∨ (hi != 0) = false)))) := by simp; omega
    rcases cs with c1 | ⟨c1, c2 | ⟨c2, c3 | ⟨c3, c4 | ⟨c4, c5 | c5⟩⟩⟩⟩
    all_goals
     go_upto_region 15 with fail
     have hfar1 := fun x : Far wr => (x.at s1).c7
     refine wp_region_far (by kernel_rfl) (by kernel_rfl) ?_
     repeat go_big_quiet_step (first | (with_reducible refine far_eq (MO.out _ (Far.below _))))
     refine wpQuiet_nil ?_
     rintro _ ⟨xq, rfl⟩
     clear hfar1
     replace T := Lib.hid (And.intro (T.out.1.below xq.below) T.out.2)
     replace BL := Lib.hid (keep1 BL.out xq.below)
     generalize xq.far = W at *
     clear MO
    any_goals (clear T; go_wp2; go_ret2; exact F.out 1 _ (by omega) BL.out)
    all_goals
     have f1 := T.out.1.at'.c7
     have TP := Lib.hid T.out.1.tp
     have T2 := T.out.1.tape (us' := us) (w' := W.setCell ⟨tb, 1, none⟩ (.int .i64 us)) (Frame.set _ _ _ _ _ (by simp)) (At.set_any T.out.1.tp 1 _ rfl)
     have f2 := T2.at'.c7
     have l2 := T2.at'.lt
     have T3 := T2.set (x := lo) (y := 0) (T2.at'.set_any 5 (.int .i64 lo) rfl)
     have T4 := T3.set (x := lo) (y := hi) (T3.at'.set_any 6 (.int .i64 hi) rfl)
     have FIN : Hid (TlR wd wo (wS rs) lo hi w (.returned (.tuple #[.pointer (some ⟨b, 0, none⟩), .int .i64 0])) (((W.setCell ⟨tb, 1, none⟩ (.int .i64 us)).setCell ⟨b, 5, none⟩ (.int .i64 lo)).setCell ⟨b, 6, none⟩ (.int .i64 hi))) := by
      rw [T.out.2.2]
      exact ⟨.inl ⟨b, _, rfl, ⟨tb, us, R, cR, rows, own, ⟨T4, by
      have tl := congrArg List.length T.out.2.1
      have z := Z.out
      simp at tl c1
      exact ⟨HW.out, by omega, (wS_same T.out.2.1).trans T.out.2.2, by omega, by omega, by omega⟩, AllI.same T.out.2.1 Z.out.2.2.2.2.1, shS T.out.2.1 Z.out.2.2.2.2.2.2.2⟩, rfl⟩, twS_mem.2 (.inl rfl), fun q hq => ⟨GE.out q hq, T4.lt q hq⟩⟩, ((BL.out.setCell (GE.out tb (twS_mem.2 (.inr (.inl rfl)))) _).setCell (GE.out b (twS_mem.2 (.inl rfl))) _).setCell (GE.out b (twS_mem.2 (.inl rfl))) _⟩
     clear T2 T3 T4
     go_wp2_with fail
     refine (cskip_any TP.out us u0).mono ?_
     rintro e w5 ⟨rfl, rfl⟩
     go_wp2
     go_ret2
     exact FIN.out
 ·replace hb := keep1 hb hb1
  go_wp2
  go_ret2
  exact F.out 1 _ (by omega) hb
end
end Go.Proofs.YtlbnlmhcpephbaaGreatDoor

namespace Go.Proofs.YtlbnlmhcpephbaaGreatDoor
open Go.RowKit
set_option maxRecDepth 100000
set_option maxHeartbeats 4000000
def rwB (xs : List Int) : List UInt8 := natsB [xs.length] ++ intsB xs
def rwsB (ls : List Ro) : List UInt8 := ls.flatMap fun r => rwB r.xs
section
variable {w w' W W1 W' : World} {q b c m n cL cR tb un wn on N base : Nat} {A L R : Option Addr} {lo hi x y : Int} {rs rows : List Ro} {own : Nat → Nat} {l rest : List UInt8} {T : TypeId}
theorem rwsB_cut {k : Nat} (h : k < rs.length) : rwsB (rs.take (k + 1)) = rwsB (rs.take k) ++ rwB rs[k].xs ∧ rwsB (rs.drop k) = rwB rs[k].xs ++ rwsB (rs.drop (k + 1)) := by
 unfold rwsB
 rw [List.take_succ_eq_append_getElem h, List.flatMap_append, List.flatMap_singleton, List.drop_eq_getElem_cons h, List.flatMap_cons]
 exact ⟨rfl, rfl⟩
theorem rwsB_same (h : SameX rs rows) : rwsB rs = rwsB rows := by
 have e : ∀ l : List Ro, rwsB l = (l.map Ro.xs).flatMap rwB := fun l => by unfold rwsB; rw [List.flatMap_map]
 rw [e, e, h]
theorem rwB_len {xs : List Int} (h : ∀ x ∈ xs, I64 x) (hl : xs.length ≤ 64) : (rwB xs).length ≤ 650 := by
 have h1 := intsB_len h
 have h2 := natsB_len (l := [xs.length]) fun u hu => by rw [List.mem_singleton] at hu; omega
 unfold rwB
 simp only [List.length_append, List.length_cons, List.length_nil] at *
 omega
theorem rwsB_len : ∀ {rs : List Ro}, AllI rs → (∀ r ∈ rs, r.xs.length ≤ 64) → (rwsB rs).length ≤ 650 * rs.length
  | [], _, _ => by simp [rwsB]
  | r :: l, h, k => by
    have i1 := rwsB_len (rs := l) (fun r hr => h r (by simp [hr])) fun r hr => k r (by simp [hr])
    have i2 := rwB_len (h r (by simp)) (k r (by simp))
    unfold rwsB at *
    rw [List.flatMap_cons, List.length_append, List.length_cons]
    omega
theorem WqS.tab (h : WqS w W1 T q b c W l m) (r : RrN base W1 A cL rs) (hb : b < base) : Rd W A (rs.map Ro.v) := by
 obtain ⟨_, _, _, e⟩ := h.ex
 exact e.fr.rd (own_rd r.h) fun g hg hm => by have := (own_blk r.h g.block (by rw [hg]; simp [blk])).1; simp [blk] at hm; omega
theorem rqwrite_w {us : Nat} (h : TwE w q tb wn on us N lo hi R cR rows own) (hN : N ≤ 7200) (ho : on < 18446744073709551616) (hx : I64 x) (hy : I64 y) (he : endW (N : Int) x y = endW (N : Int) lo hi) (h0 : (N : Int) = 0 → x = 0 ∧ y = 0) (hb : Below w.heap.size w W) (hq : Qu W b none 0 0 []) (hg : w.heap.size ≤ b) :
  Calls Tryz.prog 350 #[.agg #[pt q], pt b] W fun e w' => e = .returned (.tuple #[]) ∧ ∃ W1 A len cap, Below W.heap.size W W1 ∧ QuI W1 w' b none A len cap (natsB [wn, on, us % 64] ++ intsB [x, y] ++ natsB [rows.length] ++ rwsB rows) := by
 have hE : ∀ V, Below w.heap.size w V → TwE V q tb wn on us N lo hi R cR rows own := fun V hV => { h with tw := h.tw.frame (T := []) (Frame.of_below hV) fun _ _ => by simp }
 obtain ⟨g, hv⟩ : ∃ g, (if N = 0 then .tuple #[.int .i64 0, .int .i64 0, .bool false] else .tuple #[.int .i64 lo, .int .i64 hi, .bool true] : Value) = .tuple #[.int .i64 x, .int .i64 y, .bool g] := by
  have e : endW (N : Int) lo hi = (if N = 0 then .tuple #[.int .i64 0, .int .i64 0, .bool false] else .tuple #[.int .i64 lo, .int .i64 hi, .bool true] : Value) := by
   unfold endW; by_cases z : N = 0
   ·rw [if_pos z, if_pos (by omega)]
   ·rw [if_neg z, if_neg (by omega)]
  rw [← e, ← he]; unfold endW; split
  ·rename_i e; obtain ⟨rfl, rfl⟩ := h0 e; exact ⟨_, rfl⟩
  ·exact ⟨_, rfl⟩
 have b1 := bn W (.cells #[pt q] 131)
 have a1 := At.new W #[pt q] 131
 have bl : Hid (b < W.heap.size) := hq.at'.lt
 have cn : W.heap.size ≠ b := fun e => by have := bl.out; omega
 have EN : Hid (∀ V, Below w.heap.size w V → Calls Tryz.prog Kd.req.ends #[pt q] V fun e w' => e = .returned (.tuple #[.int .i64 x, .int .i64 y, .bool g]) ∧ Below V.heap.size V w') := fun V hV => by rw [← hv]; exact twends_any (hE V hV)
 have s64 : ∀ r ∈ rows, r.xs.length < 64 := fun r hr => by have := h.sh r hr; have := h.q.1; omega
 have RW := Lib.hid fun V (hV : Below w.heap.size w V) => twrows_any (hE V hV) fun r hr => by have := s64 r hr; omega
 have CF := Lib.hid fun V (hV : Below w.heap.size w V) => twconfig_any (hE V hV)
 have UF := Lib.hid fun V (hV : Below w.heap.size w V) => twused_any (hE V hV)
 have XY : Hid (∀ u ∈ [x, y], I64 u) := fun u hu => by simp only [List.mem_cons, List.not_mem_nil, or_false] at hu; rcases hu with rfl | rfl; exact hx; exact hy
 have Z := Lib.hid (And.intro hb (And.intro hq (And.intro hg (And.intro h.ai s64))))
 have Q : Hid (wn ≤ 64 ∧ on < 18446744073709551616 ∧ us ≤ 200000) := by have := h.q; exact ⟨by omega, ho, by omega⟩
 obtain ⟨n, hn⟩ : ∃ n, rows.length = n := ⟨_, rfl⟩
 have n16 : n ≤ 16 := by have := h.q; omega
 have NN := Lib.hid hn
 unfold RwR at RW
 rw [hn] at RW ⊢
 have e0 : IntKind.u64.wrap (us : Int) = us := by have := Q.out; simp only [IntKind.wrap_u64]; omega
 have e1 : (us : Int) % 64 = ((us % 64 : Nat) : Int) := by omega
 have u64 : us % 64 < 64 := Nat.mod_lt _ (by decide)
 generalize us % 64 = u6 at *
 clear hv he h0 h hb hq hg hN hx hy ho hn hE s64
 go_enter Tryz.func350, Tryz.ntmps350
 have f1 := a1.one
 have l1 := a1.lt
 go_wp2_with fail
 generalize W.alloc _ = W1 at *
 obtain ⟨c, hc⟩ : ∃ c, W.heap.size = c := ⟨_, rfl⟩
 rw [hc] at a1 f1 l1 cn bl
 simp only [hc]
 refine (EN.out W1 (keep1 Z.out.1 b1)).mono ?_
 rintro e w2 ⟨rfl, hb⟩
 replace b1 := keep1 b1 hb
 replace a1 := a1.below hb
 have f2 := a1.one
 have l2 := a1.lt
 clear f1 l1 EN hb
 go_wp2_with fail
 refine (RW.out w2 (keep1 Z.out.1 b1)).mono ?_
 rintro e w3 ⟨A, cA, rs, rfl, sx, rr, hb⟩
 have BB : Hid (b < w2.heap.size) := by have := b1.size; have := bl.out; show _ < _; omega
 replace b1 := keep1 b1 hb
 have J := Lib.hid (WqS.start (keep1 Z.out.1 b1) (a1.below hb) (Qu.below Z.out.2.1 b1) cn Z.out.2.2.1)
 have B1 := Lib.hid b1
 have RR := Lib.hid (And.intro sx rr)
 have f3 := J.out.a1.one
 have l3 := J.out.a1.lt
 clear hb a1 f2 l2 b1 cn hc sx rr RW bl
 go_wp2_with fail
 replace J := Lib.hid (J.out.below (Below.refl _ _).drew)
 refine held_h (S := HeldS (AtH c #[pt q] 131)) (by kernel_rfl) (HeldS.mk' J.out.a) (fun hHeld => ?_)
 clear f3 l3
 generalize w3.drew = W4 at *
 have hne := hHeld.ne
 have hf := fun x => (hHeld.get x).a.one
 have hc0 : ∀ W : World, (Instr.field 129 (.agg #[.int .i64 (wn : Int), .int .u64 (on : Int)]) 0).run Tryz.prog W = .ok (.int .i64 (wn : Int)) W := fun W => by kernel_rfl
 have hc1 : ∀ W : World, (Instr.field 129 (.agg #[.int .i64 (wn : Int), .int .u64 (on : Int)]) 1).run Tryz.prog W = .ok (.int .u64 (on : Int)) W := fun W => by kernel_rfl
 have wn0 : IntKind.u64.wrap (wn : Int) = wn := by have := Q.out; simp only [IntKind.wrap_u64]; omega
 refine runH [3, 3, 2, 2, 2] 10 hHeld ?_
 simp only [runL, runN, runOps_true, runOps_false, runOps_nil]
 repeat go_big_quiet_step (fail)
 refine wpQuiet_nil ?_
 clear hf
 refine readyH 3 fun K hK => ?_
 go_simp
 go_wp2_with (go_at_call 353; refine (CF.out W4 J.out.bw).mono ?_; rintro e w5 ⟨rfl, hb⟩)
 refine hK.out _ _ ?_ (fun hHeld => ?_)
 clear hK K
 ·exact HeldS.mk' (J.out.below hb).a
 replace J := Lib.hid (J.out.below hb)
 clear hb
 refine runH [0, 4, 2] 7 hHeld ?_
 simp only [runL, runN, runOps_true, runOps_false, runOps_nil]
 repeat go_big_quiet_step (fail)
 refine wpQuiet_nil ?_
 refine readyH 8 fun K hK => ?_
 go_simp
 go_wp2_with (go_at_call 353; refine (CF.out w5 J.out.bw).mono ?_; rintro e w6 ⟨rfl, hb⟩)
 refine hK.out _ _ ?_ (fun hHeld => ?_)
 clear hK K
 ·exact HeldS.mk' (J.out.below hb).a
 replace J := Lib.hid (J.out.below hb)
 clear hb CF
 refine runH [0, 9, 1] 5 hHeld ?_
 simp only [runL, runN, runOps_true, runOps_false, runOps_nil]
 repeat go_big_quiet_step (fail)
 refine wpQuiet_nil ?_
 refine readyH 12 fun K hK => ?_
 go_simp
 go_wp2_with (go_at_call 354; refine (UF.out w6 J.out.bw).mono ?_; rintro e w7 ⟨rfl, rfl⟩)
 refine hK.out _ _ ?_ (fun hHeld => ?_)
 clear hK K
 ·exact HeldS.mk' J.out.a
 refine runH [0, 13, 2] 2 hHeld ?_
 simp only [runL, runN, runOps_true, runOps_false, runOps_nil]
 repeat go_big_quiet_step (fail)
 refine wpQuiet_nil ?_
 simp only [e1]
 have N := Lib.hid (J.out.nats (n := 3) [wn, on, u6] (fun u hu => by have := Q.out; simp only [List.mem_cons, List.not_mem_nil, or_false] at hu; omega) rfl (by omega))
 have A9 := Lib.hid (J.out.below (bn w6 (.cells #[.int .u64 (wn : Int), .int .u64 (on : Int), .int .u64 (u6 : Int)] 23))).a
 clear hc0 hc1 UF e0 e1 wn0
 refine readyH 15 fun K hK => ?_
 go_simp
 refine hK.out _ _ (HeldS.mk' A9.out) (fun hHeld => ?_)
 clear hK K A9
 refine readyH 16 fun K hK => ?_
 go_simp
 go_wp2_with (go_at_call 96; refine N.out.mono ?_; rintro e w7 ⟨rfl, J7⟩)
 refine hK.out _ _ ?_ (fun hHeld => ?_)
 clear hK K
 ·exact HeldS.mk' J7.a
 refine doneH ?_
 have N := Lib.hid (J7.ints (n := 2) [x, y] XY.out rfl (by omega))
 clear hHeld hne J J7
 go_wp2_with fail
 refine N.out.mono ?_
 rintro e w8 ⟨rfl, J⟩
 have N := Lib.hid (J.nats (n := 1) [n] (fun u hu => by simp only [List.mem_singleton] at hu; omega) rfl (by omega))
 clear J
 go_wp2_with fail
 refine N.out.mono ?_
 rintro e w9 ⟨rfl, J9⟩
 have LN : Hid (rs.length = n) := by have := congrArg List.length RR.out.1; simp only [List.length_map] at this; exact this.trans NN.out
 have AL := Lib.hid (AllI.same RR.out.1 Z.out.2.2.2.1)
 have SL : Hid (∀ r ∈ rs, r.xs.length < 64) := fun r hr => by
  have : r.xs ∈ rows.map Ro.xs := RR.out.1 ▸ List.mem_map.2 ⟨r, hr, rfl⟩
  obtain ⟨p, hp, e⟩ := List.mem_map.1 this
  rw [← e]; exact Z.out.2.2.2.2 p hp
 have E := Lib.hid (rwsB_same RR.out.1)
 generalize hB : natsB [wn, on, u6] ++ intsB [x, y] ++ natsB [n] = B at *
 have J : Hid (WqS w w3 131 q b c w9 (B ++ rwsB (rs.take 0)) (60 + 650 * 0)) := by
  show WqS _ _ _ _ _ _ _ _ _
  rw [← hB]
  simpa [rwsB] using J9
 have HB := Lib.hid hB
 clear N hB J9
 go_wp2
 go_loopw [9, 50] (fun _ i wr => ∃ k : Nat, k ≤ n ∧ i = .int .i64 k ∧ Hid (WqS w w3 131 q b c wr (B ++ rwsB (rs.take k)) (60 + 650 * k))) (fun _ i _ => n - (intOf i).toNat)
 case atStart => exact ⟨0, by omega, rfl, J⟩
 case round =>
  clear J
  obtain ⟨k, hk, rfl, J⟩ := hrel
  by_cases hlt : k < n
  ·have hkl : k < rs.length := by have := LN.out; omega
   have ai := AL.out _ (List.getElem_mem hkl)
   have sl := SL.out _ (List.getElem_mem hkl)
   have ow := RR.out.2.r _ (List.getElem_mem hkl)
   have tk := (rwsB_cut hkl).1
   obtain ⟨G, o, rfl, hG, d1⟩ := J.out.tab RR.out.2 BB.out k (rs[k]).v (by simp [List.getElem?_eq_getElem hkl])
   obtain ⟨⟨A1, c1, x1⟩, hr⟩ : ∃ r, rs[k] = r := ⟨_, rfl⟩
   rw [hr] at ai sl ow tk d1
   unfold Ro.v at d1
   dsimp only at ai sl ow tk d1
   obtain ⟨n1, hn1⟩ : ∃ n, x1.length = n := ⟨_, rfl⟩
   rw [hn1] at d1 sl
   have N4 := Lib.hid (J.out.nats (n := 1) [n1] (fun z hz => by simp only [List.mem_singleton] at hz; omega) rfl (by omega))
   have T := Lib.hid (And.intro ai (And.intro ow (And.intro hn1 (show B ++ rwsB (rs.take k) ++ natsB [n1] ++ intsB x1 = B ++ rwsB (rs.take (k + 1)) by rw [tk, ← hn1]; simp [rwB]))))
   clear ai ow tk hr hn1 hkl J
   go_wp2_with fail
   refine N4.out.mono ?_
   rintro e wa ⟨rfl, J⟩
   have N5 := Lib.hid (J.ints_old (cL := c1) T.out.2.1.rd (fun g e => ⟨(T.out.2.1.base_le g e).2, by have := (T.out.2.1.base_le g e).1; have := BB.out; omega⟩) T.out.1 T.out.2.2.1 (by omega))
   clear N4 J
   go_wp2_with fail
   refine N5.out.mono ?_
   rintro e wb ⟨rfl, J⟩
   rw [T.out.2.2.2] at J
   have J : Hid (WqS w w3 131 q b c wb (B ++ rwsB (rs.take (k + 1))) (60 + 650 * (k + 1))) := { J with lm := by have := J.lm; omega }
   clear N5 T d1 hG
   go_wp2
   exact ⟨⟨k + 1, by omega, by simp, J⟩, by simp [intOf]; omega⟩
  ·obtain rfl : k = n := by omega
   have F := Lib.hid (J.out.fin B1.out)
   rw [List.take_of_length_le (by have := LN.out; omega), E.out, ← HB.out] at F
   clear J hlt
   go_wp2
   exact bodyPost_end (results_none rfl _ _ _) rfl ⟨rfl, F.out⟩
end
end Go.Proofs.YtlbnlmhcpephbaaGreatDoor
