/- Texts of this claim, joined, indents halved: ECr, EAll, Share, EHdA, EAlive, ValRow, ValFr, Top1. -/
import Derived.Test.YtlbnlmhcpephbaaGreatDoorProg
import Derived.ScopeJumps
import Derived.Maps.AppendAt
import Derived.OwnWalk
import Derived.Laws.AppendOwnNone
import Derived.Test.YtlbnlmhcpephbaaGreatDoorKe24
namespace Go.Proofs.YtlbnlmhcpephbaaGreatDoor
open Go.RowKit
set_option maxRecDepth 100000
set_option maxHeartbeats 4000000
def tyR : Ty := ⟨176, 171, 1, 24, .slice none 0 0⟩
theorem tyR_ok : tyR.Ok := ⟨by kernel_rfl, by kernel_rfl, rfl, rfl, by decide, by decide⟩
structure RqJ (w W : World) (b r c : Nat) (cv : Array Value) (A : Option Addr) (cap : Nat) (rs : List Ro) (l : List UInt8) : Prop where
 j : RdS w W b [(c, cv, 28), (r, CR 0 0 0 0 0 0 0 0 0 0 0, 28)] l
 rr : RrN (c + 1) W A cap rs
section
variable {w w' W W' : World} {b r c d m n cap wn on un base : Nat} {A B : Option Addr} {x y : Int} {rs rows : List Ro} {xs : List Int} {l rest : List UInt8} {cv : Array Value}
theorem RqJ.ac (h : RqJ w W b r c cv A n rs l) : At W c cv 28 := (h.j.k (c, cv, 28) (by simp)).1
theorem RqJ.ar (h : RqJ w W b r c cv A n rs l) : At W r (CR 0 0 0 0 0 0 0 0 0 0 0) 28 := (h.j.k (r, _, _) (by simp)).1
theorem RrN.frame (h : RrN base w A c rs) (hF : Frame [b] w w') (hb : b < base) : RrN base w' A c rs :=
 ⟨own_frame h.h hF fun k hk hm => by have := (own_blk h.h k hk).1; simp only [List.mem_singleton] at hm; omega, fun r hr => (h.r r hr).frame hF fun k hk hm => by have := (own_blk (h.r r hr) k hk).1; simp only [List.mem_singleton] at hm; omega⟩
theorem app_rs (h : RrN base w A c rs) (o : OwnW base w B d xs) (hl : rs.length ≤ 1000) (hz : base ≤ w.heap.size) (hn : xs.length = n) :
  ∃ A' c' w', (Builtin.append_ #[176, 176] 176 #[.slice A rs.length c, .slice (some ⟨w.heap.size, 0, none⟩) 1 1]).run Tryz.prog (w.alloc (.cells #[.slice B n d] 171)) = .ok (.slice A' (rs.length + 1) c') w' ∧ RrN base w' A' c' (rs ++ [⟨B, d, xs⟩]) ∧ Frame (blk A) w w' ∧ ∀ k ∈ blk A', k ∈ blk A ∨ w.heap.size ≤ k := by
 have hb := bn w (.cells #[.slice B n d] 171)
 have aN := At.new w #[.slice B n d] 171
 obtain ⟨A', c', w', hr, ho, hf, hk⟩ := run_app_g (t := tyR) (ys := [.slice B n d]) (m := 1) (cy := 1) (Y := some ⟨w.heap.size, 0, none⟩) tyR_ok (h.below hb).h rfl (fun j u hu => ⟨_, 0, rfl, aN.lt, by rw [Nat.zero_add]; exact aN.cell (by simpa using hu)⟩) (by simp) (by intro u hu; rw [List.mem_singleton] at hu; subst hu; rfl) (by omega) (Nat.le_trans hz hb.size)
 refine ⟨A', c', w', hr, ⟨?_, fun r hr => ?_⟩, (Frame.of_below hb).trans hf, fun k hk' => (hk k hk').imp id (Nat.le_trans hb.size)⟩
 ·rw [List.map_append, List.length_append]
  subst hn
  exact ho
 ·rcases List.mem_append.1 hr with hr | hr
  ·exact ((h.below hb).r r hr).frame hf (((h.below hb).r r hr).ne (h.below hb).h)
  ·rw [List.mem_singleton] at hr
   subst hr
   exact (o.below hb).frame hf (OwnW.ne (o.below hb) (h.below hb).h)
theorem rqread_w {X : World → Nat → List Nat → Prop} (hX : ∀ W W' q Q S, X W q Q → Frame S W W' → Apart Q S → X W' q Q) (hr : rows.length ≤ 16 ∧ (∀ r ∈ rows, r.xs.length < 64) ∧ AllI rows) (hd : wn ≤ 64 ∧ on < 18446744073709551616 ∧ un ≤ 63) (hx : I64 x ∧ I64 y) (hE : Eye w b (natsB [wn, on, un] ++ intsB [x, y] ++ natsB [rows.length] ++ rwsB rows)) (hl : (natsB [wn, on, un] ++ intsB [x, y] ++ natsB [rows.length] ++ rwsB rows).length ≤ 300000)
  (hL : ∀ W A c n rs, SameX rs rows → RrN 0 W A c rs → rs.length = n → Calls Tryz.prog 93 #[.agg #[.int .i64 wn, .int .u64 on], .slice A n c, .int .i64 un, .int .i64 x, .int .i64 y] W (NwC X W)) :
  Calls Tryz.prog 71 #[pt b] w (RdF b (.agg (CR 5 0 0 0 0 0 0 0 0 wn on)) Kd.req.T X w) := by
 obtain ⟨m, hm⟩ : ∃ n, rows.length = n := ⟨_, rfl⟩
 rw [hm] at hE hl hr
 have HN := Lib.hid hm
 have J : Hid (RdS w w b [] (natB wn ++ (natB on ++ (natB un ++ (natB (zigN x) ++ (natB (zigN y) ++ (natB m ++ rwsB (rows.drop 0)))))))) := by
  have e : natsB [wn, on, un] ++ intsB [x, y] ++ natsB [m] ++ rwsB rows = natB wn ++ (natB on ++ (natB un ++ (natB (zigN x) ++ (natB (zigN y) ++ (natB m ++ rwsB (rows.drop 0)))))) := by simp [natsB, intsB]
  rw [e] at hE hl
  exact RdS.start hE hl
 have J := Lib.hid (J.out.new (CR 0 0 0 0 0 0 0 0 0 0 0))
 have Z := Lib.hid (And.intro hX (And.intro hd (And.intro hx hr)))
 have HL := Lib.hid hL
 have m16 : m ≤ 16 := hr.1
 clear hX hr hd hx hE hl hL hm
 go_enter Tryz.func71, Tryz.ntmps71
 go_wp2_with fail
 generalize w.alloc _ = W0 at *
 obtain ⟨r, hr⟩ : ∃ r, w.heap.size = r := ⟨_, rfl⟩
 have RZ : Hid (w.heap.size ≤ r) := Nat.le_of_eq hr
 rw [hr] at J
 simp only [hr]
 clear hr
 refine (J.out.small (by have := Z.out.2.1; omega)).mono ?_
 rintro e w1 ⟨rfl, J⟩
 go_wp2_with fail
 refine (J.nat Z.out.2.1.2.1 (by have := Z.out.2.1; omega)).mono ?_
 rintro e w2 ⟨rfl, J2⟩
 have J := Lib.hid (J2.new (CR 5 0 0 0 0 0 0 0 0 wn on))
 go_wp2_with fail
 generalize w2.alloc _ = W3 at *
 obtain ⟨c, hc⟩ : ∃ c, w2.heap.size = c := ⟨_, rfl⟩
 have RC : Hid (r < c) := hc ▸ (J2.k (r, CR 0 0 0 0 0 0 0 0 0 0 0, 28) (by simp)).1.lt
 rw [hc] at J
 simp only [hc]
 clear hc J2
 refine (J.out.small (by have := Z.out.2.1; omega)).mono ?_
 rintro e w4 ⟨rfl, J⟩
 go_wp2_with fail
 refine (J.int Z.out.2.2.1.1).mono ?_
 rintro e w5 ⟨rfl, J⟩
 go_wp2_with fail
 refine (J.int Z.out.2.2.1.2).mono ?_
 rintro e w6 ⟨rfl, J⟩
 go_wp2_with fail
 refine (J.small (by omega)).mono ?_
 rintro e w7 ⟨rfl, J7⟩
 have J : Hid (∃ rs, SameX rs (rows.take 0) ∧ RqJ w w7 b r c (CR 5 0 0 0 0 0 0 0 0 wn on) none 0 rs (rwsB (rows.drop 0))) := ⟨[], rfl, J7, World.ownsRow_nil _ _ _ _, by simp⟩
 clear J7
 go_wp2
 go_loopw [9, 25] (fun out i wr => ∃ k : Nat, k ≤ m ∧ i = .int .i64 k ∧ ∃ A cap, out = .slice A k cap ∧ Hid (∃ rs, SameX rs (rows.take k) ∧ RqJ w wr b r c (CR 5 0 0 0 0 0 0 0 0 wn on) A cap rs (rwsB (rows.drop k)))) (fun _ i _ => m - (intOf i).toNat)
 case atStart => exact ⟨0, by omega, rfl, none, 0, rfl, J⟩
 case round =>
  clear J
  obtain ⟨k, hk, rfl, A, cap, rfl, JL⟩ := hrel
  by_cases hlt : k < m
  ·have hkl : k < rows.length := by have := HN.out; omega
   obtain ⟨rs, sx, JR⟩ := JL.out
   have ai := Z.out.2.2.2.2.2 _ (List.getElem_mem hkl)
   have sl := Z.out.2.2.2.2.1 _ (List.getElem_mem hkl)
   have tk := (rwsB_cut hkl).2
   have lk : rs.length = k := by have := congrArg List.length sx; simpa [SameX, Nat.min_eq_left (Nat.le_of_lt hkl)] using this
   have T2 := Lib.hid (List.take_succ_eq_append_getElem hkl)
   obtain ⟨⟨A1, c1, x1⟩, hr⟩ : ∃ r, rows[k] = r := ⟨_, rfl⟩
   rw [hr] at ai sl tk T2
   dsimp only at ai sl tk
   obtain ⟨n1, hn1⟩ : ∃ n, x1.length = n := ⟨_, rfl⟩
   rw [hn1] at sl
   have B0 : Hid (c + 1 ≤ wr.heap.size ∧ b < w.heap.size ∧ w.heap.size ≤ r) := ⟨JR.ac.lt, JR.j.j.lt, RZ.out⟩
   have E : Hid (rwsB (rows.drop k) = (natB n1 ++ intsB x1) ++ rwsB (rows.drop (k + 1))) := by show _ = _; rw [tk, ← hn1]; simp [rwB, natsB]
   have JJ : RdS wr wr b [] (natB n1 ++ (intsB x1 ++ rwsB (rows.drop (k + 1)))) := by
    have := RdS.start JR.j.j.eye JR.j.ln
    rw [E.out] at this
    simpa using this
   have H := Lib.hid (And.intro sx (And.intro JR (And.intro lk (And.intro hn1 ai))))
   clear ai tk hr hkl sx JR lk hn1 JL
   go_wp2_with fail
   refine (JJ.small (by omega)).mono ?_
   rintro e w8 ⟨rfl, J8⟩
   have S8 := RdS.start J8.j.eye J8.ln
   go_wp2_with fail
   refine (S8.ints H.out.2.2.2.1 (by omega) H.out.2.2.2.2).mono ?_
   rintro e w9 ⟨A2, c2, rfl, ow, J9⟩
   have Jb : RdS wr w9 b [] _ := J8.again (l := intsB x1) J9
   have JN := H.out.2.1.j
   rw [E.out] at JN
   have JX := JN.again Jb
   have bc : b < c + 1 := by have := B0.out; have := RC.out; omega
   have z8 : c + 1 ≤ w8.heap.size := Nat.le_trans B0.out.1 J8.j.fr.size
   have z9 : c + 1 ≤ w9.heap.size := Nat.le_trans B0.out.1 Jb.j.fr.size
   have R9 := H.out.2.1.rr.frame Jb.j.fr bc
   have O9 : OwnW (c + 1) w9 A2 c2 x1 := World.ownsRow.mono ow z8
   obtain ⟨A', c', wa, hr, ho, hF, hB⟩ := app_rs R9 O9 (by have := H.out.2.2.1; omega) z9 H.out.2.2.2.1
   rw [H.out.2.2.1] at hr
   have J : Hid (∃ rs, SameX rs (rows.take (k + 1)) ∧ RqJ w wa b r c (CR 5 0 0 0 0 0 0 0 0 wn on) A' c' rs (rwsB (rows.drop (k + 1)))) := ⟨_, by rw [T2.out]; unfold SameX; rw [List.map_append, List.map_append, H.out.1]; rfl, JX.step hF fun j hj => by
     have h1 := (own_blk R9.h j hj).1
     have h2 := B0.out
     have h3 := RC.out
     refine ⟨by omega, fun p hp => ?_⟩
     simp only [List.mem_cons, List.not_mem_nil, or_false] at hp
     rcases hp with rfl | rfl <;> dsimp only <;> omega, ho⟩
   have HR := Lib.hid hr
   clear hr ho hF hB O9 R9 z9 z8 bc JX JN Jb J9 ow S8 J8 JJ E H B0 T2
   go_wp2_with (first | (at_builtin; refine Lib.wpList_append_run _ rfl _ _ _ _ rfl _ _ rfl rfl _ _ HR.out ?_) | fail)
   clear HR
   go_wp2
   exact ⟨⟨k + 1, by omega, by simp, A', c', rfl, J⟩, by simp [intOf]; omega⟩
  ·obtain rfl : k = m := by omega
   obtain ⟨rs, sx, D⟩ := JL.out
   rw [List.take_of_length_le (by have := HN.out; omega)] at sx
   have D0 := D.j
   rw [show rwsB (rows.drop k) = [] by rw [List.drop_eq_nil_of_le (by have := HN.out; omega)]; rfl] at D0
   have ln : rs.length = k := by have := congrArg List.length sx; simp only [List.length_map] at this; exact this.trans HN.out
   have LD := Lib.hid (HL.out wr A cap k rs sx ⟨World.ownsRow.mono D.rr.h (Nat.zero_le _), fun r hr => World.ownsRow.mono (D.rr.r r hr) (Nat.zero_le _)⟩ ln)
   have J := Lib.hid D0
   have SZ : Hid (w.heap.size ≤ wr.heap.size ∧ r < wr.heap.size) := ⟨D0.j.fr.size, D.ar.lt⟩
   have f1 := D.ac.el
   have l1 := D.ac.lt
   clear D D0 HL hlt JL sx ln
   go_wp2_with fail
   refine LD.out.mono ?_
   intro e w8 h8
   obtain ⟨p, f, rfl, hb, hc⟩ := h8.any SZ.out.1 SZ.out.2 Kd.req.T
   replace J := Lib.hid (J.out.below hb)
   have F := Lib.hid (J.out.fin (r := r) (kd := 5) (pn := 0) (pd := 0) (sd := 0) (mo := 0) (dg := 0) (li := 0) (de := 0) (fa := 0) (wi := wn) (wo := on) RZ.out Z.out.1 _ _ hc)
   have ar := (J.out.k (r, CR 0 0 0 0 0 0 0 0 0 0 0, 28) (by simp)).1
   have ac := (J.out.k (c, CR 5 0 0 0 0 0 0 0 0 wn on, 28) (by simp)).1
   have g1 := ar.el
   have m1 := ar.lt
   have g2 := ac.el
   have m2 := ac.lt
   clear LD J SZ Z hb hc h8 f1 l1
   go_wp2
   have d2 := (At.set11 ar (.int .i64 5) (.int .u64 0) (.int .u64 0) (.int .i64 0) (.int .i64 0) (.int .i64 0) (.int .u64 0) (.int .i64 0) (.int .i64 0) (.int .i64 wn) (.int .u64 on)).el
   generalize (((((((((((w8.setCell _ _).setCell _ _).setCell _ _).setCell _ _).setCell _ _).setCell _ _).setCell _ _).setCell _ _).setCell _ _).setCell _ _).setCell _ _) = W10 at *
   exact bodyPost_ret (by simp only [results, Tryz.f71]; simp [go_sem, d2]) rfl F.out
end
def Xq (wi wo : Int) : CoT := fun w q Q _ N lo hi => ∃ (n : Nat) (x y : Int), N = n ∧ Twr w q Q wi wo n x y ∧ (N ≠ 0 → x = lo ∧ y = hi)
theorem core_req (wi wo : Int) (hw : U64 wo) : CoreW .req 0 0 0 0 0 0 0 0 wi wo (Xq wi wo) where
 frame := by
  rintro w w' q Q T m N lo hi ⟨n, x, y, e, h, he⟩ hF hn
  exact ⟨n, x, y, e, h.frame hF hn, he⟩
 lt := by
  rintro w q Q m N lo hi ⟨n, x, y, e, h, he⟩
  exact h.lt
 new w _ := (twnew_any wi wo w).mono fun e w' ⟨h, hb⟩ => ⟨h.elim (fun ⟨b, tb, R, cR, own, he, h, hw⟩ => .inl ⟨b, _, he, hw, 0, 0, 0, rfl, ⟨tb, 0, R, cR, _, own, h, rfl⟩, fun e => absurd rfl e⟩) fun he => .inr ⟨1, by decide, he⟩, hb⟩
 put := by
  rintro w q Q m N lo hi x n ⟨k, a, c, rfl, ⟨tb, us, R, cR, rows, own, h, rfl⟩, he⟩ h3 hx h0 hs h20
  obtain ⟨n, rfl⟩ : ∃ j : Nat, n = j := ⟨n.toNat, by omega⟩
  refine (twput_any h hx (by omega) (by omega)).mono ?_
  rintro e w' ⟨f, rfl, ⟨hf, hb⟩ | ⟨rfl, hn, Q', mv, h'⟩⟩
  ·exact ⟨f, rfl, .inl ⟨hf, _, Mv.of _ hb, k, a, c, rfl, Twr.below ⟨tb, us, R, cR, rows, own, h, rfl⟩ hb, he⟩⟩
  ·exact ⟨0, rfl, .inr ⟨rfl, by omega, _, mv, k + n, _, _, by omega, h', fun _ => ends_c he⟩⟩
 join := by
  rintro w q Q m N lo hi r R m2 M lo2 hi2 ⟨k, a, c, rfl, ⟨tb, us, R1, cR, rows, own, h, rfl⟩, he⟩ ⟨k2, a2, c2, rfl, ⟨tb2, us2, R2, cR2, rows2, own2, h2, rfl⟩, he2⟩ ap hmm hs hx hy
  refine (twjoin_any h h2 ap (by omega)).mono ?_
  rintro e w' ⟨f, rfl, ⟨hf, hb⟩ | ⟨rfl, hc⟩⟩
  ·exact ⟨f, rfl, .inl ⟨hf, Frame.of_below hb⟩⟩
  ·refine ⟨0, rfl, .inr ⟨rfl, ?_⟩⟩
   split at hc
   ·rename_i z
    subst z
    exact ⟨_, Mv.of _ hc, k, a, c, by omega, Twr.below ⟨tb, us, R1, cR, rows, own, h, rfl⟩ hc, fun e => he (by omega)⟩
   ·rename_i z
    obtain ⟨rfl, rfl⟩ := he2 (by omega)
    obtain ⟨S', mv, h'⟩ := hc
    exact ⟨_, mv, k + k2, _, _, by omega, h', fun _ => by rw [if_neg (by omega), if_neg (by omega)]; exact ends_c he⟩
 tot := by
  rintro w q Q m N lo hi ⟨k, a, c, rfl, ⟨tb, us, R, cR, rows, own, h, rfl⟩, he⟩ h7
  exact ctot_w .req q _ w (fun h => by cases h) fun W hW => (twtotal_any { h with tw := h.tw.frame (T := []) (Frame.of_below hW) fun _ _ => by simp }).mono fun e w' ⟨he, hw⟩ => ⟨he, hw ▸ Below.refl _ _⟩
 ends := by
  rintro w q Q m N lo hi ⟨k, a, c, rfl, ⟨tb, us, R, cR, rows, own, h, rfl⟩, he⟩ h7
  rw [← endW_c he]
  refine (twends_any h).mono fun e w' ⟨h, hb⟩ => ⟨h.trans ?_, hb⟩
  unfold endW
  by_cases z : k = 0
  ·rw [if_pos z, if_pos (by omega)]
  ·rw [if_neg z, if_neg (by omega)]
 code := by
  rintro w q Q m N lo hi ⟨k, a, c, rfl, ⟨tb, us, R, cR, rows, own, h, rfl⟩, he⟩ h3 h7 hx hy
  have hq := h.q
  obtain ⟨wn, rfl⟩ : ∃ n : Nat, wi = n := ⟨wi.toNat, by omega⟩
  obtain ⟨on, rfl⟩ : ∃ n : Nat, wo = n := ⟨wo.toNat, by have := hw.1; omega⟩
  obtain ⟨un, rfl⟩ : ∃ n : Nat, us = n := ⟨us.toNat, by omega⟩
  have ho : on < 18446744073709551616 := by have := hw.2; omega
  have u6 : un % 64 < 64 := Nat.mod_lt _ (by decide)
  have sl : ∀ r ∈ rows, r.xs.length < 64 := fun r hr => by have := h.sh r hr; omega
  have hl : (natsB [wn, on, un % 64] ++ intsB [zE (k : Int) lo, zE (k : Int) hi] ++ natsB [rows.length] ++ rwsB rows).length ≤ 262144 := by
   have h1 := natsB_len (l := [wn, on, un % 64]) fun u hu => by simp only [List.mem_cons, List.not_mem_nil, or_false] at hu; omega
   have h2 := intsB_len (l := [zE (k : Int) lo, zE (k : Int) hi]) fun u hu => by simp only [List.mem_cons, List.not_mem_nil, or_false] at hu; rcases hu with rfl | rfl; exact zE_i hx; exact zE_i hy
   have h3 := natsB_len (l := [rows.length]) fun u hu => by simp only [List.mem_singleton] at hu; omega
   have h4 := rwsB_len h.ai fun r hr => Nat.le_of_lt (sl r hr)
   simp only [List.length_append, List.length_cons, List.length_nil] at *
   omega
  refine ⟨_, hl, ?_, fun W qb hb hq hg => rqwrite_w h (by omega) ho (zE_i hx) (zE_i hy) (zE_w he) (fun z => ⟨zE_0 z, zE_0 z⟩) hb hq hg, fun W eb hT hE => ?_⟩
  ·simp only [List.append_assoc]; exact nats_ne _ _ _
  ·refine rqread_w (fun W W' q Q S ⟨n, x, y, e, h, he⟩ hF hn => ⟨n, x, y, e, h.frame hF hn, he⟩) ⟨by omega, sl, h.ai⟩ ⟨by omega, ho, by omega⟩ ⟨zE_i hx, zE_i hy⟩ hE (by omega) fun W A c n rs sx rr hn => ?_
   have e16 := congrArg List.length sx
   simp only [List.length_map] at e16
   refine (twload_any (us := ((un % 64 : Nat) : Int)) rr hn (by omega) (by omega) (by rw [wS_same sx]; omega) (AllI.same sx h.ai) (shS sx h.sh) (zE_i hx) (zE_i hy)).mono ?_
   rintro e w' ⟨⟨b, S, rfl, h', hm, hw⟩ | ⟨f, hf, rfl⟩, hb⟩
   ·exact ⟨.inl ⟨b, S, rfl, hw, k, _, _, rfl, by rw [wS_same sx, hq.2.2.1] at h'; exact h', fun z => ⟨zE_1 z, zE_1 z⟩⟩, hb⟩
   ·exact ⟨.inr ⟨f, hf, rfl⟩, hb⟩
end Go.Proofs.YtlbnlmhcpephbaaGreatDoor

namespace Go.Proofs.YtlbnlmhcpephbaaGreatDoor
open Go.RowKit
theorem kind_none (c : Cfg) (h : ∀ w, Calls Tryz.prog 25 #[c.val] w fun e w' => (∃ f : Int, f ≠ 0 ∧ e = .returned (.tuple #[.pointer none, .int .i64 f])) ∧ Below w.heap.size w w') : KindE c (fun _ _ _ _ => False) where
 frame h _ _ := h.elim
 lt h := h.elim
 mem h := h.elim
 new w _ := (h w).mono fun e w' k => ⟨.inr k.1, k.2⟩
 put _ _ _ _ _ _ h := h.elim
 code _ _ _ _ h := h.elim
 join _ _ _ _ _ _ _ h := h.elim
 tot _ _ _ _ h := h.elim
 ends _ _ _ _ h := h.elim
theorem sconf_ne (kd pn pd sd mo dg li de fa wi wo p1 p2 p3 p4 p5 p6 p7 p8 p9 p10 : Int) (w : World) (h : ¬ (pn = p1 ∧ pd = p2 ∧ sd = p3 ∧ mo = p4 ∧ dg = p5 ∧ li = p6 ∧ de = p7 ∧ fa = p8 ∧ wi = p9 ∧ wo = p10)) : (binOp .neq 28 (.agg #[.int .i64 kd, .int .u64 pn, .int .u64 pd, .int .i64 sd, .int .i64 mo, .int .i64 dg, .int .u64 li, .int .i64 de, .int .i64 fa, .int .i64 wi, .int .u64 wo]) (.agg #[.int .i64 kd, .int .u64 p1, .int .u64 p2, .int .i64 p3, .int .i64 p4, .int .i64 p5, .int .u64 p6, .int .i64 p7, .int .i64 p8, .int .i64 p9, .int .u64 p10])).run Tryz.prog w = .ok (.bool true) w := by
 go_simp
 exact fun e1 e2 e3 e4 e5 e6 e7 e8 e9 e10 => h ⟨e1, e2, e3, e4, e5, e6, e7, e8, e9, e10⟩
theorem kind_all (c : Cfg) (ok : c.Ok) (hw : U64 c.wo) : ∃ Sk : SkT, KindE c Sk := by
 obtain ⟨kd, pn, pd, sd, mo, dg, li, de, fa, wi, wo⟩ := c
 obtain ⟨p1, p2, p3, p4, p5, p6, p7, p8, p9, p10, hB⟩ : ∃ p1 p2 p3 p4 p5 p6 p7 p8 p9 p10, BareP kd pn pd sd mo dg li de fa wi wo p1 p2 p3 p4 p5 p6 p7 p8 p9 p10 := by
  unfold BareP
  by_cases h1 : kd = 1
  ·exact ⟨_, _, _, _, _, _, _, _, _, _, .inl ⟨h1, rfl, rfl, rfl, rfl, rfl, rfl, rfl, rfl, rfl, rfl⟩⟩
  by_cases h2 : kd = 2
  ·exact ⟨_, _, _, _, _, _, _, _, _, _, .inr (.inl ⟨h2, rfl, rfl, rfl, rfl, rfl, rfl, rfl, rfl, rfl, rfl⟩)⟩
  by_cases h3 : kd = 3
  ·exact ⟨_, _, _, _, _, _, _, _, _, _, .inr (.inr (.inl ⟨h3, rfl, rfl, rfl, rfl, rfl, rfl, rfl, rfl, rfl, rfl⟩))⟩
  by_cases h4 : kd = 4
  ·exact ⟨_, _, _, _, _, _, _, _, _, _, .inr (.inr (.inr (.inl ⟨h4, rfl, rfl, rfl, rfl, rfl, rfl, rfl, rfl, rfl, rfl⟩)))⟩
  by_cases h5 : kd = 5
  ·exact ⟨_, _, _, _, _, _, _, _, _, _, .inr (.inr (.inr (.inr (.inl ⟨h5, rfl, rfl, rfl, rfl, rfl, rfl, rfl, rfl, rfl, rfl⟩))))⟩
  by_cases h6 : kd = 6
  ·exact ⟨_, _, _, _, _, _, _, _, _, _, .inr (.inr (.inr (.inr (.inr (.inl ⟨h6, rfl, rfl, rfl, rfl, rfl, rfl, rfl, rfl, rfl, rfl⟩)))))⟩
  ·exact ⟨_, _, _, _, _, _, _, _, _, _, .inr (.inr (.inr (.inr (.inr (.inr ⟨⟨beq_eq_false_iff_ne.2 h1, beq_eq_false_iff_ne.2 h2, beq_eq_false_iff_ne.2 h3, beq_eq_false_iff_ne.2 h4, beq_eq_false_iff_ne.2 h5, beq_eq_false_iff_ne.2 h6⟩, rfl, rfl, rfl, rfl, rfl, rfl, rfl, rfl, rfl, rfl⟩)))))⟩
 by_cases he : pn = p1 ∧ pd = p2 ∧ sd = p3 ∧ mo = p4 ∧ dg = p5 ∧ li = p6 ∧ de = p7 ∧ fa = p8 ∧ wi = p9 ∧ wo = p10
 rotate_left
 ·exact ⟨_, kind_none _ fun w => (sknew_not kd pn pd sd mo dg li de fa wi wo p1 p2 p3 p4 p5 p6 p7 p8 p9 p10 w (fun W => sbare_w kd pn pd sd mo dg li de fa wi wo p1 p2 p3 p4 p5 p6 p7 p8 p9 p10 W hB) fun W => sconf_ne kd pn pd sd mo dg li de fa wi wo p1 p2 p3 p4 p5 p6 p7 p8 p9 p10 W he).mono fun e w' h => ⟨⟨1, by decide, h.1⟩, h.2⟩⟩
 obtain ⟨rfl, rfl, rfl, rfl, rfl, rfl, rfl, rfl, rfl, rfl⟩ := he
 have hB' := hB
 rcases hB with ⟨rfl, _, _, _, _, rfl, rfl, rfl, rfl, rfl, rfl⟩ | ⟨rfl, rfl, rfl, rfl, rfl, _, _, rfl, rfl, rfl, rfl⟩ | ⟨rfl, rfl, rfl, rfl, rfl, rfl, rfl, _, _, rfl, rfl⟩ | ⟨rfl, _, _, rfl, rfl, rfl, rfl, rfl, rfl, rfl, rfl⟩ | ⟨rfl, rfl, rfl, rfl, rfl, rfl, rfl, rfl, rfl, _, _⟩ | ⟨rfl, rfl, rfl, rfl, _, rfl, rfl, rfl, rfl, rfl, rfl⟩ | ⟨hk, rfl, rfl, rfl, rfl, rfl, rfl, rfl, rfl, rfl, rfl⟩
 ·exact ⟨_, kindE_of (core_log pn pd sd mo ok.pn ok.pd) hB'⟩
 ·exact ⟨_, kindE_of (core_hdr dg li ok.li.1) hB'⟩
 ·exact ⟨_, kindE_of (core_dig de fa) hB'⟩
 ·exact ⟨_, kindE_of (core_gre pn pd ok.pn ok.pd) hB'⟩
 ·exact ⟨_, kindE_of (core_req wi wo hw) hB'⟩
 ·exact ⟨_, kindE_of (core_lum mo) hB'⟩
 ·refine ⟨_, kind_none _ fun w => (sknew_at kd 0 0 0 0 0 0 0 0 0 0 22 (fun _ _ _ => False) True .nilIface (fun _ _ _ _ _ h _ _ => h) w (fun W => sbare_w kd 0 0 0 0 0 0 0 0 0 0 0 0 0 0 0 0 0 0 0 0 W hB') fun W _ => (sfresh_no kd 0 0 0 0 0 0 0 0 0 0 W hk).mono fun e w' h => ⟨.inr ⟨1, ⟨by decide, trivial⟩, h.1⟩, h.2⟩).mono ?_⟩
  rintro e w' ⟨⟨b, q, Q, _, _, _, _, h⟩ | ⟨f, hf, rfl⟩, hb⟩
  ·exact h.elim
  ·exact ⟨⟨f, hf.1, rfl⟩, hb⟩
theorem upV_sum {l : List (Int × Int)} (h : okP l) : upV l 9223372036854775807 = sumP l := by
 unfold upV
 rw [List.filter_eq_self.2 fun v hv => decide_eq_true (h v hv).1.2]
theorem En.is {l : List (Int × Int)} {lo hi : Int} (h : En l lo hi) (k : LOk l) : endW (sumP l) lo hi = .tuple #[.int .i64 (eLow l), .int .i64 (eHigh l), .bool (eIs l)] := by
 unfold endW
 by_cases e : l = []
 ·subst e
  rw [if_pos (show sumP [] = 0 from rfl)]
  rfl
 ·rw [if_neg fun z => e (k.zero.1 z)]
  obtain ⟨⟨u, hu, eu⟩, v, hv, ev⟩ := h.2.2 e
  obtain ⟨⟨p, hp, ep⟩, q, hq, eq⟩ := eLow_mem e
  have h1 := h.2.1 p hp
  have h2 := h.2.1 q hq
  have h3 := eLow_le hu
  have h4 := eLow_le hv
  obtain rfl : lo = eLow l := by omega
  obtain rfl : hi = eHigh l := by omega
  rw [show eIs l = true from decide_eq_true fun z => e (List.eq_nil_of_length_eq_zero z)]
end Go.Proofs.YtlbnlmhcpephbaaGreatDoor

namespace Go.Proofs.YtlbnlmhcpephbaaGreatDoor
open Go.RowKit
def goodF (n d : Int) : Bool := decide (0 < d ∧ n ≤ d)
theorem sgood_any (n d : Int) (w : World) (h1 : 0 ≤ n) (h2 : n < 18446744073709551616) (h3 : 0 ≤ d) (h4 : d < 18446744073709551616) :
  Calls Tryz.prog 189 #[.agg #[.int .u64 n, .int .u64 d]] w fun e w' => e = .returned (.bool (goodF n d)) ∧ Below w.heap.size w w' := by
 have HG : Hid (goodF n d = decide (0 < d ∧ n ≤ d)) := rfl
 by_cases hd : 0 < d
 ·go_enter Tryz.func189, Tryz.ntmps189
  go_wp2
  go_ret
  exact ⟨by rw [HG.out]; simp [hd], (by repeat (first | with_reducible assumption | with_reducible exact Below.refl _ _ | with_reducible refine Below.drew ?_ | with_reducible refine Below.drewN ?_ _ | with_reducible refine Below.setCell ?_ (by first | omega | (simp; done) | (simp; omega)) _ | with_reducible refine Below.alloc ?_ (by first | omega | (simp; done) | (simp; omega) | (simp [World.setCell]; omega)) _))⟩
 ·go_enter Tryz.func189, Tryz.ntmps189
  go_wp2
  go_ret
  exact ⟨by rw [HG.out]; simp; omega, (by repeat (first | with_reducible assumption | with_reducible exact Below.refl _ _ | with_reducible refine Below.drew ?_ | with_reducible refine Below.drewN ?_ _ | with_reducible refine Below.setCell ?_ (by first | omega | (simp; done) | (simp; omega)) _ | with_reducible refine Below.alloc ?_ (by first | omega | (simp; done) | (simp; omega) | (simp [World.setCell]; omega)) _))⟩
def placeT (a d n : Int) : Int := if goodF a d = true then (if n = 0 then 0 else max (ceilQ (a * n) d) 1) else 0
def placeE (a d n : Int) : Int := if goodF a d = true then (if n = 0 then 5 else 0) else 1
theorem max_if (x : Int) : (if x < 1 then 1 else x) = max x 1 := by split <;> omega
theorem place_any (a d n : Int) (w : World) (h1 : 0 ≤ a) (h2 : a < 18446744073709551616) (h3 : 0 ≤ d) (h4 : d < 18446744073709551616) (h5 : 0 ≤ n) (h6 : n < 18446744073709551616) :
  Calls Tryz.prog 186 #[.agg #[.int .u64 a, .int .u64 d], .int .u64 n] w fun e w' => e = .returned (.tuple #[.int .u64 (placeT a d n), .int .i64 (placeE a d n)]) ∧ Below w.heap.size w w' := by
 go_enter Tryz.func186, Tryz.ntmps186
 go_wp2_with fail
 refine (sgood_any a d _ h1 h2 h3 h4).mono ?_
 rintro e w1 ⟨rfl, hb⟩
 have s1 : At w1 w.heap.size #[.int .u64 a, .int .u64 d] 25 := At.below (At.new' _ _ _ rfl) hb
 have hB : Below w.heap.size w w1 := Below.trans (by repeat (first | with_reducible assumption | with_reducible exact Below.refl _ _ | with_reducible refine Below.drew ?_ | with_reducible refine Below.drewN ?_ _ | with_reducible refine Below.setCell ?_ (by first | omega | (simp; done) | (simp; omega)) _ | with_reducible refine Below.alloc ?_ (by first | omega | (simp; done) | (simp; omega) | (simp [World.setCell]; omega)) _)) (hb.mono (by first | omega | (simp; done) | (simp; omega) | (simp [World.setCell]; omega)))
 have f1 := s1.two
 have z1 := hB.size
 clear hb
 cases hg : goodF a d
 ·have e1 : Hid (placeT a d n = 0) := by show _ = _; unfold placeT; rw [hg]; rfl
  have e2 : Hid (placeE a d n = 1) := by show _ = _; unfold placeE; rw [hg]; rfl
  go_wp2
  go_ret2
  exact ⟨by rw [e1.out, e2.out]; rfl, hB⟩
 ·by_cases hn : n = 0
  ·have e1 : Hid (placeT a d n = 0) := by show _ = _; unfold placeT; rw [hg, if_pos rfl, if_pos hn]
   have e2 : Hid (placeE a d n = 5) := by show _ = _; unfold placeE; rw [hg, if_pos rfl, if_pos hn]
   subst hn
   go_wp2
   go_ret2
   exact ⟨by rw [e1.out, e2.out]; rfl, hB⟩
  ·have e1 : Hid (placeT a d n = max (ceilQ (a * n) d) 1) := by show _ = _; unfold placeT; rw [hg, if_pos rfl, if_neg hn]
   have e2 : Hid (placeE a d n = 0) := by show _ = _; unfold placeE; rw [hg, if_pos rfl, if_neg hn]
   have hn' : (n == 0) = false := beq_eq_false_iff_ne.2 hn
   go_wp2_with fail
   refine (ceil_any a n d _ h1 h2 h5 h6 h3 h4).mono ?_
   rintro e w2 ⟨rfl, hb⟩
   obtain ⟨q, hq⟩ : ∃ q, ceilQ (a * n) d = q := ⟨_, rfl⟩
   rw [hq] at e1 ⊢
   have hm := max_if q
   go_wp2
   go_ret2
   exact ⟨by rw [e1.out, e2.out]; first | rfl | simp, keep1 hB hb⟩
end Go.Proofs.YtlbnlmhcpephbaaGreatDoor

namespace Go.Proofs.YtlbnlmhcpephbaaGreatDoor
open Go.RowKit
set_option maxRecDepth 100000
set_option maxHeartbeats 1000000
section
variable {w w' : World} {b p : Nat} {B : Bool → Nat} {S : Bool → List Nat} {d lim z lo hi t a c : Int} {P : Bool → List (Int × Int)}
theorem findP_in : ∀ {ps : List (Int × Int)} {t s : Int}, (∀ v ∈ ps, I64 v.1) → I64 ((findP t s ps).getD 0)
  | [], _, _, _ => by simp [findP, I64]
  | v :: l, t, s, h => by
    unfold findP
    split
    · exact h v (by simp)
    · exact findP_in fun u hu => h u (by simp [hu])
theorem hfind_w (h : HdC w b p B S d lim P z lo hi) (ht : U64 t) (hs : hN P z ≤ 8000) : Calls Tryz.prog 219 #[.pointer (some ⟨b, 0, none⟩), .int .u64 t] w fun e w' => (∃ x, e = .returned (.int .i64 x)) ∧ Below w.heap.size w w' := by
 have s1 := h.at'
 have HT := Lib.hid (stotal_any (B true) (S true) 4096 _ w (h.st true))
 have F : Hid (∀ s u, U64 u → ∃ i f, I64 i ∧ ∀ W, Below w.heap.size w W → Calls Tryz.prog 220 #[.pointer (some ⟨B s, 0, none⟩), .int .u64 u] W fun e w' => e = .returned (.tuple #[.int .i64 i, .bool f]) ∧ Below W.heap.size W w') := fun s u hu =>
  ⟨_, _, findP_in fun v hv => ((h.st s).ok v hv).1, fun W hW => (sfind_any (B s) (S s) 4096 (P s) u W ((h.st s).below hW) hu).mono fun e w' ⟨he, hw⟩ => ⟨he, hw ▸ Below.refl _ _⟩⟩
 have RP := Lib.hid fun i (hi : I64 i) W (hW : Below w.heap.size w W) => sprp_any (h.span.below hW) hi
 have SV := Lib.hid fun x g W (hx : U64 x) => sgval_any x g W hx.1 hx.2
 have n0 := h.nn true
 have n1 := h.nn false
 have z0 := h.z0
 unfold hN at hs
 generalize sumP (P true) = n at *
 have Z : Hid (U64 t ∧ 0 ≤ n ∧ 0 ≤ z ∧ z ≤ 8000 ∧ n ≤ 8000) := by have := ht; exact ⟨this, n0, z0, by omega, by omega⟩
 have f1 := s1.c8
 have l1 := s1.lt
 clear h ht hs n0 n1 z0
 by_cases k1 : t ≤ n
 ·obtain ⟨i, f, hi, F⟩ := F.out true (IntKind.u64.wrap (IntKind.u64.wrap (n - t) + 1)) (wrapB _)
  have F := Lib.hid F
  have RP := Lib.hid (RP.out i hi)
  clear hi
  go_enter Tryz.func219, Tryz.ntmps219
  go_wp2_with fail
  refine HT.out.mono ?_
  rintro e w1 ⟨rfl, rfl⟩
  clear HT
  go_wp2_with fail
  refine (F.out w (Below.refl _ _)).mono ?_
  rintro e w2 ⟨rfl, hb2⟩
  have f2 := (s1.below hb2).c8
  have l2 := (s1.below hb2).lt
  clear F s1 f1 l1
  go_wp2_with fail
  refine (RP.out w2 hb2).mono ?_
  rintro e w3 ⟨⟨x, rfl, hx⟩, hb3⟩
  have SV := Lib.hid fun W => SV.out x true W hx
  have hb := keep1 hb2 hb3
  clear RP hx
  go_wp2_with fail
  refine (SV.out w3).mono ?_
  rintro e w4 ⟨rfl, rfl⟩
  clear SV
  go_wp2
  go_ret
  exact ⟨⟨_, rfl⟩, hb⟩
 have e1 : IntKind.u64.wrap (t - n) = t - n := by have := Z.out; have := Z.out.1.2; simp only [IntKind.wrap_u64]; omega
 by_cases k2 : t - n ≤ z
 ·clear F RP SV s1
  have hb := Below.refl w.heap.size w
  go_enter Tryz.func219, Tryz.ntmps219
  go_wp2_with fail
  refine HT.out.mono ?_
  rintro e w1 ⟨rfl, rfl⟩
  clear HT
  go_wp2
  go_ret
  exact ⟨⟨_, rfl⟩, by first | exact hb | exact hb.drewN _⟩
 have e2 : IntKind.u64.wrap (t - n - z) = t - n - z := by have := Z.out; have := Z.out.1.2; simp only [IntKind.wrap_u64]; omega
 obtain ⟨i, f, hi, F⟩ := F.out false (t - n - z) (by have := Z.out; have := Z.out.1.2; unfold U64; omega)
 have F := Lib.hid F
 have RP := Lib.hid (RP.out i hi)
 clear hi
 go_enter Tryz.func219, Tryz.ntmps219
 go_wp2_with fail
 refine HT.out.mono ?_
 rintro e w1 ⟨rfl, rfl⟩
 clear HT
 go_wp2
 have hfar1 := fun x : Far w => (x.at s1).c8
 refine wp_region_far (by kernel_rfl) (by kernel_rfl) ?_
 repeat go_big_quiet_step (first | (with_reducible refine far_of (F.out _ (Far.below _))))
 refine wpQuiet_nil ?_
 rintro _ ⟨xq, rfl⟩
 clear hfar1
 have hb2 := xq.below
 generalize xq.far = W3 at *
 replace s1 := s1.below hb2
 replace f1 := s1.c8
 replace l1 := s1.lt
 clear F k1 k2 e1 e2
 go_wp2_with fail
 refine (RP.out W3 hb2).mono ?_
 rintro e w4 ⟨⟨x, rfl, hx⟩, hb3⟩
 have SV := Lib.hid fun W => SV.out x false W hx
 have hb := keep1 hb2 hb3
 clear RP hx hb2 hb3 s1 f1 l1
 go_wp2_with fail
 refine (SV.out w4).mono ?_
 rintro e w5 ⟨rfl, rfl⟩
 generalize valOk x false = g
 clear SV
 cases g
 all_goals
  go_wp2
  go_ret
  exact ⟨⟨_, rfl⟩, hb⟩
theorem hquant_w (h : HdC w b p B S d lim P z lo hi) (ha : U64 a) (hc : U64 c) (hs : hN P z ≤ 8000) (hE : placeE a c (hN P z) = 0) (hT : U64 (placeT a c (hN P z))) : Calls Tryz.prog 215 #[.pointer (some ⟨b, 0, none⟩), .agg #[.int .u64 a, .int .u64 c]] w fun e w' => (∃ v, e = .returned (.tuple #[.int .i64 (min (max v lo) hi), .int .i64 0])) ∧ Below w.heap.size w w' := by
 have s0 : 0 ≤ hN P z := by have := h.nn true; have := h.nn false; have := h.z0; unfold hN; omega
 have TV := Lib.hid fun W (hb : Below w.heap.size w W) => htot_any (h.below hb) hs
 have PC := Lib.hid fun W => place_any a c (hN P z) W ha.1 ha.2 hc.1 hc.2 s0 (by omega)
 have FD := Lib.hid fun W (hb : Below w.heap.size w W) => hfind_w (h.below hb) hT hs
 rw [hE] at PC
 generalize placeT a c (hN P z) = t at *
 generalize hN P z = N at *
 have hb := bn w (.cells #[.int .u64 a, .int .u64 c] 25)
 have s1 := h.at'.below hb
 have r1 := At.new w #[.int .u64 a, .int .u64 c] 25
 have l0 := h.at'.lt
 clear h ha hc hs hE hT s0
 go_enter Tryz.func215, Tryz.ntmps215
 go_wp2
 generalize w.alloc _ = W1 at *
 obtain ⟨rb, hrb⟩ : ∃ r, w.heap.size = r := ⟨_, rfl⟩
 rw [hrb] at r1
 simp only [hrb]
 have HB := Lib.hid hb
 clear hrb hb
 have hfar1 := fun x : Far W1 => (x.at s1).c8
 have hfar2 := fun x : Far W1 => (x.at r1).two
 refine wp_region_far (by kernel_rfl) (by kernel_rfl) ?_
 repeat go_big_quiet_step (first | (with_reducible refine far_of (TV.out _ (keep1 HB.out (Far.below _)))) | (refine far_of (PC.out _)))
 refine wpQuiet_nil ?_
 rintro _ ⟨xq, rfl⟩
 clear hfar1 hfar2
 have hb2 := keep1 HB.out xq.below
 replace s1 := s1.below xq.below
 generalize xq.far = W2 at *
 have f1 := s1.c8
 have l1 := s1.lt
 have hT : AtH b (hB d lim p B z lo hi) 161 W2.drew := s1.drew
 clear PC TV r1 HB s1 l0
 go_wp2_with fail
 refine held_h (by kernel_rfl) (HeldS.mk' hT) (fun hHeld => ?_)
 have hb3 := hb2.drew
 generalize W2.drew = W3 at *
 have hne := hHeld.ne
 have hf := fun x => (hHeld.get x).a.c8
 clear f1 l1
 refine runH [2, 1, 4, 1, 4] 5 hHeld ?_
 simp only [runL, runN, runOps_true, runOps_false, runOps_nil]
 repeat go_big_quiet_step (fail)
 refine wpQuiet_nil ?_
 clear hf
 refine readyH 2 fun K hK => ?_
 go_simp
 go_wp2_with (go_at_call 219; refine (FD.out W3 hb3).mono ?_; rintro e w5 ⟨⟨v, rfl⟩, hb⟩)
 refine hK.out _ _ ?_ (fun hHeld => ?_)
 clear hK K
 ·exact HeldS.mk' (hT.a.below hb)
 refine runH [0, 7, 1, 4, 3] 0 hHeld ?_
 simp only [runL, runN, runOps_true, runOps_false, runOps_nil]
 repeat go_big_quiet_step (fail)
 refine wpQuiet_nil ?_
 refine doneH ?_
 clear hHeld hne FD
 go_wp2
 go_ret2
 exact ⟨⟨v, rfl⟩, keep1 hb3 hb⟩
end
end Go.Proofs.YtlbnlmhcpephbaaGreatDoor

namespace Go.Proofs.YtlbnlmhcpephbaaGreatDoor
open Go.RowKit
set_option maxRecDepth 100000
set_option maxHeartbeats 4000000
section
variable {w w' : World} {q b : Nat} {Q : List Nat}
def Xa : World → Nat → List Nat → Prop := fun W q Q => Xh 1 0 W q Q 0 0 0 0
theorem alive_new (hT : TensAt w) : Calls Tryz.prog 25 #[.agg (CR 2 0 0 0 0 1 0 0 0 0 0)] w (NwR 2 0 0 0 0 1 0 0 0 0 0 Kd.hdr.T Xa False w) := by
 refine sknew_at 2 0 0 0 0 1 0 0 0 0 0 Kd.hdr.T Xa False (.iface Kd.hdr.T (.agg #[.pointer none])) (fun W W' q Q S h hF hn => (core_hdr 1 0 (by decide)).frame h hF hn) w (fun W => sbare_w 2 0 0 0 0 1 0 0 0 0 0 0 0 0 0 1 0 0 0 0 0 W (.inr (.inl ⟨rfl, rfl, rfl, rfl, rfl, rfl, rfl, rfl, rfl, rfl, rfl⟩))) fun W hW => sfresh_w .hdr 0 0 0 0 1 0 0 0 0 0 Xa False W fun W' hW' => (hnew_w ((hT.below hW).below hW')).mono ?_
 rintro e w' ⟨⟨⟨b, S, rfl, h, hw⟩ | ⟨f, hf, rfl⟩, hb⟩, v, f', e', hi⟩
 ·exact ⟨.inl ⟨b, S, rfl, hw, ⟨⟨by decide, by decide⟩, by decide⟩, h⟩, hb⟩
 ·cases e'
  exact absurd (hi.2 ⟨⟨by decide, by decide⟩, by decide⟩) hf
theorem alive_put (ha : At w b #[.int .i64 2, .int .u64 0, .int .u64 0, .int .i64 0, .int .i64 0, .int .i64 1, .int .u64 0, .int .i64 0, .int .i64 0, .int .i64 0, .int .u64 0, .iface Kd.hdr.T (.agg #[pt q])] 79) (h : Hw w q Q 1 0 0 0 0 0) : Calls Tryz.prog 26 #[.pointer (some ⟨b, 0, none⟩), .int .i64 5, .int .u64 2] w fun e w' => e = .returned (.int .i64 0) ∧ ∃ Q', Mv Q Q' w w' ∧ Hw w' q Q' 1 0 1 2 5 5 :=
 (sput_at b q Kd.hdr.T Kd.hdr.put _ _ _ _ _ _ _ _ _ _ _ 5 2 w (fun f w' => f = 0 ∧ ∃ Q', Mv Q Q' w w' ∧ Hw w' q Q' 1 0 1 2 5 5) ha (m_put .hdr q) ((hput_w h (by decide) (by unfold I64; omega) (by decide) (by decide)).mono fun e w' ⟨f, he, h⟩ => ⟨f, he, h.elim (fun k => absurd k.1.2 (by decide)) fun k => ⟨k.1, k.2.2⟩⟩)).mono fun e w' ⟨f, he, hf, r⟩ => ⟨hf ▸ he, r⟩
theorem alive_quant (ha : At w b #[.int .i64 2, .int .u64 0, .int .u64 0, .int .i64 0, .int .i64 0, .int .i64 1, .int .u64 0, .int .i64 0, .int .i64 0, .int .i64 0, .int .u64 0, .iface Kd.hdr.T (.agg #[pt q])] 79) (h : Hw w q Q 1 0 1 2 5 5) : Calls Tryz.prog 14 #[.pointer (some ⟨b, 0, none⟩), .agg #[.int .u64 1, .int .u64 2]] w fun e w' => e = .returned (.tuple #[.int .i64 5, .int .i64 0]) ∧ Below w.heap.size w w' := by
 obtain ⟨p, B, T, P, z, x, y, rfl, h, e, he, _⟩ := h
 obtain ⟨rfl, rfl⟩ := he (by decide)
 refine (squant_at b q Kd.hdr.T 215 _ _ _ _ _ _ _ _ _ _ _ 1 2 [] w (fun _ x f _ => x = 5 ∧ f = 0) (by simp) (by simp) ha ⟨fun w => by kernel_rfl, fun a w => by kernel_rfl⟩ fun W hW => (hquant_w (h.below hW) (by unfold U64; omega) (by unfold U64; omega) (by omega) (by rw [← e]; decide +kernel) (by rw [← e]; unfold U64; decide +kernel)).mono fun e w' ⟨⟨v, he⟩, hb⟩ => ⟨_, _, he, Frame.of_below hb, by omega, rfl⟩).mono ?_
 rintro e w' ⟨x, f, rfl, W, hW, hF, rfl, rfl⟩
 exact ⟨rfl, hF.below' hW hW.size (fun _ h => by cases h)⟩
theorem talive_w (hT : TensAt w) : Calls Tryz.prog 7 #[] w fun e w' => e = .returned (.bool true) ∧ Below w.heap.size w w' := by
 have NW := Lib.hid (alive_new hT)
 clear hT
 go_enter Tryz.func7, Tryz.ntmps7
 go_wp2_with fail
 refine NW.out.mono ?_
 rintro e w1 ⟨⟨b, q, Q, rfl, hW, hb, ha, hX⟩ | ⟨f, ⟨_, h⟩, _⟩, hB⟩
 rotate_left
 ·exact h.elim
 have H := Lib.hid (And.intro ha (And.intro hX.2 (And.intro hb (And.intro hW hB))))
 clear hW hb ha hX hB NW
 go_wp2_with fail
 refine (alive_put H.out.1 H.out.2.1).mono ?_
 rintro e w2 ⟨rfl, Q', m, h⟩
 have a2 := m.f.at H.out.1 H.out.2.2.1
 have b2 := m.f.below' H.out.2.2.2.2 H.out.2.2.2.2.size fun j hj => H.out.2.2.2.1 j (by simp [hj])
 have H := Lib.hid (And.intro a2 (And.intro h b2))
 clear a2 b2 h m
 go_wp2_with fail
 refine (alive_quant H.out.1 H.out.2.1).mono ?_
 rintro e w3 ⟨rfl, hb⟩
 have ST := Lib.hid (stotal_at b q Kd.hdr.T _ 2 _ _ _ _ _ _ _ _ _ _ _ w3 (H.out.1.below hb) (m_tot .hdr q) ((core_hdr 1 0 (by decide)).tot (m := 1) (lo := 5) (hi := 5) ⟨⟨⟨by decide, by decide⟩, by decide⟩, H.out.2.1.frame (T := []) (Frame.of_below hb) fun _ _ => by simp⟩ (by decide)))
 have HB := Lib.hid (keep1 H.out.2.2 hb)
 clear hb H
 go_wp2_with fail
 refine ST.out.mono ?_
 rintro e w4 ⟨rfl, hb⟩
 have HB := Lib.hid (keep1 HB.out hb)
 clear hb ST
 go_wp2
 go_ret
 exact ⟨rfl, HB.out⟩
end
end Go.Proofs.YtlbnlmhcpephbaaGreatDoor

namespace Go.Proofs.YtlbnlmhcpephbaaGreatDoor
open Go.RowKit
def flatV (ps : List (Int × Int)) : List Value := ps.flatMap fun x => [.int .i64 x.1, .int .u64 x.2]
theorem flatV_append (ps qs : List (Int × Int)) : flatV (ps ++ qs) = flatV ps ++ flatV qs := by simp [flatV]
theorem flatV_len (ps : List (Int × Int)) : (flatV ps).length = ps.length * 2 := by
 induction ps with
 | nil => rfl
 | cons x ps ih => unfold flatV at *; simp only [List.flatMap_cons, List.length_append, List.length_cons, List.length_nil, ih]; omega
theorem flatV_one {ps : List (Int × Int)} : ∀ u ∈ flatV ps, u.oneCell' = true := by
 intro u hu
 unfold flatV at hu
 simp only [List.mem_flatMap, List.mem_cons, List.not_mem_nil, or_false] at hu
 obtain ⟨y, _, rfl | rfl⟩ := hu <;> rfl
def OwnV (base : Nat) (w : World) (A : Option Addr) (cap : Nat) (ps : List (Int × Int)) : Prop := w.ownsRow base 54 2 (.slice A ps.length cap) ps.length (flatV ps)
theorem OwnV.nil (base : Nat) (w : World) : OwnV base w none 0 [] := World.ownsRow_nil w base _ 2
theorem OwnV.rd {base cap : Nat} {w : World} {A : Option Addr} {ps : List (Int × Int)} (h : OwnV base w A cap ps) : RdP w A ps := by
 intro j u hj
 rcases h.2 with ⟨e, hn⟩ | ⟨g, c, cur, e, hg, hc, r⟩
 ·have : ps = [] := List.eq_nil_of_length_eq_zero hn
  subst this
  simp at hj
 ·injection e with e1 e2 e3
  subst e1
  have hl := (Array.getElem?_eq_some_iff.1 hc).1
  refine ⟨g, 0, rfl, hl, ?_⟩
  have := World.ownsRow.cells h (g := g) rfl j u hj
  rwa [Addr.add_lit] at this
theorem OwnV.base_le {base cap : Nat} {w : World} {A : Option Addr} {ps : List (Int × Int)} (h : OwnV base w A cap ps) : ∀ g, A = some g → base ≤ g.block ∧ g.block < w.heap.size := by
 rintro g rfl
 exact World.ownsRow.lt h g.block rfl
theorem Tryz.underlyingRowV : Tryz.prog.underlying 35 = some (.slice 54) := by kernel_rfl
theorem Tryz.infoPairV : (Tryz.prog.info? 54).map (fun i => (i.zero, i.size, i.bytes)) = some (some (.agg #[.int .i64 0, .int .u64 0]), 2, 16) := by kernel_rfl
theorem Tryz.infoVal : ∃ i, Tryz.prog.info? 54 = some i ∧ i.zero = some (.agg #[.int .i64 0, .int .u64 0]) ∧ i.size = 2 ∧ i.bytes = 16 := by
  have := Tryz.infoPairV
  cases hh : Tryz.prog.info? 54 with
  | none => rw [hh] at this; cases this
  | some i =>
    rw [hh] at this
    simp only [Option.map_some, Option.some.injEq, Prod.mk.injEq] at this
    exact ⟨i, rfl, this.1, this.2.1, this.2.2⟩
theorem vrun_append_none_any {P : Program} {w : World} {base : Nat} {e : TypeId} {size : Nat} (t ty : TypeId) (i : TypeInfo) (c : Nat) (ht : P.underlying t = some (.slice e)) (hi : P.info? e = some i)
  (v : Value) (n : Nat) (xs : List Value) (hown : w.ownsRow base e size v n xs) : (Builtin.append_ #[t, t] ty #[v, .slice none 0 c]).run P w = .ok v w := by
 rcases hown.2 with ⟨rfl, rfl⟩ | ⟨g, cap, cur, rfl, _, _, hnc, _⟩
 ·simp [Builtin.append_, run_underlying ht, sizeOf, typeInfo, hi, Builtin.lenOf, Builtin.firstCells]
 ·simp [Builtin.append_, run_underlying ht, sizeOf, typeInfo, hi, Builtin.lenOf, Builtin.firstCells, hnc, storeCells]
theorem vwpList_append_none_any {P : Program} {w : World} {ops : Array Oper} {rest : List Oper} {o : Oper} {a : Act} {Q : Exit → Act → World → Prop} (hgd : o.guard = none) (s x : Operand) (t : TypeId)
  (ho : o.op = .call { callee := .builtin .append, args := #[s, x], argTypes := #[t, t] })
  (base : Nat) (e : TypeId) (i : TypeInfo) (size : Nat) (ht : P.underlying t = some (.slice e)) (hi : P.info? e = some i) (c : Nat)
  (v : Value) (n : Nat) (xs : List Value) (hs : a.eval s = v) (hown : w.ownsRow base e size v n xs) (hx : a.eval x = .slice none 0 c)
  (h : wpList P ops Q rest (a.put o.dst v) w) : wpList P ops Q (o :: rest) a w := by
 refine wpList_plain hgd fun K hK => ?_
 have hrun := vrun_append_none_any (P := P) (w := w) t o.type i c ht hi v n xs hown
 unfold Oper.wp
 simp [execOp, ho, resolve, invoke, builtin, hs, hx, hrun, Result.andThen]
 exact hK _ _ h
end Go.Proofs.YtlbnlmhcpephbaaGreatDoor

namespace Go.Proofs.YtlbnlmhcpephbaaGreatDoor
open Go.RowKit
theorem OwnV.frame {base c : Nat} {w w' : World} {T : List Nat} {A : Option Addr} {ps : List (Int × Int)} (h : OwnV base w A c ps) (hf : Frame T w w') (hn : ∀ k ∈ blk A, k ∉ T) : OwnV base w' A c ps := by
 obtain ⟨h1, h2⟩ := h
 refine ⟨h1, ?_⟩
 rcases h2 with h2 | ⟨g, cp, cur, e, hg, hc, r⟩
 ·exact .inl h2
 ·refine .inr ⟨g, cp, cur, e, hg, (hf.block g (Array.getElem?_eq_some_iff.1 hc).1 (hn g ?_)).trans hc, r⟩
  simp only [Value.slice.injEq] at e
  rw [e.1]
  simp [blk]
theorem OwnV.below {base c : Nat} {w w' : World} {A : Option Addr} {ps : List (Int × Int)} (h : OwnV base w A c ps) (hb : Below w.heap.size w w') : OwnV base w' A c ps := h.frame (T := []) (Frame.of_below hb) (fun _ _ => by simp)
theorem OwnV.blk_le {base c : Nat} {w : World} {A : Option Addr} {ps : List (Int × Int)} (h : OwnV base w A c ps) : ∀ k ∈ blk A, base ≤ k ∧ k < w.heap.size := by
 intro k hk
 cases A with
 | none => simp [blk] at hk
 | some a => simp only [blk, List.mem_singleton] at hk; subst hk; exact h.base_le a rfl
theorem Frame.of_grown {w w' : World} {A : Option Addr} {n c : Nat} (hg : w.grownBy w' (Value.slice A n c).ownBlock) : Frame (blk A) w w' :=
 ⟨hg.os, hg.tape, hg.output, hg.size, fun k hk hn => hg.block k hk fun e => hn (by
  cases A with
  | none => simp [Value.ownBlock] at e
  | some a => simp [Value.ownBlock] at e; simp [blk, e])⟩
theorem wpList_append_valsF {ops : Array Oper} {rest : List Oper} {o : Oper} {a : Act} {Q : Exit → Act → World → Prop} {w : World} (hgd : o.guard = none) (s x : Operand)
    (ho : o.op = .call { callee := .builtin .append, args := #[s, x], argTypes := #[35, 35] })
    (base : Nat) (A : Option Addr) (cap n : Nat) (ps : List (Int × Int)) (hs : a.eval s = .slice A n cap) (hn : ps.length = n) (hown : OwnV base w A cap ps)
    (B : Option Addr) (m c : Nat) (qs : List (Int × Int)) (hx : a.eval x = .slice B m c) (hm : qs.length = m) (hR : RdP w B qs)
    (hlen : n + m ≤ 1099511627776) (hbase : base ≤ w.heap.size)
    (h : ∀ A' cap' w', Hid (OwnV base w' A' cap' (ps ++ qs)) → Frame (blk A) w w' → (∀ k ∈ blk A', k ∈ blk A ∨ w.heap.size ≤ k) → wpList Tryz.prog ops Q rest (a.put o.dst (.slice A' (n + m) cap')) w') :
    wpList Tryz.prog ops Q (o :: rest) a w := by
  subst hn hm
  obtain ⟨i, hi, hz, hsz, hby⟩ := Tryz.infoVal
  cases B with
  | none =>
    obtain rfl : qs = [] := by
      cases qs with
      | nil => rfl
      | cons y l =>
        obtain ⟨g, o, e, _⟩ := hR.at 0 (by simp)
        cases e
    refine vwpList_append_none_any hgd s x _ ho base _ i 2 Tryz.underlyingRowV hi c _ ps.length (flatV ps) hs hown hx ?_
    have := h A cap w (by rw [List.append_nil]; exact hown) (Frame.refl _ _) (fun k hk => .inl hk)
    exact this
  | some ad =>
    refine wpList_append_own_at w hgd s x _ ho base _ i _ 2 16 Tryz.underlyingRowV hi hz hsz hby rfl (by decide) _ ps.length (flatV ps) hs hown ad qs.length c (flatV qs) hx (flatV_len qs) ?_ flatV_one (by simp only [maxLen]; omega) (by omega) hbase ?_
    · intro j u hj
      obtain ⟨g, o', e, _, hc⟩ := hR j u hj
      cases e
      rw [Addr.add_lit]
      exact hc
    · intro v' w' hown' hg _ hbl
      have hF := Frame.of_grown hg
      rw [← flatV_append] at hown'
      have hl : (ps ++ qs).length = ps.length + qs.length := by simp
      have hB : ∀ A' n' cap', v' = .slice A' n' cap' → ∀ k ∈ blk A', k ∈ blk A ∨ w.heap.size ≤ k := by
        rintro A' n' cap' rfl k hk
        cases A' with
        | none => simp [blk] at hk
        | some a' =>
          simp only [blk, List.mem_singleton] at hk
          subst hk
          rcases hbl with hbl | hbl
          · left
            cases A with
            | none => simp [Value.ownBlock] at hbl
            | some a0 => simp [Value.ownBlock] at hbl; simp [blk, hbl]
          · right
            simp [Value.ownBlock] at hbl
            omega
      rcases hown'.2 with ⟨e, hn⟩ | ⟨g, cp, cur, rfl, r⟩
      · have := h none 0 w' (by show OwnV _ _ _ _ _; unfold OwnV; rw [hl, hn]; rw [e, hn] at hown'; exact hown') hF (fun k hk => by simp [blk] at hk)
        rw [hn] at this
        rw [e]
        exact this
      · exact h _ _ _ (by show OwnV _ _ _ _ _; unfold OwnV; rw [hl]; exact hown') hF (hB _ _ _ rfl)
theorem rdV_new (W : World) (x y : Int) : RdP (W.alloc (.cells #[.int .i64 x, .int .u64 y] 54)) (some ⟨W.heap.size, 0, none⟩) [(x, y)] := by
 intro j u hj
 have a := At.new W #[.int .i64 x, .int .u64 y] 54
 refine ⟨W.heap.size, 0, rfl, a.lt, ?_⟩
 have hl := (List.getElem?_eq_some_iff.1 hj).1
 simp at hl
 rcases (by omega : j = 0 ∨ j = 1) with rfl | rfl
 ·simp at hj; subst hj; exact a.cell rfl
 ·simp at hj; subst hj; exact a.cell rfl
end Go.Proofs.YtlbnlmhcpephbaaGreatDoor

namespace Go.Proofs.YtlbnlmhcpephbaaGreatDoor
open Go.RowKit
theorem OwnV.mono {base base' cap : Nat} {w : World} {A : Option Addr} {ps : List (Int × Int)} (h : OwnV base w A cap ps) (hb : base' ≤ base) : OwnV base' w A cap ps := by
 obtain ⟨h1, h2⟩ := h
 refine ⟨h1, ?_⟩
 rcases h2 with h2 | ⟨g, c, cur, e, hg, r⟩
 ·exact .inl h2
 ·exact .inr ⟨g, c, cur, e, Nat.le_trans hb hg, r⟩
def GreatR (c : Cfg) (ls : List Lf) (w : World) (e : Ending) (w' : World) : Prop := ∃ bv, e = .returned (.bool bv) ∧ (bv = false → PlayC c ls) ∧ Below w.heap.size w w'
theorem GreatR.yes {c : Cfg} {ls : List Lf} {w w' : World} (hb : Below w.heap.size w w') : GreatR c ls w (.returned (.bool true)) w' := ⟨true, rfl, (fun h => by simp at h), hb⟩
theorem GreatR.no {c : Cfg} {ls : List Lf} {w w' : World} (h : PlayC c ls) (hb : Below w.heap.size w w') : GreatR c ls w (.returned (.bool false)) w' := ⟨false, rfl, (fun _ => h), hb⟩
set_option maxRecDepth 100000 in
set_option maxHeartbeats 2000000 in
theorem great_any (c : Cfg) (A : Option Addr) (len cap : Nat) (ls : List Lf) (w : World) (hl : ls.length = len) (hm : len ≤ 9223372036854775807) (hR : RdL w A ls) :
  Calls Tryz.prog 8 #[c.val, .slice A len cap] w fun e w' => GreatR c ls w e w' := by
 have HLN := Lib.hid hl
 have HR := Lib.hid hR
 have HPC : Hid (∀ ls, PlayC c ls ↔ (ls.length ≤ 12 ∧ (∀ x ∈ ls, x.vals.length ≤ 30 ∧ ∀ v ∈ x.vals, v.2 ≤ 20) ∧ (c.kd = 1 → c.pd ≤ 100))) := fun ls => ⟨fun h => ⟨h.len, h.few, h.den⟩, fun h => ⟨h.1, h.2.1, h.2.2⟩⟩
 have HGY := Lib.hid fun w' (h : Below w.heap.size w w') => GreatR.yes (c := c) (ls := ls) h
 have HGN := Lib.hid fun w' (hp : PlayC c ls) (h : Below w.heap.size w w') => GreatR.no hp h
 obtain ⟨R, hGR⟩ : ∃ R, GreatR c ls w = R := ⟨_, rfl⟩
 rw [hGR] at HGY HGN ⊢
 obtain ⟨P, hP⟩ : ∃ P, PlayC c = P := ⟨_, rfl⟩
 rw [hP] at HGN HPC
 obtain ⟨kd, pn, pd, sd, mo, dg, li, de, fa, wi, wo⟩ := c
 clear hGR hP hl hR
 dsimp only at HPC
 have hba : Below w.heap.size w (w.alloc (.cells #[.int .i64 kd, .int .u64 pn, .int .u64 pd, .int .i64 sd, .int .i64 mo, .int .i64 dg, .int .u64 li, .int .i64 de, .int .i64 fa, .int .i64 wi, .int .u64 wo] 28)) := (Below.refl _ _).alloc (Nat.le_refl _) _
 have ac := At.new w #[.int .i64 kd, .int .u64 pn, .int .u64 pd, .int .i64 sd, .int .i64 mo, .int .i64 dg, .int .u64 li, .int .i64 de, .int .i64 fa, .int .i64 wi, .int .u64 wo] 28
 show Calls _ _ #[.agg #[.int .i64 kd, .int .u64 pn, .int .u64 pd, .int .i64 sd, .int .i64 mo, .int .i64 dg, .int .u64 li, .int .i64 de, .int .i64 fa, .int .i64 wi, .int .u64 wo], .slice A len cap] _ _
 go_enter Tryz.func8, Tryz.ntmps8
 go_wp2_with fail
 obtain ⟨W1, hW1⟩ : ∃ W, w.alloc (.cells #[.int .i64 kd, .int .u64 pn, .int .u64 pd, .int .i64 sd, .int .i64 mo, .int .i64 dg, .int .u64 li, .int .i64 de, .int .i64 fa, .int .i64 wi, .int .u64 wo] 28) = W := ⟨_, rfl⟩
 obtain ⟨cb, hcb⟩ : ∃ r, w.heap.size = r := ⟨_, rfl⟩
 rw [hW1] at hba ac
 rw [hcb] at ac
 have HBA := Lib.hid hba
 have HAC := Lib.hid ac
 simp only [hW1, hcb]
 clear hW1 hcb hba ac
 go_loopw [11] (fun i wr => ∃ k : Nat, k ≤ len ∧ i = .int .i64 k ∧ Hid (∀ x ∈ ls.take k, x.vals.length ≤ 30 ∧ ∀ v ∈ x.vals, v.2 ≤ 20) ∧ Hid (Below W1.heap.size W1 wr)) (fun i _ => len - (intOf i).toNat)
 case atStart => exact ⟨0, by omega, rfl, fun x hx => by simp at hx, Below.refl _ _⟩
 case round =>
  obtain ⟨k, hk, rfl, HC, HB⟩ := hrel
  by_cases hlt : k < len
  ·have HKL : Hid (k < ls.length) := by have := HLN.out; show _ < _; omega
   obtain ⟨g, o, rfl, hg, c1, c2⟩ := (HR.out.below (keep1 HBA.out HB.out)).at k HKL.out
   have HXM : Hid ((ls[k]'HKL.out) ∈ ls) := List.getElem_mem _
   have HXO := Lib.hid ((HR.out.below (keep1 HBA.out HB.out)).2 _ HXM.out)
   have HT : Hid (ls.take (k + 1) = ls.take k ++ [ls[k]'HKL.out]) := List.take_succ_eq_append_getElem HKL.out
   obtain ⟨⟨xA, xc, xv, xb⟩, hx⟩ : ∃ x, ls[k]'HKL.out = x := ⟨_, rfl⟩
   rw [hx] at c1 c2 HXM HXO HT
   dsimp only at c1 c2
   have HXV := Lib.hid HXO.out.2.2
   have HXR : Hid (RdP wr xA xv) := HXO.out.1
   obtain ⟨n, hn⟩ : ∃ n, xv.length = n := ⟨_, rfl⟩
   have HN := Lib.hid hn
   have hn63 : n ≤ 9223372036854775807 := by have : xv.length ≤ _ := HXV.out; omega
   rw [hn] at c1
   have hbe : Below wr.heap.size wr (wr.alloc (.cells #[.slice xA n xc, .bool xb] 70)) := (Below.refl _ _).alloc (Nat.le_refl _) _
   have HBE := Lib.hid (keep1 HB.out hbe)
   have HXR1 := Lib.hid (HXR.out.below hbe)
   clear hx hn hbe HXO HXR
   by_cases h30 : 30 < n
   ·have hd : decide ((30 : Int) < n) = true := decide_eq_true (by omega)
    have HF := Lib.hid (HGY.out _ (keep1 HBA.out HBE.out))
    clear h30
    go_wp2
    exact HF.out
   ·have hd : decide ((30 : Int) < n) = false := decide_eq_false (by omega)
    have hd' : decide (30 < n) = false := decide_eq_false h30
    have h30' : n ≤ 30 := by omega
    clear h30
    go_wp2
    clear c1 c2 hg hd hd'
    obtain ⟨W2, hW2⟩ : ∃ W, wr.alloc (.cells #[.slice xA n xc, .bool xb] 70) = W := ⟨_, rfl⟩
    rw [hW2] at HBE HXR1
    simp only [hW2]
    clear hW2
    obtain ⟨wo', hwo⟩ : ∃ wo' : World, wo' = wr := ⟨_, rfl⟩
    go_loopw [22] (fun i wi => ∃ j : Nat, j ≤ n ∧ i = .int .i64 j ∧ Hid (∀ v ∈ xv.take j, v.2 ≤ 20) ∧ Hid (Below W2.heap.size W2 wi)) (fun i _ => n - (intOf i).toNat)
    case atStart => exact ⟨0, by omega, rfl, fun x hx => by simp at hx, Below.refl _ _⟩
    case round =>
     obtain ⟨j, hj, rfl, HCJ, HBJ⟩ := hrel
     by_cases hjn : j < n
     ·have HJL : Hid (j < xv.length) := by have := HN.out; show _ < _; omega
      obtain ⟨g', o', rfl, hg', d1, d2⟩ := (HXR1.out.below HBJ.out).at j HJL.out
      have HTJ : Hid (xv.take (j + 1) = xv.take j ++ [xv[j]'HJL.out]) := List.take_succ_eq_append_getElem HJL.out
      obtain ⟨⟨x, y⟩, hxy⟩ : ∃ x, xv[j]'HJL.out = x := ⟨_, rfl⟩
      rw [hxy] at d1 d2 HTJ
      dsimp only at d1 d2
      have hbe : Below wr.heap.size wr (wr.alloc (.cells #[.int .i64 x, .int .u64 y] 54)) := (Below.refl _ _).alloc (Nat.le_refl _) _
      have HBJ1 := Lib.hid (keep1 HBJ.out hbe)
      clear hxy hbe
      by_cases hy : 20 < y
      ·have hd : decide (20 < y) = true := decide_eq_true hy
       have HF := Lib.hid (HGY.out _ (keep1 HBA.out (keep1 HBE.out HBJ1.out)))
       clear hy
       go_wp2
       exact HF.out
      ·have hd : decide (20 < y) = false := decide_eq_false hy
       have HC2 : Hid (∀ v ∈ xv.take (j + 1), v.2 ≤ 20) := fun v hv => by
        rw [HTJ.out] at hv
        rcases List.mem_append.1 hv with h | h
        ·exact HCJ.out v h
        ·rw [List.mem_singleton] at h; subst h; exact (by omega : y ≤ 20)
       clear hy HCJ HTJ
       go_wp2
       go_roundw
       case rel => exact ⟨j + 1, by omega, by simp, HC2, HBJ1⟩
       case measure => simp [intOf]; omega
     ·obtain rfl : j = n := by omega
      have HC3 : Hid (∀ x ∈ ls.take (k + 1), x.vals.length ≤ 30 ∧ ∀ v ∈ x.vals, v.2 ≤ 20) := fun x hx => by
       rw [HT.out] at hx
       rcases List.mem_append.1 hx with h | h
       ·exact HC.out x h
       ·rw [List.mem_singleton] at h
        subst h
        have e : xv.take j = xv := List.take_of_length_le (by have := HN.out; omega)
        have := HCJ.out
        rw [e] at this
        exact ⟨by have := HN.out; show xv.length ≤ 30; omega, this⟩
      have HB3 := Lib.hid (keep1 HBE.out HBJ.out)
      clear HCJ HBJ hjn
      go_wp2
      go_roundw
      case rel => exact ⟨k + 1, by omega, by simp, HC3, HB3⟩
      case measure => simp [intOf]; omega
  ·obtain rfl : k = len := by omega
   have HC1 : Hid (∀ x ∈ ls, x.vals.length ≤ 30 ∧ ∀ v ∈ x.vals, v.2 ≤ 20) := by
    have := HC.out
    rw [List.take_of_length_le (by have := HLN.out; omega)] at this
    exact this
   have a2 := HAC.out.below HB.out
   have f2 := a2.el
   have l2 := a2.lt
   have HFB := Lib.hid (keep1 HBA.out HB.out)
   clear a2 HC hlt
   by_cases h12 : 12 < k
   ·have hd : decide ((12 : Int) < k) = true := decide_eq_true (by omega)
    have hd' : decide (12 < k) = true := decide_eq_true h12
    have HF := Lib.hid (HGY.out _ HFB.out)
    go_wp2
    exact HF.out
   ·have hd : decide ((12 : Int) < k) = false := decide_eq_false (by omega)
    have hd' : decide (12 < k) = false := decide_eq_false h12
    have HL12 : Hid (ls.length ≤ 12) := by have := HLN.out; show _ ≤ _; omega
    by_cases hk1 : kd = 1
    ·have he : (kd == 1) = true := beq_iff_eq.2 hk1
     by_cases hp : 100 < pd
     ·have hd2 : decide (100 < pd) = true := decide_eq_true hp
      have HF := Lib.hid (HGY.out _ HFB.out)
      clear hk1 hp h12
      go_wp2
      exact HF.out
     ·have hd2 : decide (100 < pd) = false := decide_eq_false hp
      have HF := Lib.hid (HGN.out _ ((HPC.out ls).2 ⟨HL12.out, HC1.out, fun _ => by omega⟩) HFB.out)
      clear hk1 hp h12
      go_wp2
      exact HF.out
    ·have he : (kd == 1) = false := beq_eq_false_iff_ne.2 hk1
     have HF := Lib.hid (HGN.out _ ((HPC.out ls).2 ⟨HL12.out, HC1.out, fun h => absurd h hk1⟩) HFB.out)
     clear hk1 h12
     go_wp2
     exact HF.out
section
variable {c : Cfg} {Sk : SkT}
theorem tbytes_any (K : KindC c Sk) (b : Nat) (S : List Nat) (l : List (Int × Int)) (w : World) (h : Sk w b S l) (hv : LOk l) :
  Calls Tryz.prog 39 #[.pointer (some ⟨b, 0, none⟩)] w fun e w' => ∃ st : ByteArray, e = .returned (.string st) ∧ Below w.heap.size w w' ∧ ∀ W, TensAt W → Calls Tryz.prog 38 #[.string st] W (NewSk Sk l W) := by
 have HC := Lib.hid (K.code b S l w h hv)
 clear h hv
 go_enter Tryz.func39, Tryz.ntmps39
 go_wp2_with fail
 refine HC.out.mono ?_
 rintro e w1 ⟨st, f, rfl, hb, hD⟩
 have HD := Lib.hid hD
 have HB := Lib.hid hb
 clear hb hD HC
 go_wp2
 go_ret
 exact ⟨st, rfl, HB.out, HD.out⟩
end
end Go.Proofs.YtlbnlmhcpephbaaGreatDoor
