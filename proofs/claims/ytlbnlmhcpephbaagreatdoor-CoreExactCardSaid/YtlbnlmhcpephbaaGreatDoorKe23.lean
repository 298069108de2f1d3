/- Texts of this claim, joined, indents halved: ERq4, ERq5, ERq6, ERq7. -/
import Derived.Test.YtlbnlmhcpephbaaGreatDoorProg
import Derived.StillTailTactics
import Derived.Test.YtlbnlmhcpephbaaGreatDoorKe22
namespace Go.Proofs.YtlbnlmhcpephbaaGreatDoor
open Go.RowKit Go.Shelf
def AllI (rows : List Ro) : Prop := ∀ r ∈ rows, ∀ x ∈ r.xs, -9223372036854775808 ≤ x ∧ x ≤ 9223372036854775807
def Sh (wd : Int) (d : Nat) (rows : List Ro) : Prop := ∀ i (h : i < rows.length), i < d → (rows[i].xs.length : Int) < wd
def TwJ (S0 : List Nat) (b tb : Nat) (wd wo tot lo hi u0 : Int) (N : Nat) (w W : World) (d : Nat) : Prop :=
 ∃ us R cR rows own, Mv S0 (twS b tb R rows) w W ∧ TwB W b tb wd wo us tot lo hi R cR rows own ∧ (u0 ≤ us ∧ us ≤ u0 + d ∧ wS rows = N ∧ 1 ≤ rows.length ∧ rows.length ≤ 16) ∧ AllI rows ∧ Sh wd d rows
def TwH (b gR i : Nat) (cs : Array Value) (v : Value) (W : World) : Prop := At W b cs 178 ∧ W.cell? ⟨gR, i, none⟩ = some v ∧ gR < W.heap.size
theorem TwH.a {b gR i : Nat} {cs : Array Value} {v : Value} {W : World} (h : TwH b gR i cs v W) : At W b cs 178 := h.1
theorem TwH.c {b gR i : Nat} {cs : Array Value} {v : Value} {W : World} (h : TwH b gR i cs v W) : W.cell? ⟨gR, i, none⟩ = some v ∧ gR < W.heap.size := h.2
theorem TwH.below {b gR i : Nat} {cs : Array Value} {v : Value} {W W' : World} (h : TwH b gR i cs v W) (hb : Below W.heap.size W W') : TwH b gR i cs v W' := ⟨h.1.below hb, cellB hb h.2.2 h.2.1, Nat.lt_of_lt_of_le h.2.2 hb.size⟩
theorem TwH.frame {b gR i : Nat} {cs : Array Value} {v : Value} {W W' : World} {T : List Nat} (h : TwH b gR i cs v W) (hf : Frame T W W') (h1 : b ∉ T) (h2 : gR ∉ T) : TwH b gR i cs v W' := ⟨hf.at h.1 h1, (World.cell?_of_block (a := ⟨gR, i, none⟩) (hf.block gR h.2.2 h2)).trans h.2.1, Nat.lt_of_lt_of_le h.2.2 hf.size⟩
def TwC (S0 : List Nat) (b tb : Nat) (wd wo tot lo hi u0 : Int) (N : Nat) (w : World) (k n : Nat) (st : Ro) (X : Option Addr) (zs : List Int) (W : World) : Prop :=
 ∃ us R cR rows own, Mv S0 (twS b tb R rows) w W ∧ TwB W b tb wd wo us tot lo hi R cR rows own ∧ (u0 ≤ us ∧ us ≤ u0 + k ∧ wS rows = N ∧ k + 1 < rows.length ∧ rows.length ≤ 16) ∧ AllI rows ∧ (∀ h : k < rows.length, rows[k].xs.length = n) ∧ RoAt W st ∧ (∀ j ∈ blk st.A, j ∉ twS b tb R rows ∧ w.heap.size ≤ j) ∧ RdW W X zs ∧ Sh wd k rows
theorem Tryz.underlyingRs : Tryz.prog.underlying 176 = some (.slice 171) := by kernel_rfl
theorem Tryz.infoRs : ∃ i, Tryz.prog.info? 171 = some i ∧ i.zero = some (.slice none 0 0) ∧ i.size = 1 ∧ i.bytes = 24 := by
 have : (Tryz.prog.info? 171).map (fun i => (i.zero, i.size, i.bytes)) = some (some (.slice none 0 0), 1, 24) := by kernel_rfl
 obtain ⟨i, hi, e⟩ := Option.map_eq_some_iff.1 this
 simp only [Prod.mk.injEq] at e
 exact ⟨i, hi, e.1, e.2.1, e.2.2⟩
section
variable {w : World} {b tb cR : Nat} {wd wo us tot lo hi : Int} {R : Option Addr} {rows : List Ro} {own : Nat → Nat}
set_option maxRecDepth 100000 in
set_option maxHeartbeats 4000000 in
theorem settle_any (h : TwB w b tb wd wo us tot lo hi R cR rows own) (hw : 4 ≤ wd ∧ wd ≤ 64) (hu : 0 ≤ us ∧ us ≤ 1099511627776) (hN : wS rows ≤ 8000) (hl : 1 ≤ rows.length ∧ rows.length ≤ 16) (hi' : AllI rows) :
  Calls Tryz.prog 322 #[.pointer (some ⟨b, 0, none⟩)] w fun e w' => e = .returned (.tuple #[]) ∧ TwJ (twS b tb R rows) b tb wd wo tot lo hi us (wS rows) w w' 20 := by
 have J : Hid (TwJ (twS b tb R rows) b tb wd wo tot lo hi us (wS rows) w w 0) := ⟨us, R, cR, rows, own, Mv.of _ (Below.refl _ _), h, ⟨by omega, by omega, rfl, hl.1, hl.2⟩, hi', fun i _ h => by omega⟩
 have P := Lib.hid (And.intro hw (And.intro hu hN))
 generalize wS rows = N at *
 generalize twS b tb R rows = S0 at *
 clear h hw hu hN hl hi'
 go_enter Tryz.func322, Tryz.ntmps322
 go_wp2
 go_loopw [2] (fun i wr => ∃ k : Nat, i = .int .i64 k ∧ k ≤ 16 ∧ Hid (TwJ S0 b tb wd wo tot lo hi us N w wr k)) (fun i _ => 17 - (intOf i).toNat)
 case atStart => exact ⟨0, rfl, by omega, J⟩
 case round =>
  clear J
  obtain ⟨k, rfl, hk, J⟩ := hrel
  obtain ⟨u1, R, cR, rows, own, mv, h, q, ai, sh⟩ := J.out
  have f1 := h.at'.c7
  have l1 := h.at'.lt
  obtain ⟨m, hm⟩ : ∃ m, rows.length = m := ⟨_, rfl⟩
  rw [hm] at f1
  have HM := Lib.hid hm
  have hm16 : m ≤ 16 := by omega
  by_cases hkm : k < m
  ·obtain ⟨gR, rfl⟩ := h.rr.addr (by omega)
   have hkr : k < rows.length := by omega
   have c1 := h.rr.cell hkr
   have lR := h.rr.lt gR (by simp [blk])
   have rk := h.ro k hkr
   have SH := Lib.hid sh
   have ak := ai _ (List.getElem_mem hkr)
   have wk := wS_set hkr
   have fk := wS_few hkr
   have n8 : rows[k].xs.length ≤ 8000 := Nat.le_trans (Nat.le_trans (Nat.le_mul_of_pos_left _ (Nat.two_pow_pos k)) (wS_ge hkr)) (by have := P.out; omega)
   obtain ⟨⟨A, cap, xs⟩, hr⟩ : ∃ r, rows[k] = r := ⟨_, rfl⟩
   rw [hr] at c1 rk ak fk n8
   simp only [hr] at wk
   unfold Ro.v at c1
   dsimp only at c1 rk ak wk fk n8
   obtain ⟨n, hn⟩ : ∃ n, xs.length = n := ⟨_, rfl⟩
   rw [hn] at c1 wk fk n8
   have H := Lib.hid (And.intro mv (And.intro h (And.intro q ai)))
   have RK := Lib.hid (And.intro rk (And.intro ak (And.intro wk (And.intro fk (And.intro hr hn)))))
   have hTw : TwH b gR k #[.int .i64 wd, .int .u64 wo, .pointer (some ⟨tb, 0, none⟩), .slice (some ⟨gR, 0, none⟩) m cR, .int .u64 tot, .int .i64 lo, .int .i64 hi] (.slice A n cap) wr := ⟨hm ▸ h.at', c1, lR⟩
   have TH := Lib.hid hTw
   have EK : Hid (∀ h : k < rows.length, rows[k].xs.length = n) := fun h => by rw [hr]; exact hn
   clear mv h q ai sh rk ak wk fk hr hm J hTw
   by_cases hx : (n : Int) < wd
   ·go_upto_region 3 with fail
    go_quiet (fail)
    have J : Hid (TwJ S0 b tb wd wo tot lo hi us N w (wr.drewN nq) (k + 1)) := ⟨u1, _, cR, rows, own, H.out.1.trans (Mv.of _ ((Below.refl _ _).drewN nq)), H.out.2.1.below ((Below.refl _ _).drewN nq), by have := H.out.2.2.1; omega, H.out.2.2.2, fun i h hi => by
     rcases Nat.lt_succ_iff_lt_or_eq.1 hi with hi | rfl
     ·exact SH.out i h hi
     ·rw [EK.out h]; exact hx⟩
    clear H RK TH
    go_wp2
    go_roundw
    case rel => exact ⟨k + 1, by simp, by omega, J⟩
    case measure => simp [intOf]; omega
   ·have ex : decide ((n : Int) < wd) = false := decide_eq_false hx
    go_upto_region 3 with fail
    go_quiet (fail)
    have hb0 : Below wr.heap.size wr (wr.drewN nq) := (Below.refl _ _).drewN nq
    replace H := Lib.hid (And.intro (H.out.1.trans (Mv.of _ hb0)) (And.intro (H.out.2.1.below hb0) H.out.2.2))
    replace RK := Lib.hid (And.intro (RK.out.1.frame (Frame.of_below (S := []) hb0) (fun _ _ => by simp)) RK.out.2)
    replace TH := Lib.hid (TH.out.below hb0)
    clear f1 l1 c1 lR hb0 ex
    go_upto_region 4 with fail
    generalize wr.drewN nq = W0 at *
    have f1 := TH.out.a.c7
    have l1 := TH.out.a.lt
    have c1 := TH.out.c
    obtain ⟨kk, hkk⟩ : ∃ kk : Nat, (kk : Int) = wd / 2 := ⟨(wd / 2).toNat, by have := P.out; omega⟩
    have e1 : IntKind.i64.wrap (wd.tdiv 2) = kk := by have := P.out; rw [Int.tdiv_eq_ediv_of_nonneg (by omega), ← hkk, IntKind.wrap_i64]; omega
    have e2 : wrap64 (wd.tdiv 2) = kk := by have := P.out; rw [Int.tdiv_eq_ediv_of_nonneg (by omega), ← hkk]; unfold wrap64; omega
    have KW : Hid ((kk : Int) = wd / 2) := hkk
    have KN : Hid (1 ≤ kk ∧ kk ≤ n ∧ 4 ≤ n) := by have := P.out; exact ⟨by omega, by omega, by omega⟩
    have SP := Lib.hid fun W (hb : Below W0.heap.size W0 W) => split_any A cap n kk xs W (RdW.below RK.out.1.rd hb) hn (by omega) KN.out.1 KN.out.2.1
    have e3 := hkk.symm
    clear hkk hx
    have hT0 := TH.out.below (Below.refl _ _).drew
    refine wp_region_noPanic ?_
    refine wp_region_held_drew (by kernel_rfl) (HeldS.mk' hT0) (fun hHeld => ?_)
    have hW0 : Below W0.heap.size W0 W0.drew := (Below.refl _ _).drew
    generalize W0.drew = W2 at *
    have hne : Nonempty (Held (TwH b gR k #[.int .i64 wd, .int .u64 wo, .pointer (some ⟨tb, 0, none⟩), .slice (some ⟨gR, 0, none⟩) m cR, .int .u64 tot, .int .i64 lo, .int .i64 hi] (.slice A n cap))) := ⟨⟨W2, hT0⟩⟩
    have hf1 := fun x : Held (TwH b gR k #[.int .i64 wd, .int .u64 wo, .pointer (some ⟨tb, 0, none⟩), .slice (some ⟨gR, 0, none⟩) m cR, .int .u64 tot, .int .i64 lo, .int .i64 hi] (.slice A n cap)) => x.held.a.c7
    have hf2 := fun x : Held (TwH b gR k #[.int .i64 wd, .int .u64 wo, .pointer (some ⟨tb, 0, none⟩), .slice (some ⟨gR, 0, none⟩) m cR, .int .u64 tot, .int .i64 lo, .int .i64 hi] (.slice A n cap)) => x.held.c
    clear f1 l1 c1
    refine runH [13] 6 hHeld ?_
    simp only [runL, runN, runOps_true, runOps_false, runOps_nil]
    repeat go_big_quiet_step (fail)
    refine wpQuiet_nil ?_
    clear e1 e2 e3
    refine readyH 13 fun K hK => ?_
    go_simp
    go_wp2_with (go_at_call 326; refine (SP.out W2 hW0).mono ?_; rintro e w5 ⟨g, c', ys, j, X, C, rfl, q, ho, ⟨hX, oX, rfl⟩, hb⟩)
    refine hK.out _ _ ?_ (fun hHeld => ?_)
    clear hK K
    ·exact HeldS.mk' (hT0.below hb)
    refine runH [0, 14, 5] 0 hHeld ?_
    simp only [runL, runN, runOps_true, runOps_false, runOps_nil]
    repeat go_big_quiet_step (fail)
    refine wpQuiet_nil ?_
    refine wpAnyH_done (by kernel_rfl) ?_ _
    refine NoPanic.normal ?_
    have hb2 := keep1 hW0 hb
    have HC : Hid (Mv S0 (twS b tb (some ⟨gR, 0, none⟩) rows) w w5 ∧ TwB w5 b tb wd wo u1 tot lo hi (some ⟨gR, 0, none⟩) cR rows own ∧ (∀ h : k < rows.length, rows[k].xs.length = n) ∧ RoAt w5 ⟨some ⟨g, 0, none⟩, j, ys.take j⟩ ∧ W2.heap.size ≤ g ∧ g < w5.heap.size ∧ RdW w5 (some ⟨g, oX, none⟩) (ys.drop j)) :=
     ⟨H.out.1.trans (Mv.of _ hb2), H.out.2.1.below hb2, fun h => by rw [RK.out.2.2.2.2.1]; exact RK.out.2.2.2.2.2, .inr ⟨by simp; omega, q.1.1, g, rfl, (ho.base_le _ rfl).2, fun i u hi => by
      dsimp only at hi
      rw [List.map_take, List.getElem?_take] at hi
      split at hi
      ·exact ho.rd i u hi
      ·cases hi⟩, (ho.base_le _ rfl).1, (ho.base_le _ rfl).2, hX⟩
    have LT : Hid (∀ i ∈ twS b tb (some ⟨gR, 0, none⟩) rows, i < W2.heap.size) := fun i hi => Nat.lt_of_lt_of_le (H.out.2.1.lt i hi) hW0.size
    have GW : Hid (w.heap.size ≤ g) := Nat.le_trans (Nat.le_trans H.out.1.f.size hW0.size) (ho.base_le _ rfl).1
    replace ho := Lib.hid ho
    have TH2 := hT0.below hb
    have f1 := TH2.a.c7
    have l1 := TH2.a.lt
    have Q := Lib.hid q
    clear hX hb hb2 hHeld hne hf1 hf2 SP TH hT0 TH2 hW0 q
    have k9 : IntKind.i64.wrap ((k : Int) + 1) = ((k + 1 : Nat) : Int) := by simp only [IntKind.wrap_i64]; omega
    go_upto_if 52 with fail
    go_cut [] (fun wc => Hid (TwC S0 b tb wd wo tot lo hi us N w k n ⟨some ⟨g, 0, none⟩, j, ys.take j⟩ (some ⟨g, oX, none⟩) (ys.drop j) wc))
    case first =>
     by_cases hkm1 : k + 1 = m
     ·have e4 : (((k + 1 : Nat) : Int) == m) = true := by simp; omega
      obtain ⟨i, hif, hz, hsz, hby⟩ := Tryz.infoRs
      have hba := bn w5 (.cells #[.slice none 0 0] 171)
      have D1 := Lib.hid (HC.out.2.1.below hba)
      have A1 := Lib.hid ((At.new w5 #[.slice none 0 0] 171).cell (i := 0) rfl)
      have hRR : (w5.alloc (.cells #[.slice none 0 0] 171)).ownsRow 0 171 1 (.slice (some ⟨gR, 0, none⟩) m cR) m (rows.map Ro.v) := HM.out ▸ D1.out.rr
      have RR := Lib.hid hRR
      have NB : Hid (b ∉ blk (some (⟨gR, 0, none⟩ : Addr))) := fun e => by have := D1.out.oR b e; have := D1.out.ob; omega
      clear hba hRR
      go_wp2_with (first | (at_builtin; refine wpList_append_own_at _ rfl _ _ _ rfl 0 _ i _ 1 24 Tryz.underlyingRs hif hz hsz hby rfl (by decide) _ m (rows.map Ro.v) rfl RR.out ⟨w5.heap.size, 0, none⟩ 1 1 [.slice none 0 0] rfl rfl (fun q u hj => by match q, hj with | 0, hj => simp only [List.getElem?_cons_zero, Option.some.injEq] at hj; subst hj; exact A1.out) (fun u hu => by rw [List.mem_singleton] at hu; subst hu; rfl) (by simp only [maxLen]; omega) (by omega) (Nat.zero_le _) ?_; intro v' w6 ho6 hg6 _ hk6; have hF := frame_grown hg6; (obtain ⟨g6, c6, rfl⟩ : ∃ g6 c6, v' = .slice (some ⟨g6, 0, none⟩) (m + 1) c6 := by (rcases ho6.2 with ⟨_, e⟩ | ⟨g6, c6, _, e, _⟩; omega; exact ⟨g6, c6, e⟩)); have A6 := hF.at D1.out.at' NB.out; have f6 := A6.c7; have l6 := A6.lt; have ho6 := Lib.hid ho6; have hk6 : (some g6 : Option Nat) = some gR ∨ (some g6 : Option Nat) = some (w5.alloc (.cells #[.slice none 0 0] 171)).heap.size := hk6; have hk6 := Lib.hid hk6; have hF := Lib.hid hF; clear hg6) | fail)
      have R : Hid (TwC S0 b tb wd wo tot lo hi us N w k n ⟨some ⟨g, 0, none⟩, j, ys.take j⟩ (some ⟨g, oX, none⟩) (ys.drop j) (w6.setCell ⟨b, 3, none⟩ (.slice (some ⟨g6, 0, none⟩) (m + 1) c6))) := by
       have hba := bn w5 (.cells #[.slice none 0 0] 171)
       have hR : RsAt w6 (some ⟨g6, 0, none⟩) c6 (rows ++ [⟨none, 0, []⟩]) := by have := ho6.out; unfold RsAt; rw [List.length_append, List.map_append, HM.out]; exact this
       have hb6 : ∀ q ∈ blk (some (⟨g6, 0, none⟩ : Addr)), q ∈ blk (some (⟨gR, 0, none⟩ : Addr)) ∨ w5.heap.size ≤ q := fun q hq => by
        simp only [blk, List.mem_singleton] at hq ⊢
        rcases hk6.out with e | e <;> simp only [Option.some.injEq] at e
        ·exact .inl (hq.trans e)
        ·exact .inr (by rw [World.size_alloc] at e; omega)
       obtain ⟨D2, hs⟩ := D1.out.grow (n0 := w5.heap.size) (n1 := w5.heap.size) hF.out hR (RoAt.nil _) HC.out.2.1.lt (Nat.le_refl _) (fun q hq => by simp [blk] at hq) hb6
       rw [HM.out] at D2
       have mv : Mv (twS b tb (some ⟨gR, 0, none⟩) rows) (twS b tb (some ⟨g6, 0, none⟩) (rows ++ [⟨none, 0, []⟩])) w5 (w6.setCell ⟨b, 3, none⟩ (.slice (some ⟨g6, 0, none⟩) (m + 1) c6)) := ⟨hs, ((Frame.of_below hba).trans (hF.out.mono fun q hq => twS_mem.2 (.inr (.inr (.inl hq))))).setc (.inl (twS_mem.2 (.inl rfl))) 3 _⟩
       have fr : Frame (twS b tb (some ⟨gR, 0, none⟩) rows) w5 (w6.setCell ⟨b, 3, none⟩ (.slice (some ⟨g6, 0, none⟩) (m + 1) c6)) := mv.f
       have gn : ∀ q ∈ blk (some (⟨g, 0, none⟩ : Addr)), q ∉ twS b tb (some ⟨gR, 0, none⟩) rows := fun q hq hm => by simp only [blk, List.mem_singleton] at hq; have := LT.out q hm; have := HC.out.2.2.2.2.1; omega
       refine ⟨u1, _, c6, _, _, HC.out.1.trans mv, D2, by have q := H.out.2.2.1; have := RK.out.2.2.2.1 KN.out.2.2 (by have := P.out; omega); rw [wS_nil, List.length_append, HM.out]; simp; omega, fun r hr => ?_, fun h => ?_, HC.out.2.2.2.1.frame fr gn, fun q hq => ⟨fun hm => ?_, by simp only [blk, List.mem_singleton] at hq; exact hq ▸ GW.out⟩, fr.rd HC.out.2.2.2.2.2.2 fun a e hm => ?_, fun i h hi => by rw [List.getElem_append_left (by omega)]; exact SH.out i (by omega) hi⟩
       ·rcases List.mem_append.1 hr with hr | hr
        ·exact H.out.2.2.2 r hr
        ·rw [List.mem_singleton] at hr; subst hr; intro x hx; simp at hx
       ·rw [List.getElem_append_left hkr]; exact HC.out.2.2.1 hkr
       ·rcases hs q hm with a | a
        ·exact gn q hq a
        ·simp only [blk, List.mem_singleton] at hq; have := HC.out.2.2.2.2.2.1; omega
       ·cases e; exact gn g (by simp [blk]) hm
      clear HC D1 RR ho6 hk6 hF A6
      go_wp2
      go_meet
      case rel => exact R
     ·have e4 : (((k + 1 : Nat) : Int) == m) = false := by simp; omega
      have R : Hid (TwC S0 b tb wd wo tot lo hi us N w k n ⟨some ⟨g, 0, none⟩, j, ys.take j⟩ (some ⟨g, oX, none⟩) (ys.drop j) w5) := ⟨u1, _, cR, rows, own, HC.out.1, HC.out.2.1, by have := H.out.2.2.1; have := HM.out; omega, H.out.2.2.2, HC.out.2.2.1, HC.out.2.2.2.1, fun i hi => ⟨fun hm => by simp only [blk, List.mem_singleton] at hi; have := LT.out i hm; have := HC.out.2.2.2.2.1; omega, by simp only [blk, List.mem_singleton] at hi; exact hi ▸ GW.out⟩, HC.out.2.2.2.2.2.2, SH.out⟩
      clear HC
      go_wp2
      go_meet
      case rel => exact R
    case rest =>
     clear HC LT H ho f1 l1 hn
     obtain ⟨u2, R2, cR2, rows2, own2, mv, D, q2, ai, rn, rs, gn, rz, sh⟩ := hcut.out
     clear hcut SH
     obtain ⟨gQ, rfl⟩ := D.rr.addr (by omega)
     have hk2 : k < rows2.length := by omega
     have hk3 : k + 1 < rows2.length := by omega
     have lj : (ys.take j).length = j := by have := Q.out; simp; omega
     have f1 := D.at'.c7
     have l1 := D.at'.lt
     have lQ := D.rr.lt gQ (by simp [blk])
     have cQ := D.rr.cell hk2
     have zQ := D.rr.frozen k
     obtain ⟨D7, hs7⟩ := D.row hk2 (Frame.refl _ _) rs fun q hq => .inr (gn q hq).1
     have w7 := wS_set hk2 ⟨some ⟨g, 0, none⟩, j, ys.take j⟩
     rw [rn hk2] at w7
     obtain ⟨m2, hm2⟩ : ∃ m, rows2.length = m := ⟨_, rfl⟩
     rw [hm2] at f1 q2
     unfold Ro.v at D7
     dsimp only at D7 w7
     rw [lj] at D7 w7
     have mQ : gQ ∈ twS b tb (some ⟨gQ, 0, none⟩) rows2 := twS_mem.2 (.inr (.inr (.inl (by simp [blk]))))
     have fQ : Frame (twS b tb (some ⟨gQ, 0, none⟩) rows2) wc (wc.setCell ⟨gQ, k, none⟩ (.slice (some ⟨g, 0, none⟩) j j)) := (Frame.refl _ _).setc (.inl mQ) k _
     have HX : Mv S0 (twS b tb (some ⟨gQ, 0, none⟩) (rows2.set k ⟨some ⟨g, 0, none⟩, j, ys.take j⟩)) w (wc.setCell ⟨gQ, k, none⟩ (.slice (some ⟨g, 0, none⟩) j j)) := ⟨fun q hq => (hs7 q hq).elim (mv.g q) fun a => .inr (gn q a).2, (mv.trans ⟨GrownS.refl _ _, fQ⟩).f⟩
     have RZ : RdW (wc.setCell ⟨gQ, k, none⟩ (.slice (some ⟨g, 0, none⟩) j j)) (some ⟨g, oX, none⟩) (ys.drop j) := fQ.rd rz fun a e => by cases e; exact (gn g (by simp [blk])).1
     have n7 : ∀ h : k + 1 < (rows2.set k ⟨some ⟨g, 0, none⟩, j, ys.take j⟩).length, ∀ x ∈ ((rows2.set k ⟨some ⟨g, 0, none⟩, j, ys.take j⟩)[k + 1]).xs, -9223372036854775808 ≤ x ∧ x ≤ 9223372036854775807 := fun h => by rw [List.getElem_set_ne (by omega)]; exact ai _ (List.getElem_mem hk3)
     have a7 : AllI (rows2.set k ⟨some ⟨g, 0, none⟩, j, ys.take j⟩) := fun r hr => by
      rcases List.mem_or_eq_of_mem_set hr with hr | rfl
      ·exact ai r hr
      ·exact fun x hx => RK.out.2.1 x (Q.out.2.2.2.2 x (List.mem_of_mem_take hx))
     have SH : Hid (Sh wd (k + 1) (rows2.set k ⟨some ⟨g, 0, none⟩, j, ys.take j⟩)) := fun i h hi => by
      rcases Nat.lt_succ_iff_lt_or_eq.1 hi with hi | rfl
      ·rw [List.getElem_set_ne (by omega)]; exact sh i (by simpa using h) hi
      ·rw [List.getElem_set_self]; dsimp only; rw [lj]; have := Q.out; have := KN.out; have := P.out; have := KW.out; omega
     have l7 : (rows2.set k ⟨some ⟨g, 0, none⟩, j, ys.take j⟩).length = m2 := by rw [List.length_set, hm2]
     have H7 := Lib.hid (And.intro HX (And.intro D7 (And.intro RZ (And.intro n7 (And.intro a7 (And.intro l7 (And.intro q2 w7)))))))
     have km : (k : Int) < m2 := by omega
     have k0 : (0 : Int) ≤ k := by omega
     have km2 : k + 1 < m2 := by omega
     have m16 : m2 ≤ 16 := q2.2.2.2.2
     obtain ⟨A0, c0, n0, e0⟩ : ∃ A0 c0 n0, rows2[k].v = .slice A0 n0 c0 := ⟨_, _, _, rfl⟩
     rw [e0] at cQ
     clear mv D q2 ai rn rs gn rz sh w7 hs7 hm2 lj e0 HX D7 RZ n7 a7 l7 mQ fQ
     generalize rows2.set k ⟨some ⟨g, 0, none⟩, j, ys.take j⟩ = rows3 at *
     go_upto_region 8 with fail
     clear f1 l1 lQ cQ zQ
     generalize wc.setCell _ _ = W7 at *
     have D7 := H7.out.2.1
     have hk4 : k + 1 < rows3.length := by have := H7.out.2.2.2.2.2.1; omega
     have c1 := D7.rr.cell hk4
     have r1 := D7.ro _ hk4
     have w1 := wS_set hk4
     have g1 := wS_ge hk4
     have i1 := H7.out.2.2.2.1 hk4
     obtain ⟨⟨A1, c1', x1⟩, hr1⟩ : ∃ r, rows3[k + 1] = r := ⟨_, rfl⟩
     rw [hr1] at c1 r1 g1 i1
     simp only [hr1] at w1
     unfold Ro.v at c1
     dsimp only at c1 g1 i1 w1
     obtain ⟨n1, hn1⟩ : ∃ n, x1.length = n := ⟨_, rfl⟩
     rw [hn1] at c1 g1 w1
     obtain ⟨h2, hh⟩ : ∃ h, n = j + 2 * h := ⟨(n - j) / 2, by have := Q.out; omega⟩
     have e2 : (n - j) / 2 = h2 := by omega
     have n18 : n1 ≤ 8000 := by
      have a := H7.out.2.2.2.2.2.2
      have b := Nat.mul_le_mul_left (2 ^ k) Q.out.2.1
      have c := Nat.le_mul_of_pos_left n1 (Nat.two_pow_pos (k + 1))
      have := P.out
      omega
     have WT : Hid (∀ r : Ro, r.xs.length = n1 + h2 → wS (rows3.set (k + 1) r) = N) := fun r hr => by
      have a := H7.out.2.2.2.2.2.2
      have c := w1 r
      rw [hr, Nat.pow_succ] at c
      rw [hh] at a
      simp only [Nat.mul_add, Nat.mul_assoc, Nat.mul_comm, Nat.mul_left_comm] at a c
      have e : 2 ^ k * (2 * h2) = 2 * (2 ^ k * h2) := by rw [Nat.mul_left_comm]
      simp only [Nat.mul_assoc, Nat.mul_comm, Nat.mul_left_comm] at a c e ⊢
      grind
     have hT0 : TwH b gQ (k + 1) #[.int .i64 wd, .int .u64 wo, .pointer (some ⟨tb, 0, none⟩), .slice (some ⟨gQ, 0, none⟩) m2 cR2, .int .u64 tot, .int .i64 lo, .int .i64 hi] (.slice A1 n1 c1') W7 := ⟨H7.out.2.2.2.2.2.1 ▸ D7.at', c1, D7.rr.lt gQ (by simp [blk])⟩
     replace hT0 : TwH b gQ (k + 1) #[.int .i64 wd, .int .u64 wo, .pointer (some ⟨tb, 0, none⟩), .slice (some ⟨gQ, 0, none⟩) m2 cR2, .int .u64 tot, .int .i64 lo, .int .i64 hi] (.slice A1 n1 c1') W7.drew := hT0.below (Below.refl _ _).drew
     replace D7 := D7.below (Below.refl _ _).drew
     have hb7 : Below W7.heap.size W7 W7.drew := (Below.refl _ _).drew
     have R1 := Lib.hid (And.intro (r1.frame (Frame.of_below (S := []) hb7) (fun _ _ => by simp)) (And.intro i1 (And.intro hr1 hn1)))
     refine wp_region_noPanic ?_
     refine wp_region_until (S := HeldS (TwH b gQ (k + 1) #[.int .i64 wd, .int .u64 wo, .pointer (some ⟨tb, 0, none⟩), .slice (some ⟨gQ, 0, none⟩) m2 cR2, .int .u64 tot, .int .i64 lo, .int .i64 hi] (.slice A1 n1 c1'))) 23 (by kernel_rfl) ?_
     have hHeld := HeldS.mk' hT0
     generalize W7.drew = W8 at *
     have hne : Nonempty (Held (TwH b gQ (k + 1) #[.int .i64 wd, .int .u64 wo, .pointer (some ⟨tb, 0, none⟩), .slice (some ⟨gQ, 0, none⟩) m2 cR2, .int .u64 tot, .int .i64 lo, .int .i64 hi] (.slice A1 n1 c1'))) := ⟨⟨W8, hT0⟩⟩
     have hf1 := fun x : Held (TwH b gQ (k + 1) #[.int .i64 wd, .int .u64 wo, .pointer (some ⟨tb, 0, none⟩), .slice (some ⟨gQ, 0, none⟩) m2 cR2, .int .u64 tot, .int .i64 lo, .int .i64 hi] (.slice A1 n1 c1')) => x.held.a.c7
     have hf2 := fun x : Held (TwH b gQ (k + 1) #[.int .i64 wd, .int .u64 wo, .pointer (some ⟨tb, 0, none⟩), .slice (some ⟨gQ, 0, none⟩) m2 cR2, .int .u64 tot, .int .i64 lo, .int .i64 hi] (.slice A1 n1 c1')) => x.held.c
     have km3 : ((k + 1 : Nat) : Int) < m2 := by omega
     have k1 : (0 : Int) ≤ ((k + 1 : Nat) : Int) := by omega
     clear c1 r1 i1 hr1 hn1 g1 w1 hh
     have TB : Hid (tb ∉ blk (some (⟨g, oX, none⟩ : Addr)) ∧ ∀ a : Addr, some (⟨g, oX, none⟩ : Addr) = some a → a.block ∉ [tb]) := by
      have e : g ≠ tb := fun e => by have := D7.ot; rw [← e, if_pos (by simp [blk])] at this; omega
      exact ⟨fun h => by simp [blk] at h; exact e h.symm, fun a h => by cases h; simp; exact e⟩
     have RZ := Lib.hid (RdW.below H7.out.2.2.1 hb7)
     have NT : Hid (b ≠ tb ∧ gQ ≠ tb) := ⟨fun e => by have := D7.ob; have := D7.ot; rw [e] at *; omega, fun e => by have := D7.oR gQ (by simp [blk]); have := D7.ot; rw [e] at *; omega⟩
     have mv7 := Lib.hid (H7.out.1.trans (Mv.of _ hb7))
     replace D7 := Lib.hid D7
     have ub : Hid (0 ≤ u2 ∧ u2 < 9223372036854775807) := by have := P.out; have := H7.out.2.2.2.2.2.2; exact ⟨by omega, by omega⟩
     clear hb7
     have EV : Hid ((n - j) % 2 = 0 ∧ (ys.drop j).length = n - j) := ⟨Q.out.2.2.1, by have := Q.out; simp; omega⟩
     have hneF : Nonempty (Held fun _ => True) := ⟨⟨W8, trivial⟩⟩
     refine runW [19] 5 hHeld ?_
     simp only [runL, runN, runOps_true, runOps_false, runOps_nil]
     repeat go_big_quiet_step (fail)
     refine wpQuiet_nil ?_
     clear hf1 hf2 hne hHeld
     refine readyU 19 fun K hK => ?_
     go_simp
     go_wp2_with (go_at_call 328; refine (cnext_any D7.out.tp ub.out.1 ub.out.2).mono ?_; rintro e w8 ⟨⟨cc, rfl⟩, tp8, hF8⟩)
     replace hT0 := hT0.frame hF8 (by simp [NT.out.1]) (by simp [NT.out.2])
     refine hK.out _ _ (fun _ => HeldS.mk' hT0) ?_
     clear hK K
     have D8 := Lib.hid (D7.out.tape hF8 tp8)
     have mv8 := Lib.hid (mv7.out.trans (S2 := twS b tb (some ⟨gQ, 0, none⟩) rows3) ⟨GrownS.refl _ _, hF8.mono fun q hq => by simp at hq; exact twS_mem.2 (.inr (.inl hq))⟩)
     have R8 := Lib.hid (R1.out.1.frame hF8 fun q hq => by have := D7.out.oi (k + 1) hk4 q (by rw [R1.out.2.2.1]; exact hq); simp; rintro rfl; have := D7.out.ot; omega)
     have RZ8 := Lib.hid (hF8.rd RZ.out TB.out.2)
     clear tp8 hF8 D7
     refine readyU 20 fun K hK => ?_
     go_simp
     go_wp2_with (go_at_call 327; refine (halve_any (some ⟨g, oX, none⟩) C (n - j) (ys.drop j) cc w8 RZ8.out EV.out.2 (by omega) EV.out.1).mono ?_; rintro e w9 ⟨A', c'', zs, rfl, hz, hzs, ho, hb9⟩)
     replace hT0 := hT0.below hb9
     refine hK.out _ _ (fun _ => HeldS.mk' hT0) ?_
     clear hK K
     rw [e2] at hz
     have D9 := Lib.hid (D8.out.below hb9)
     have mv9 := Lib.hid (mv8.out.trans (Mv.of _ hb9))
     have R9 := R8.out.frame (Frame.of_below (S := []) hb9) fun _ _ => by simp
     have zr := ho.rd
     have zn : A' = none → h2 = 0 := fun e => by
      subst e
      rcases ho.2 with ⟨_, h⟩ | ⟨_, _, _, e, _⟩
      ·omega
      ·cases e
     have o4 : ∀ q ∈ blk A1, (if q ∈ blk (some (⟨g, 0, none⟩ : Addr)) then k + 3 else own2 q) = k + 1 + 3 := fun q hq => D9.out.oi (k + 1) hk4 q (by rw [R1.out.2.2.1]; exact hq)
     have NA : Hid (b ∉ blk A1 ∧ gQ ∉ blk A1) := ⟨fun h => by have := o4 b h; have := D9.out.ob; omega, fun h => by have := o4 gQ h; have := D9.out.oR gQ (by simp [blk]); omega⟩
     clear ho D8 mv8 R8 RZ8 hb9 RZ o4
     refine readyU 21 fun K hK => ?_
     refine ite_of rfl ?_
     refine opwp_append_ro _ _ rfl rfl A1 n1 c1' x1 rfl R1.out.2.2.2 R9 A' h2 c'' zs rfl hz zr zn (by omega) 90 rfl ?_
     intro A2 c2 wA hA hF hB
     simp only [List.setIfInBounds_toArray, List.set_cons_zero, List.set_cons_succ]
     replace hT0 := hT0.frame hF NA.out.1 NA.out.2
     refine hK.out _ _ (fun _ => HeldS.mk' hT0) ?_
     clear hK K
     have hHeld := HeldS.mk' hT0
     have lz : (x1 ++ zs).length = n1 + h2 := by rw [List.length_append, hz, R1.out.2.2.2]
     obtain ⟨D10, hs10⟩ := D9.out.row hk4 (by rw [R1.out.2.2.1]; exact hF) hA fun q hq => (hB q hq).imp (fun a => by rw [R1.out.2.2.1]; exact a) fun a hm => by have := D9.out.lt q hm; omega
     unfold Ro.v at D10
     dsimp only at D10
     rw [lz] at D10
     have mA : ∀ q ∈ blk A1, q ∈ twS b tb (some ⟨gQ, 0, none⟩) rows3 := fun q hq => twS_mem.2 (.inr (.inr (.inr ⟨_, List.getElem_mem hk4, by rw [R1.out.2.2.1]; exact hq⟩)))
     have J : Hid (TwJ S0 b tb wd wo tot lo hi us N w (wA.setCell ⟨gQ, k + 1, none⟩ (.slice A2 (n1 + h2) c2)) (k + 1)) :=
      ⟨u2 + 1, _, cR2, _, _, mv9.out.trans ⟨fun q hq => (hs10 q hq).elim .inl fun a => (hB q a).imp (mA q) id, (hF.mono mA).setc (.inl (twS_mem.2 (.inr (.inr (.inl (by simp [blk])))))) (k + 1) _⟩, D10, by
       have q2 := H7.out.2.2.2.2.2.2
       have := WT.out ⟨A2, c2, x1 ++ zs⟩ lz
       rw [List.length_set]
       have := H7.out.2.2.2.2.2.1
       omega, fun r hr => by
       rcases List.mem_or_eq_of_mem_set hr with hr | rfl
       ·exact H7.out.2.2.2.2.1 r hr
       ·intro x hx
        rcases List.mem_append.1 hx with hx | hx
        ·exact R1.out.2.1 x hx
        ·exact RK.out.2.1 x (Q.out.2.2.2.2 x (List.mem_of_mem_drop (hzs x hx))), fun i h hi => by
       rw [List.getElem_set_ne (by omega)]; exact SH.out i (by simpa using h) hi⟩
     have f3 := (D9.out.rr.frame hF fun q hq e => by simp only [blk, List.mem_singleton] at hq; subst hq; exact NA.out.2 e).frozen (k + 1)
     have f4 := hT0.c
     clear D10 hs10 mA D9 mv9 R9 zr zn hA hF hB hz hzs lz WT H7 R1 mv7 hk4
     refine runV [0, 22, 1] 1 hHeld ?_
     simp only [runL, runN, runOps_true, runOps_false, runOps_nil]
     repeat go_big_quiet_step (fail)
     refine wpQuiet_nil ?_
     refine readyU 23 fun K hK => ?_
     go_simp
     go_wp2
     refine hK.out _ _ (fun h => late_no h (by kernel_rfl)) ?_
     refine wpAnyU_done (by kernel_rfl) ?_ _
     refine NoPanic.normal ?_
     clear f3 f4 hT0 hHeld
     go_wp2
     go_roundw
     case rel => exact ⟨k + 1, by simp, by omega, J⟩
     case measure => simp [intOf]; omega
  ·have F : Hid (TwJ S0 b tb wd wo tot lo hi us N w wr 20) := ⟨u1, R, cR, rows, own, mv, h, by omega, ai, fun i h _ => sh i h (by omega)⟩
   clear mv h q ai sh J
   go_wp2
   exact bodyPost_end (results_none rfl _ _ _) rfl ⟨rfl, F.out⟩
end
end Go.Proofs.YtlbnlmhcpephbaaGreatDoor

namespace Go.Proofs.YtlbnlmhcpephbaaGreatDoor
open Go.RowKit Go.Shelf
structure TwE (w : World) (b tb : Nat) (wd wo us : Int) (N : Nat) (lo hi : Int) (R : Option Addr) (cR : Nat) (rows : List Ro) (own : Nat → Nat) : Prop where
 tw : TwB w b tb wd wo us N lo hi R cR rows own
 q : (4 ≤ wd ∧ wd ≤ 64 ∧ wd % 4 = 0) ∧ (0 ≤ us ∧ us ≤ 63 + 20 * (N : Int)) ∧ wS rows = N ∧ 1 ≤ rows.length ∧ rows.length ≤ 16 ∧ (N : Int) ≤ wd * 1024
 ai : AllI rows
 sh : ∀ r ∈ rows, (r.xs.length : Int) < wd
def Twr (w : World) (b : Nat) (S : List Nat) (wd wo : Int) (N : Nat) (lo hi : Int) : Prop := ∃ tb us R cR rows own, TwE w b tb wd wo us N lo hi R cR rows own ∧ S = twS b tb R rows
section
variable {w w' : World} {b tb cR N : Nat} {wd wo us lo hi : Int} {R : Option Addr} {rows : List Ro} {own : Nat → Nat} {S T : List Nat}
theorem Twr.lt (h : Twr w b S wd wo N lo hi) : ∀ k ∈ S, k < w.heap.size := by obtain ⟨tb, us, R, cR, rows, own, h, rfl⟩ := h; exact h.tw.lt
theorem Twr.frame (h : Twr w b S wd wo N lo hi) (hf : Frame T w w') (hn : Apart S T) : Twr w' b S wd wo N lo hi := by obtain ⟨tb, us, R, cR, rows, own, h, rfl⟩ := h; exact ⟨tb, us, R, cR, rows, own, { h with tw := h.tw.frame hf hn }, rfl⟩
theorem Twr.below (h : Twr w b S wd wo N lo hi) (hb : Below w.heap.size w w') : Twr w' b S wd wo N lo hi := h.frame (T := []) (Frame.of_below hb) fun _ _ => by simp
theorem twtotal_any (h : TwE w b tb wd wo us N lo hi R cR rows own) : Calls Tryz.prog 321 #[.pointer (some ⟨b, 0, none⟩)] w fun e w' => e = .returned (.int .u64 N) ∧ w = w' := by
 have f := h.tw.at'.c7
 clear h
 go_enter Tryz.func321, Tryz.ntmps321
 go_wp2
 go_ret
 exact ⟨rfl, rfl⟩
theorem twmost_any {tot : Int} (h : TwB w b tb wd wo us tot lo hi R cR rows own) (hw : 4 ≤ wd ∧ wd ≤ 64) : Calls Tryz.prog 118 #[.pointer (some ⟨b, 0, none⟩)] w fun e w' => e = .returned (.int .u64 (wd * 1024)) ∧ w = w' := by
 have f := h.at'.c7
 have e : IntKind.u64.wrap (IntKind.u64.wrap wd * 2 ^ 10) = wd * 1024 := by simp only [IntKind.wrap_u64]; omega
 clear h
 go_enter Tryz.func118, Tryz.ntmps118
 go_wp2
 go_ret
 exact ⟨by rw [← e]; rfl, rfl⟩
theorem twused_any (h : TwE w b tb wd wo us N lo hi R cR rows own) : Calls Tryz.prog 354 #[.pointer (some ⟨b, 0, none⟩)] w fun e w' => e = .returned (.int .i64 us) ∧ w = w' := by
 have f := h.tw.at'.c7
 have H := Lib.hid (cused_any h.tw.tp)
 clear h
 go_enter Tryz.func354, Tryz.ntmps354
 go_wp2_with fail
 refine H.out.mono ?_
 rintro e w1 ⟨rfl, rfl⟩
 go_wp2
 go_ret
 exact ⟨rfl, rfl⟩
theorem twconfig_any (h : TwE w b tb wd wo us N lo hi R cR rows own) : Calls Tryz.prog 353 #[.pointer (some ⟨b, 0, none⟩)] w fun e w' => e = .returned (.agg #[.int .i64 wd, .int .u64 wo]) ∧ Below w.heap.size w w' := by
 have s1 := h.tw.at'
 have g := s1.c7
 have l := s1.lt
 clear h
 go_enter Tryz.func353, Tryz.ntmps353
 go_wp2
 have x := (At.new w #[.int .i64 wd, .int .u64 wo] 129).two
 exact bodyPost_ret (v := .agg #[.int .i64 wd, .int .u64 wo]) (by simp only [results, Tryz.f353]; simp [go_sem, x]) rfl ⟨rfl, bn _ _⟩
theorem twends_any (h : TwE w b tb wd wo us N lo hi R cR rows own) : Calls Tryz.prog 318 #[.pointer (some ⟨b, 0, none⟩)] w fun e w' => e = .returned (if N = 0 then .tuple #[.int .i64 0, .int .i64 0, .bool false] else .tuple #[.int .i64 lo, .int .i64 hi, .bool true]) ∧ Below w.heap.size w w' := by
 have s1 := h.tw.at'
 have g := s1.c7
 clear h
 rcases Decidable.em (N = 0) with rfl | n <;> first | rw [if_pos rfl] | rw [if_neg n]
 all_goals
  go_enter Tryz.func318, Tryz.ntmps318
  go_wp2
  try go_quiet (fail)
  go_wp2
  go_ret3
  first | exact ⟨rfl, (Below.refl _ _).drewN _⟩ | exact ⟨rfl, Below.refl _ _⟩
end
theorem mk_rows (w : World) : (Instr.makeSlice 176 (.int .i64 1) (.int .i64 1)).run Tryz.prog w = .ok (.slice (some ⟨w.heap.size, 0, none⟩) 1 1) (w.alloc (.cells #[.slice none 0 0] 171)) := by kernel_rfl
theorem RsAt.mk {g : Nat} (w : World) (e : g = w.heap.size) : RsAt (w.alloc (.cells #[.slice none 0 0] 171)) (some ⟨g, 0, none⟩) 1 [⟨none, 0, []⟩] := e ▸ World.ownsRow_lit w #[.slice none 0 0] 1 (Nat.zero_le _) (by decide) rfl
def TnR (wd wo : Int) (w : World) (e : Ending) (w' : World) : Prop := ((∃ b tb R cR own, e = .returned (.tuple #[.pointer (some ⟨b, 0, none⟩), .int .i64 0]) ∧ TwE w' b tb wd wo 0 0 0 0 R cR [⟨none, 0, []⟩] own ∧ Within (twS b tb R [⟨none, 0, []⟩]) w.heap.size w'.heap.size) ∨ e = .returned (.tuple #[.pointer none, .int .i64 1])) ∧ Below w.heap.size w w'
set_option maxRecDepth 100000 in
theorem twnew_any (wd wo : Int) (w : World) : Calls Tryz.prog 46 #[.agg #[.int .i64 wd, .int .u64 wo]] w (TnR wd wo w) := by
 have s := At.new w #[.int .i64 wd, .int .u64 wo] 129
 have g := s.two
 have hb := bn w (.cells #[.int .i64 wd, .int .u64 wo] 129)
 by_cases h0 : wd < 4
 ·go_enter Tryz.func46, Tryz.ntmps46
  go_wp2
  go_ret2
  exact ⟨.inr rfl, bn _ _⟩
 by_cases h1 : 64 < wd
 ·go_enter Tryz.func46, Tryz.ntmps46
  go_wp2
  go_ret2
  exact ⟨.inr rfl, bn _ _⟩
 have e : IntKind.i64.wrap (wd.tmod 4) = wd % 4 := by rw [Int.tmod_eq_emod_of_nonneg (by omega), IntKind.wrap_i64]; omega
 by_cases h2 : wd % 4 = 0
 ·have HW : Hid (4 ≤ wd ∧ wd ≤ 64 ∧ wd % 4 = 0) := ⟨by omega, by omega, h2⟩
  have F : Hid (∀ W tb gR n, n = W.heap.size → At W w.heap.size #[.int .i64 wd, .int .u64 wo] 129 → Below w.heap.size w W → TpW W tb wo 0 → RsAt W (some ⟨gR, 0, none⟩) 1 [⟨none, 0, []⟩] → tb ≠ gR → w.heap.size ≤ tb → w.heap.size ≤ gR → TnR wd wo w (.returned (.tuple #[.pointer (some ⟨n, 0, none⟩), .int .i64 0])) (W.alloc (.cells #[.int .i64 wd, .int .u64 wo, .pointer (some ⟨tb, 0, none⟩), .slice (some ⟨gR, 0, none⟩) 1 1, .int .u64 0, .int .i64 0, .int .i64 0] 178))) := fun W tb gR n en _ hB ht hr ne t0 g0 => by
   subst en
   have l1 := At.lt ht
   have l2 := hr.lt gR (by simp [blk])
   have z := hB.size
   refine ⟨.inl ⟨_, tb, some ⟨gR, 0, none⟩, 1, fun k => if k = W.heap.size then 0 else if k = tb then 1 else 2, rfl, ⟨⟨At.new W _ _, ht.below (bn _ _), hr.frame (T := []) (Frame.of_below (bn _ _)) (by simp), fun i hi => ?_, if_pos rfl, ?_, fun k hk => ?_, fun i hi k hk => ?_⟩, ⟨HW.out, by omega, rfl, by simp, by simp, by have := HW.out; omega⟩, fun r hr x hx => ?_, fun r hr => by rw [List.mem_singleton] at hr; subst hr; have := HW.out; simp; omega⟩, fun k hk => ?_⟩, keep1 hB (bn _ _)⟩
   ·match i, hi with | 0, _ => exact RoAt.nil _
   ·rw [if_neg (by omega), if_pos rfl]
   ·simp only [blk, List.mem_singleton] at hk; subst hk; rw [if_neg (by omega), if_neg (by omega)]
   ·match i, hi with | 0, _ => simp [blk] at hk
   ·rw [List.mem_singleton] at hr; subst hr; simp at hx
   ·rw [World.size_alloc]; rcases twS_mem.1 hk with rfl | rfl | hk | ⟨r, hr, hk⟩ <;> first | omega | skip
    ·simp only [blk, List.mem_singleton] at hk; omega
    ·rw [List.mem_singleton] at hr; subst hr; simp [blk] at hk
  have HB : Hid (∀ W, Below (w.alloc (.cells #[.int .i64 wd, .int .u64 wo] 129)).heap.size (w.alloc (.cells #[.int .i64 wd, .int .u64 wo] 129)) W → Below w.heap.size w W) := fun W => keep1 hb
  clear hb
  go_enter Tryz.func46, Tryz.ntmps46
  go_upto_region 3 with fail
  clear e h0 h1 h2 g HW
  generalize w.alloc _ = W0 at *
  generalize w.heap.size = cb at *
  have hb := (HB.out _ (Below.refl W0.heap.size W0).drew)
  have s : At W0.drew cb #[.int .i64 wd, .int .u64 wo] 129 := s
  refine wp_region_noPanic ?_
  refine wp_region_held_drew (S := HeldS fun W => At W cb #[.int .i64 wd, .int .u64 wo] 129) (by kernel_rfl) (HeldS.mk' s) (fun hHeld => ?_)
  generalize W0.drew = W at *
  have hne : Nonempty (Held fun W => At W cb #[.int .i64 wd, .int .u64 wo] 129) := ⟨⟨W, s⟩⟩
  have hf1 := fun x : Held (fun W => At W cb #[.int .i64 wd, .int .u64 wo] 129) => x.held.two
  have cl : cb ≤ W.heap.size := Nat.le_of_lt s.lt
  refine runH [3] 6 hHeld ?_
  simp only [runL, runN, runOps_true, runOps_false, runOps_nil]
  repeat go_big_quiet_step (fail)
  refine wpQuiet_nil ?_
  refine wpAnyH_ready (rs := [3, 4]) (by kernel_rfl) (by simp) ?_
  refine AllReadyH.cons rfl (fun K hK => ?_) (AllReadyH.cons rfl (fun K hK => ?_) (AllReadyH.nil))
  ·go_simp
   go_wp2_with (go_at_call 62; refine (cnew_any wo _).mono ?_; rintro e w5 ⟨rfl, rfl⟩)
   refine hK.out _ _ (HeldS.mk' (s.below (bn _ _))) (fun hHeld => ?_)
   clear hK K
   refine readyH 4 fun K hK => ?_
   go_simp
   rw [mk_rows]
   go_simp
   refine hK.out _ _ (HeldS.mk' ((s.below (bn _ _)).below (bn _ _))) (fun hHeld => ?_)
   clear hK K
   refine runH [0, 5, 1] 3 hHeld ?_
   simp only [runL, runN, runOps_true, runOps_false, runOps_nil]
   repeat go_big_quiet_step (fail)
   refine wpQuiet_nil ?_
   refine readyH 6 fun K hK => ?_
   go_simp
   refine hK.out _ _ (HeldS.mk' (((s.below (bn _ _)).below (bn _ _)).below (bn _ _))) (fun hHeld => ?_)
   clear hK K
   refine runH [0, 7, 2] 0 hHeld ?_
   simp only [runL, runN, runOps_true, runOps_false, runOps_nil]
   repeat go_big_quiet_step (fail)
   refine wpQuiet_nil ?_
   refine wpAnyH_done (by kernel_rfl) ?_ _
   refine NoPanic.normal ?_
   go_wp2
   go_ret2
   exact F.out _ W.heap.size _ _ (by simp) ((s.below (bn _ _)).below (bn _ _)) ((hb.alloc cl _).alloc (by simp; omega) _) (At.below (At.new _ _ _) (bn _ _)) (RsAt.mk _ (by simp)) (by simp) cl (by omega)
  ·go_simp
   rw [mk_rows]
   go_simp
   refine hK.out _ _ (HeldS.mk' (s.below (bn _ _))) (fun hHeld => ?_)
   clear hK K
   refine readyH 3 fun K hK => ?_
   go_simp
   go_wp2_with (go_at_call 62; refine (cnew_any wo _).mono ?_; rintro e w5 ⟨rfl, rfl⟩)
   refine hK.out _ _ (HeldS.mk' ((s.below (bn _ _)).below (bn _ _))) (fun hHeld => ?_)
   clear hK K
   refine runH [0, 5, 1] 3 hHeld ?_
   simp only [runL, runN, runOps_true, runOps_false, runOps_nil]
   repeat go_big_quiet_step (fail)
   refine wpQuiet_nil ?_
   refine readyH 6 fun K hK => ?_
   go_simp
   refine hK.out _ _ (HeldS.mk' (((s.below (bn _ _)).below (bn _ _)).below (bn _ _))) (fun hHeld => ?_)
   clear hK K
   refine runH [0, 7, 2] 0 hHeld ?_
   simp only [runL, runN, runOps_true, runOps_false, runOps_nil]
   repeat go_big_quiet_step (fail)
   refine wpQuiet_nil ?_
   refine wpAnyH_done (by kernel_rfl) ?_ _
   refine NoPanic.normal ?_
   go_wp2
   go_ret2
   exact F.out _ (W.heap.size + 1) W.heap.size _ (by simp) ((s.below (bn _ _)).below (bn _ _)) ((hb.alloc cl _).alloc (by simp; omega) _) (At.new' _ _ _ (by simp)) (RsAt.frame (T := []) (RsAt.mk _ rfl) (Frame.of_below (bn _ _)) (by simp)) (by simp) (by omega) cl
 ·go_enter Tryz.func46, Tryz.ntmps46
  go_wp2
  go_ret2
  exact ⟨.inr rfl, bn _ _⟩
end Go.Proofs.YtlbnlmhcpephbaaGreatDoor

namespace Go.Proofs.YtlbnlmhcpephbaaGreatDoor
open Go.RowKit
section
variable {w w' : World} {b tb cR : Nat} {wd wo us tot tot' lo hi x y : Int} {R : Option Addr} {rows : List Ro} {own : Nat → Nat}
theorem TwB.set {k : Nat} {v : Value} (h : TwB w b tb wd wo us tot lo hi R cR rows own) (hs : At (w.setCell ⟨b, k, none⟩ v) b #[.int .i64 wd, .int .u64 wo, .pointer (some ⟨tb, 0, none⟩), .slice R rows.length cR, .int .u64 tot', .int .i64 x, .int .i64 y] 178) : TwB (w.setCell ⟨b, k, none⟩ v) b tb wd wo us tot' x y R cR rows own := by
 have fs : Frame [b] w (w.setCell ⟨b, k, none⟩ v) := Frame.set _ _ _ _ _ (by simp)
 have o := h.ob
 have ne : ∀ q, own q ≠ 0 → q ∉ [b] := fun q e hq => by simp at hq; subst hq; exact e o
 exact { h with
  at' := hs
  tp := fs.at h.tp (ne tb (by have := h.ot; omega))
  rr := h.rr.frame fs fun q hq => ne q (by have := h.oR q hq; omega)
  ro := fun i hi => (h.ro i hi).frame fs fun q hq => ne q (by have := h.oi i hi q hq; omega) }
set_option maxRecDepth 100000 in
set_option maxHeartbeats 2000000 in
theorem twends'_any (h : TwB w b tb wd wo us tot lo hi R cR rows own) : Calls Tryz.prog 323 #[.pointer (some ⟨b, 0, none⟩), .int .i64 x, .int .i64 y] w fun e w' => e = .returned (.tuple #[]) ∧ (if tot = 0 then TwB w' b tb wd wo us tot x y R cR rows own else TwB w' b tb wd wo us tot (min lo x) (max hi y) R cR rows own) ∧ Frame [b] w w' := by
 have H := Lib.hid h
 clear h
 rcases Decidable.em (tot = 0) with rfl | n
 ·simp only [if_true]
  have s1 := H.out.at'
  have f1 := s1.c7
  have l1 := s1.lt
  have H2 := H.out.set (x := x) (y := hi) (s1.set_any 5 (.int .i64 x) rfl)
  have H3 := Lib.hid (H2.set (x := x) (y := y) (H2.at'.set_any 6 (.int .i64 y) rfl))
  have HF := Lib.hid (((Frame.refl [b] w).setc (b := b) (.inl (by simp)) 5 (.int .i64 x)).setc (b := b) (.inl (by simp)) 6 (.int .i64 y))
  clear H2
  go_enter Tryz.func323, Tryz.ntmps323
  go_wp2
  exact bodyPost_ret (results_none rfl _ _ _) rfl ⟨rfl, H3.out, HF.out⟩
 ·simp only [if_neg n]
  obtain ⟨m, hm, hn⟩ : ∃ m, min lo x = m ∧ (x < lo ∧ m = x ∨ ¬ x < lo ∧ m = lo) := ⟨_, rfl, by omega⟩
  obtain ⟨M, hM, hN⟩ : ∃ m, max hi y = m ∧ (hi < y ∧ m = y ∨ ¬ hi < y ∧ m = hi) := ⟨_, rfl, by omega⟩
  rw [hm, hM]
  have f1 := H.out.at'.c7
  go_enter Tryz.func323, Tryz.ntmps323
  go_wp2_with fail
  go_upto_region 2 with fail
  clear f1
  obtain ⟨W, hW⟩ : ∃ W, w.drew = W := ⟨_, rfl⟩
  have H1 := H.out.below (Below.refl _ _).drew
  have hF := (Frame.refl [b] w).drew
  rw [hW] at H1 hF
  refine wp_region_noPanic ?_
  refine wp_region_until (S := HeldS (CellW b 6 (.int .i64 hi))) 19 (by kernel_rfl) ?_
  rw [hW]
  have s1 := H1.at'
  have H2 := H1.set (x := m) (y := hi) (s1.set_any 5 (.int .i64 (m)) rfl)
  have H3 := Lib.hid (H2.set (x := m) (y := M) (H2.at'.set_any 6 (.int .i64 (M)) rfl))
  have HF := Lib.hid ((hF.setc (b := b) (.inl (by simp)) 5 (.int .i64 (m))).setc (b := b) (.inl (by simp)) 6 (.int .i64 (M)))
  have hm1 : CellW b 6 (.int .i64 hi) W := s1.cell rfl
  have hm2 : CellW b 6 (.int .i64 hi) (W.setCell ⟨b, 5, none⟩ (.int .i64 (m))) := H2.at'.cell rfl
  have hHeld : HeldS (CellW b 6 (.int .i64 hi)) W := HeldS.mk' hm1
  have hne : Nonempty (Held (CellW b 6 (.int .i64 hi))) := ⟨⟨W, hm1⟩⟩
  have hfar := fun x : Held (CellW b 6 (.int .i64 hi)) => x.held.c
  have hneF : Nonempty (Held fun _ => True) := ⟨⟨W, trivial⟩⟩
  have f1 := s1.c7
  have l1 := s1.lt
  have f2 := H2.at'.c7
  have l2 := H2.at'.lt
  clear H1 hF H2 s1 hW H
  rcases hn with ⟨h1, rfl⟩ | ⟨h1, rfl⟩ <;> rcases hN with ⟨h2, rfl⟩ | ⟨h2, rfl⟩
  all_goals
   refine runV [5, 1, 1, 1, 3, 1, 1] 10 hHeld ?_
   simp only [runL, runN, runOps_true, runOps_false, runOps_nil]
   repeat go_big_quiet_step (fail)
   refine wpQuiet_nil ?_
   refine runW [0, 11, 1, 1, 1] 8 hHeld ?_
   simp only [runL, runN, runOps_true, runOps_false, runOps_nil]
   repeat go_big_quiet_step (fail)
   refine wpQuiet_nil ?_
   clear hfar hne hHeld
   refine readyU 5 fun K hK => ?_
   go_simp
   go_wp2
   refine hK.out _ _ (fun _ => HeldS.mk' hm1) ?_
   clear hK K
   have hHeld := HeldS.mk' hm1
   refine runV [0, 7, 1, 6, 2] 4 hHeld ?_
   simp only [runL, runN, runOps_true, runOps_false, runOps_nil]
   repeat go_big_quiet_step (fail)
   refine wpQuiet_nil ?_
   refine readyU 16 fun K hK => ?_
   go_simp
   go_wp2
   refine hK.out _ _ (fun _ => HeldS.mk' hm2) ?_
   clear hK K
   replace hHeld := HeldS.mk' hm2
   clear f1 l1
   refine runV [0, 17, 2] 1 hHeld ?_
   simp only [runL, runN, runOps_true, runOps_false, runOps_nil]
   repeat go_big_quiet_step (fail)
   refine wpQuiet_nil ?_
   refine readyU 19 fun K hK => ?_
   go_simp
   go_wp2
   refine hK.out _ _ (fun h => late_no h (by kernel_rfl)) ?_
   refine wpAnyU_done (by kernel_rfl) ?_ _
   refine NoPanic.normal ?_
   go_wp2
   exact bodyPost_end (results_none rfl _ _ _) rfl ⟨rfl, H3.out, HF.out⟩
end
end Go.Proofs.YtlbnlmhcpephbaaGreatDoor

namespace Go.Proofs.YtlbnlmhcpephbaaGreatDoor
open Go.RowKit
def TpR (b : Nat) (S : List Nat) (wd wo : Int) (N : Nat) (lo hi x : Int) (n : Nat) (w : World) (e : Ending) (w' : World) : Prop :=
 ∃ c : Int, e = .returned (.int .i64 c) ∧ (c ≠ 0 ∧ Below w.heap.size w w' ∨ c = 0 ∧ 0 < n ∧ ∃ S', Mv S S' w w' ∧ Twr w' b S' wd wo (N + n) (lowE N lo x) (highE N hi x))
section
variable {w w' : World} {b tb cR N n : Nat} {wd wo us lo hi x : Int} {R : Option Addr} {rows : List Ro} {own : Nat → Nat}
theorem twendsE_any (h : TwB w b tb wd wo us N lo hi R cR rows own) (x y : Int) : Calls Tryz.prog 323 #[.pointer (some ⟨b, 0, none⟩), .int .i64 x, .int .i64 y] w fun e w' => e = .returned (.tuple #[]) ∧ TwB w' b tb wd wo us N (lowE N lo x) (highE N hi y) R cR rows own ∧ Frame [b] w w' := by
 refine (twends'_any h).mono fun e w' ⟨a, k, c⟩ => ⟨a, ?_, c⟩
 unfold lowE highE
 split at k <;> rename_i z <;> simpa only [z, if_true, if_false] using k
set_option maxRecDepth 100000 in
set_option maxHeartbeats 2000000 in
theorem twput_any (h : TwE w b tb wd wo us N lo hi R cR rows own) (hx : -9223372036854775808 ≤ x ∧ x ≤ 9223372036854775807) (hn : n ≤ 20) (hN : N + n ≤ 7220) : Calls Tryz.prog 319 #[.pointer (some ⟨b, 0, none⟩), .int .i64 x, .int .u64 n] w (TpR b (twS b tb R rows) wd wo N lo hi x n w) := by
 have H := Lib.hid h
 have MO := Lib.hid fun W (hb : Below w.heap.size w W) => twmost_any (h.tw.below hb) ⟨h.q.1.1, h.q.1.2.1⟩
 have s1 := h.tw.at'
 have f1 := s1.c7
 have q := h.q
 have AI := Lib.hid h.ai
 clear h
 by_cases h0 : n = 0
 ·subst h0
  go_enter Tryz.func319, Tryz.ntmps319
  go_wp2
  go_ret
  exact ⟨1, rfl, .inl ⟨by decide, Below.refl _ _⟩⟩
 have h1 : (0 : Int) < n := by omega
 have h2 : (n : Int) ≤ 1024 := by omega
 have e1 : IntKind.u64.wrap (wd * 1024 - N) = wd * 1024 - N := by simp only [IntKind.wrap_u64]; omega
 go_enter Tryz.func319, Tryz.ntmps319
 go_upto_region 7 with fail
 have hfar1 := fun x : Far w => (x.at s1).c7
 refine wp_region_far (by kernel_rfl) (by kernel_rfl) ?_
 repeat go_big_quiet_step (first | (with_reducible refine far_eq (MO.out _ (Far.below _))))
 refine wpQuiet_nil ?_
 rintro _ ⟨xq, rfl⟩
 clear hfar1
 have hb := xq.below
 generalize xq.far = W0 at *
 replace s1 := s1.below hb
 replace H := Lib.hid (H.out.tw.below hb)
 have Q := Lib.hid q
 clear f1 MO e1 q
 by_cases hf : wd * 1024 - N < n
 ·clear s1
  go_wp2
  go_ret
  exact ⟨6, rfl, .inl ⟨by decide, hb⟩⟩
 have f1 := s1.c7
 have HB : Hid (Below w.heap.size w W0) := hb
 have HX := Lib.hid hx
 have hnN : (N : Int) + n ≤ wd * 1024 := by omega
 clear hf h0 s1 hb hx
 go_wp2_with fail
 refine (twendsE_any H.out x x).mono ?_
 rintro e w3 ⟨rfl, H3, hF⟩
 obtain ⟨lo1, hl1⟩ : ∃ l, lowE N lo x = l := ⟨_, rfl⟩
 obtain ⟨hi1, hh1⟩ : ∃ l, highE N hi x = l := ⟨_, rfl⟩
 rw [hl1, hh1] at H3
 have LE := Lib.hid (And.intro hl1 hh1)
 clear hl1 hh1
 have J : Hid (TwJ (twS b tb R rows) b tb wd wo ((N + 0 : Nat) : Int) lo1 hi1 us (N + 0) w w3 (20 * 0)) := ⟨us, R, cR, rows, own, (Mv.of _ HB.out).trans ⟨GrownS.refl _ _, hF.mono fun k hk => by simp at hk; exact twS_mem.2 (.inl hk)⟩, H3, by have := Q.out; omega, AI.out, fun i _ h => by omega⟩
 generalize twS b tb R rows = S0 at *
 clear H3 hF H AI f1
 go_wp2
 go_loopw [31] (fun i wr => ∃ k : Nat, i = .int .u64 k ∧ k ≤ n ∧ Hid (TwJ S0 b tb wd wo ((N + k : Nat) : Int) lo1 hi1 us (N + k) w wr (20 * k))) (fun i _ => n - (intOf i).toNat)
 case atStart => exact ⟨0, rfl, by omega, J⟩
 case round =>
  clear J
  obtain ⟨k, rfl, hk, J⟩ := hrel
  by_cases hlt : k < n
  ·obtain ⟨u1, R, cR, rows, own, mv, D, q, ai, _⟩ := J.out
   obtain ⟨gR, rfl⟩ := D.rr.addr (by omega)
   have h0 : 0 < rows.length := by omega
   have c1 := D.rr.cell h0
   have lR := D.rr.lt gR (by simp [blk])
   have z1 := D.rr.frozen 0
   have r1 := D.ro 0 h0
   have w1 := wS_set h0
   have g1 := wS_ge h0
   obtain ⟨⟨A1, c1', x1⟩, hr1⟩ : ∃ r, rows[0] = r := ⟨_, rfl⟩
   rw [hr1] at c1 r1 g1
   simp only [hr1] at w1
   unfold Ro.v at c1
   dsimp only at c1 g1 w1
   obtain ⟨n1, hn1⟩ : ∃ n, x1.length = n := ⟨_, rfl⟩
   obtain ⟨m2, hm2⟩ : ∃ n, rows.length = n := ⟨_, rfl⟩
   rw [hn1] at c1 g1 w1
   have a1 := D.at'
   rw [hm2] at a1 h0
   have m0 : (0 : Int) < m2 := by omega
   obtain ⟨tt, htt⟩ : ∃ t : Int, ((N + k : Nat) : Int) = t := ⟨_, rfl⟩
   rw [htt] at D a1
   have HT := Lib.hid htt
   have t1 : TwH b gR 0 _ _ wr := ⟨a1, c1, lR⟩
   have D1 := Lib.hid (And.intro mv (And.intro D (And.intro q (And.intro ai (And.intro r1 (And.intro hr1 (And.intro hn1 (And.intro hm2 w1))))))))
   have n1' : n1 ≤ 8000 := by simp at g1; omega
   clear mv D q ai r1 hr1 hn1 hm2 w1 g1 a1 c1 lR J z1 htt
   go_upto_region 12 with fail
   have hT0 := t1.below (Below.refl _ _).drew
   refine until_h 14 (by kernel_rfl) (HeldS.mk' hT0) (fun hHeld => ?_)
   have b0 : Hid (Below wr.heap.size wr wr.drew) := (Below.refl _ _).drew
   generalize wr.drew = W at *
   have hne := hHeld.ne
   have hneF := heldT W
   have hf1 := fun x => (hHeld.get x).a.c7
   have hf2 := fun x => (hHeld.get x).c
   refine runW [11] 4 hHeld ?_
   simp only [runL, runN, runOps_true, runOps_false, runOps_nil]
   repeat go_big_quiet_step (fail)
   refine wpQuiet_nil ?_
   clear hf1 hf2 hne hHeld
   refine readyU 11 fun K hK => ?_
   go_simp
   refine hK.out _ _ (fun _ => HeldS.mk' (hT0.below (bn _ _))) ?_
   clear hK K
   refine readyU 12 fun K hK => ?_
   refine ite_of rfl ?_
   have BW := bn W (.cells #[.int .i64 x] 2)
   have hbW := keep1 b0.out BW
   have D2 := Lib.hid (D1.out.2.1.below hbW)
   have NA : Hid (b ∉ blk A1 ∧ gR ∉ blk A1) := by
    have o := D2.out.oi 0 (by omega)
    rw [D1.out.2.2.2.2.2.1] at o
    exact ⟨fun h => by have := o b h; have := D2.out.ob; omega, fun h => by have := o gR h; have := D2.out.oR gR (by simp [blk]); omega⟩
   refine opwp_append_ro _ _ rfl rfl A1 n1 c1' x1 rfl D1.out.2.2.2.2.2.2.1 (D1.out.2.2.2.2.1.frame (T := []) (Frame.of_below hbW) (by simp)) (some ⟨W.heap.size, 0, none⟩) 1 1 [x] rfl rfl (fun i u hi => match i, hi with | 0, hi => ⟨_, _, rfl, (At.new W _ _).lt, ((At.new W #[.int .i64 x] 2).cell rfl).trans hi⟩) (by simp) (by omega) 45 rfl ?_
   intro A2 c2 wA hA hF hB
   simp only [List.setIfInBounds_toArray, List.set_cons_zero, List.set_cons_succ]
   replace hT0 := (hT0.below BW).frame hF NA.out.1 NA.out.2
   refine hK.out _ _ (fun _ => HeldS.mk' hT0) ?_
   clear hK K
   have hHeld := HeldS.mk' hT0
   have lz : (x1 ++ [x]).length = n1 + 1 := by rw [List.length_append, D1.out.2.2.2.2.2.2.1]; rfl
   have hr0 : 0 < rows.length := by omega
   obtain ⟨D3, hs3⟩ := D2.out.row hr0 (by rw [D1.out.2.2.2.2.2.1]; exact hF) hA fun q hq => (hB q hq).imp (fun a => by rw [D1.out.2.2.2.2.2.1]; exact a) fun a hm => by have := D2.out.lt q hm; omega
   unfold Ro.v at D3
   dsimp only at D3
   rw [lz] at D3
   have mv3 : Hid (Mv S0 (twS b tb (some ⟨gR, 0, none⟩) (rows.set 0 ⟨A2, c2, x1 ++ [x]⟩)) w (wA.setCell ⟨gR, 0, none⟩ (.slice A2 (n1 + 1) c2))) := (D1.out.1.trans (Mv.of _ hbW)).trans ⟨fun q hq => (hs3 q hq).elim .inl fun a => (hB q a).imp (fun z => twS_mem.2 (.inr (.inr (.inr ⟨_, List.getElem_mem hr0, by rw [D1.out.2.2.2.2.2.1]; exact z⟩)))) id, (hF.mono fun q hq => twS_mem.2 (.inr (.inr (.inr ⟨_, List.getElem_mem hr0, by rw [D1.out.2.2.2.2.2.1]; exact hq⟩)))).setc (.inl (twS_mem.2 (.inr (.inr (.inl (by simp [blk])))))) 0 _⟩
   have w3 := D1.out.2.2.2.2.2.2.2.2 ⟨A2, c2, x1 ++ [x]⟩
   simp only [lz] at w3
   have WS : Hid (wS (rows.set 0 ⟨A2, c2, x1 ++ [x]⟩) = N + k + 1) := by have := D1.out.2.2.1; show _ = _; omega
   have AI : Hid (AllI (rows.set 0 ⟨A2, c2, x1 ++ [x]⟩)) := fun r hr => by
    rcases List.mem_or_eq_of_mem_set hr with hr | rfl
    ·exact D1.out.2.2.2.1 r hr
    ·intro y hy
     rcases List.mem_append.1 hy with hy | hy
     ·exact D1.out.2.2.2.1 rows[0] (List.getElem_mem hr0) y (by rw [D1.out.2.2.2.2.2.1]; exact hy)
     ·rw [List.mem_singleton] at hy; exact hy ▸ HX.out
   have f3 := (D2.out.rr.frame hF fun q hq e => by simp only [blk, List.mem_singleton] at hq; subst hq; exact NA.out.2 e).frozen 0
   have f4 := hT0.c
   have Q1 := Lib.hid D1.out.2.2.1
   replace D3 := Lib.hid D3
   clear D2 hs3 hA hF hB lz D1 BW hbW NA w3 t1
   refine runV [0, 13, 1] 1 hHeld ?_
   simp only [runL, runN, runOps_true, runOps_false, runOps_nil]
   repeat go_big_quiet_step (fail)
   refine wpQuiet_nil ?_
   refine readyU 14 fun K hK => ?_
   go_simp
   go_wp2
   refine hK.out _ _ (fun h => late_no h (by kernel_rfl)) ?_
   refine wpAnyU_done (by kernel_rfl) ?_ _
   refine NoPanic.normal ?_
   clear f3 f4 hT0 hHeld
   generalize wA.setCell _ _ = W2 at *
   have a2 := D3.out.at'
   have f2 := a2.c7
   have l2 := a2.lt
   have et : IntKind.u64.wrap (tt + 1) = tt + 1 := by have := HT.out; simp only [IntKind.wrap_u64]; omega
   have D4 := D3.out.set (a2.set_any 4 (.int .u64 (tt + 1)) rfl)
   have ST := Lib.hid (settle_any D4 (by have := Q.out; omega) (by have := Q.out; have := Q1.out; omega) (by have := WS.out; omega) (by have := Q1.out; simpa using this.2.2.2) AI.out)
   have mv4 : Hid (Mv S0 (twS b tb (some ⟨gR, 0, none⟩) (rows.set 0 ⟨A2, c2, x1 ++ [x]⟩)) w (W2.setCell ⟨b, 4, none⟩ (.int .u64 (tt + 1)))) := mv3.out.trans ⟨GrownS.refl _ _, Frame.set _ _ _ _ _ (twS_mem.2 (.inl rfl))⟩
   clear D4 D3 mv3 a2
   go_wp2_with fail
   refine ST.out.mono ?_
   rintro e w5 ⟨rfl, J⟩
   replace J : Hid (TwJ S0 b tb wd wo ((N + (k + 1) : Nat) : Int) lo1 hi1 us (N + (k + 1)) w w5 (20 * (k + 1))) := by
    obtain ⟨u2, R2, cR2, rows2, own2, mv, D, q, ai, sh⟩ := J
    rw [WS.out] at q
    have e : tt + 1 = ((N + (k + 1) : Nat) : Int) := by have := HT.out; omega
    exact ⟨u2, R2, cR2, rows2, own2, mv4.out.trans mv, e ▸ D, by have := Q1.out; omega, ai, fun i h _ => sh i h (by omega)⟩
   clear ST mv4 WS AI f2 l2
   go_wp2
   go_roundw
   case rel => exact ⟨k + 1, by simp, by omega, J⟩
   case measure => simp [intOf]; omega
  ·obtain rfl : k = n := by omega
   have FIN : Hid (TpR b S0 wd wo N lo hi x k w (.returned (.int .i64 0)) wr) := by
    obtain ⟨u2, R2, cR2, rows2, own2, mv, D, q, ai, sh⟩ := J.out
    exact ⟨0, rfl, .inr ⟨rfl, by omega, _, mv, tb, u2, R2, cR2, rows2, own2, ⟨by rw [LE.out.1, LE.out.2]; exact D, by have := Q.out; omega, ai, fun r hr => by obtain ⟨i, h, rfl⟩ := List.getElem_of_mem hr; exact sh i h (by omega)⟩, rfl⟩⟩
   clear J
   go_wp2
   go_ret
   exact FIN.out
end
end Go.Proofs.YtlbnlmhcpephbaaGreatDoor
