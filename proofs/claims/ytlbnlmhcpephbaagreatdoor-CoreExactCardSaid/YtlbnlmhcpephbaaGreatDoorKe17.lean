/- Texts of this claim, joined, indents halved: ELw3, ELw4, ETu1, ETu2, ETu3, ETu4. -/
import Derived.Test.YtlbnlmhcpephbaaGreatDoorProg
import Derived.Test.YtlbnlmhcpephbaaGreatDoorKe16
namespace Go.Proofs.YtlbnlmhcpephbaaGreatDoor
open Go.RowKit
set_option maxRecDepth 100000
section
variable {s : Bool} {w w' W : World} {b k : Nat} {T U : List Nat} {most l n i e x c : Int} {ps qs : List (Int × Int)}
def LwpR (s : Bool) (b k : Nat) (T : List Nat) (most n : Int) (w w' : World) : Prop := ∃ T' qs l, LwB s w' b k T' most qs l ∧ Mv (b :: T) (b :: T') w w' ∧ sumP qs + l = n
theorem LwB.add (h : LwB s W b k T most ps l) (hF : Frame (b :: T) w W) (hx : I64 x) (hc : 0 < c) (hs : sumP ps + c ≤ 16000) (hw : ∀ y ∈ ps, y.1 - x < most ∧ x - y.1 < most) :
  Calls Tryz.prog 105 #[.pointer (some ⟨k, 0, none⟩), .int .i64 x, .int .u64 c] W fun e w' => e = .returned (.int .i64 0) ∧ LwpR s b k T most (sumP ps + l + c) w w' := by
 have ce := cnt_le_sumP h.st.gd.pos x
 have ix := rowAdd_ix h.st.gd hc (q := x) (by omega)
 have wn : ∀ y ∈ rowAdd ps x c, ∀ z ∈ rowAdd ps x c, z.1 - y.1 < most := fun y hy z hz => by
  have := h.m1
  rcases ix.2.2 y hy with a | a <;> rcases ix.2.2 z hz with d | d
  ·exact h.wn y a z d
  ·have := hw y a; omega
  ·have := hw z d; omega
  ·omega
 have r : stRoom most ps x c := ⟨by omega, wn_len (h.st.gd.rowAdd hc (by omega)) wn h.m1.1⟩
 have sn := sumP_nonneg h.st.gd.pos
 have := sadd_any k T most ps x c W h.st (by omega) (by omega) hx
 simp only [SadR, stCode, stStep, hc, r, and_self, if_true] at this
 refine this.mono fun e w' ⟨e1, T', g, hS, f⟩ => ⟨e1, T', _, l, { h with at' := f.at h.at' h.ne, st := hS, ne := fun m => (g _ m).elim h.ne fun z => by have := h.at'.lt; omega, wn := wn }, ?_, ?_⟩
 ·exact Mv.trans ⟨GrownS.refl _ _, hF⟩ (Mv.cons b ⟨g, f⟩)
 ·rw [sumP_rowAdd h.st.gd hc (by omega)]; omega
theorem near_w (h : LwB s w b k T most ps l) (h0 : ¬ ps.length = 0) (h1 : gp s (fr (!s) ps) x < most) (h2 : ¬ gp s (fr (!s) ps) x < 0) : ∀ y ∈ ps, y.1 - x < most ∧ x - y.1 < most := fun y hy => by
 have a := far_ok (s := !s) (e := 0) h.st.gd hy
 obtain ⟨z, hz, e⟩ := fr_mem (s := !s) h0
 have p := h.wn y hy z hz
 have q := h.wn z hz y hy
 cases s <;> simp [gp] at * <;> omega
theorem past_w (h : LwB s w b k T most ps l) (h2 : gp s (fr (!s) ps) x < 0) (hq : ∀ y ∈ qs, y ∈ ps) (h1 : ∀ y ∈ qs, gp s x y.1 < most) : ∀ y ∈ qs, y.1 - x < most ∧ x - y.1 < most := fun y hy => by
 have a := far_ok (s := !s) (e := 0) h.st.gd (hq y hy)
 have := h1 y hy
 have := h.m1
 cases s <;> simp [gp] at * <;> omega
set_option maxHeartbeats 1000000 in
theorem lput_w (h : LwB s w b k T most ps l) (hx : I64 x) (hc : 0 < c) (hs : sumP ps + l + c ≤ 16000) : Calls Tryz.prog (lk s).P #[.pointer (some ⟨b, 0, none⟩), .int .i64 x, .int .u64 c] w fun e w' => e = .returned (.tuple #[]) ∧ LwpR s b k T most (sumP ps + l + c) w w' := by
 have EN := Lib.hid (lend_w h)
 have l0 := h.l0
 have sn := sumP_nonneg h.st.gd.pos
 have AD : Hid (∀ W qs l', LwB s W b k T most qs l' → Frame (b :: T) w W → sumP qs + l' = sumP ps + l → (∀ y ∈ qs, y.1 - x < most ∧ x - y.1 < most) → At W b #[.int .i64 most, .pointer (some ⟨k, 0, none⟩), .int .u64 l'] (lk s).T ∧ Calls Tryz.prog 105 #[.pointer (some ⟨k, 0, none⟩), .int .i64 x, .int .u64 c] W fun e w' => e = .returned (.int .i64 0) ∧ LwpR s b k T most (sumP ps + l + c) w w') := fun W qs l' h' hF hN hw => by
  have := h'.add hF hx hc (by have := h'.l0; omega) hw
  rw [hN] at this
  exact ⟨h'.at', this⟩
 have H := Lib.hid fun W (hb : Below w.heap.size w W) => h.below hb
 by_cases h0 : ps.length = 0
 ·have A := Lib.hid fun W (hb : Below w.heap.size w W) => AD.out W ps l (h.below hb) (Frame.of_below hb) rfl fun y hy => by rw [List.eq_nil_of_length_eq_zero h0] at hy; cases hy
  simp only [h0, if_true] at EN
  clear AD H h h0 sn l0
  cases s
  all_goals
   dsimp only [lk]
   first | go_enter Tryz.func142, Tryz.ntmps142 | go_enter Tryz.func141, Tryz.ntmps141
   go_wp2_with fail
   refine EN.out.mono ?_
   rintro e w1 ⟨rfl, hb⟩
   obtain ⟨a, C⟩ := A.out w1 hb
   have f1 := a.three
   have l1 := a.lt
   replace C := Lib.hid C
   clear A a hb EN
   go_wp2_with fail
   refine C.out.mono ?_
   rintro e w2 ⟨rfl, r⟩
   replace r := Lib.hid r
   go_wp2
   exact bodyPost_end (results_none rfl _ _ _) rfl ⟨rfl, r.out⟩
 simp only [h0, if_false] at EN
 have OU : Hid (∀ W, Below w.heap.size w W → ∃ g : Bool, (g = false → ¬ most ≤ gp s (fr (!s) ps) x) ∧ Calls Tryz.prog (lk s).O #[.pointer (some ⟨b, 0, none⟩), .int .i64 x, .int .i64 (fr (!s) ps)] W fun r w' => r = .returned (.bool g) ∧ W = w') := fun W hb => ⟨_, of_decide_eq_false, lout_w (h.below hb).at' h.m1 hx (h.fr64 _ h0)⟩
 have LO : Hid (∀ W, Below w.heap.size w W → At W b #[.int .i64 most, .pointer (some ⟨k, 0, none⟩), .int .u64 l] (lk s).T ∧ LwpR s b k T most (sumP ps + l + c) w (W.setCell ⟨b, 2, none⟩ (.int .u64 (l + c)))) := fun W hb => ⟨(h.below hb).at', T, ps, l + c, (h.below hb).lost (by omega), ⟨GrownS.refl _ _, (Frame.of_below hb).setc (.inl (by simp)) 2 _⟩, by omega⟩
 have SH : Hid (gp s (fr (!s) ps) x < 0 → ∀ W, Below w.heap.size w W → Calls Tryz.prog (lk s).S #[.pointer (some ⟨b, 0, none⟩), .int .i64 x] W fun r w' => r = .returned (.tuple #[]) ∧ ∃ l', At w' b #[.int .i64 most, .pointer (some ⟨k, 0, none⟩), .int .u64 l'] (lk s).T ∧ Calls Tryz.prog 105 #[.pointer (some ⟨k, 0, none⟩), .int .i64 x, .int .u64 c] w' fun e w' => e = .returned (.int .i64 0) ∧ LwpR s b k T most (sumP ps + l + c) w w') := fun h2 W hb => by
  refine (lshed_w (h.below hb) hx (by omega)).mono ?_
  rintro r w' ⟨rfl, qs, l', h', hF, hN, hq, hg⟩
  exact ⟨rfl, l', AD.out w' qs l' h' ((Frame.of_below hb).trans hF) hN (past_w h h2 hq hg)⟩
 have NE : Hid (¬ most ≤ gp s (fr (!s) ps) x → ¬ gp s (fr (!s) ps) x < 0 → ∀ W, Below w.heap.size w W → ∃ l', At W b #[.int .i64 most, .pointer (some ⟨k, 0, none⟩), .int .u64 l'] (lk s).T ∧ Calls Tryz.prog 105 #[.pointer (some ⟨k, 0, none⟩), .int .i64 x, .int .u64 c] W fun e w' => e = .returned (.int .i64 0) ∧ LwpR s b k T most (sumP ps + l + c) w w') := fun h1 h2 W hb => ⟨l, AD.out W ps l (h.below hb) (Frame.of_below hb) rfl (near_w h h0 (by omega) h2)⟩
 have wz : IntKind.u64.wrap (l + c) = l + c := by simp only [IntKind.wrap_u64]; omega
 obtain ⟨e, he⟩ : ∃ e, fr (!s) ps = e := ⟨_, rfl⟩
 rw [he] at EN OU SH NE
 obtain ⟨p, hp⟩ : ∃ p : Bool, (p = true → gp s e x < 0) ∧ (p = false → ¬ gp s e x < 0) ∧ (if s then decide (e < x) else decide (x < e)) = p := ⟨decide (gp s e x < 0), of_decide_eq_true, of_decide_eq_false, by cases s <;> simp [gp] <;> omega⟩
 replace SH := Lib.hid fun h => SH.out (hp.1 h)
 replace NE := Lib.hid fun h0 h => NE.out h0 (hp.2.1 h)
 have hd := hp.2.2
 clear AD h h0 sn l0 he H hp
 cases s
 all_goals
  dsimp only [lk]
  simp only [reduceIte, Bool.false_eq_true] at hd
  first | go_enter Tryz.func142, Tryz.ntmps142 | go_enter Tryz.func141, Tryz.ntmps141
  go_wp2_with fail
  refine EN.out.mono ?_
  rintro r w1 ⟨rfl, hb⟩
  obtain ⟨g, hg, O⟩ := OU.out w1 hb
  replace O := Lib.hid O
  replace hg := Lib.hid hg
  obtain ⟨a, r⟩ := LO.out w1 hb
  have f1 := a.three
  have l1 := a.lt
  have hb := Lib.hid hb
  replace r := Lib.hid r
  clear EN OU LO a
  go_wp2_with fail
  refine O.out.mono ?_
  rintro e' w2 ⟨rfl, rfl⟩
  cases g
  rotate_left
  ·clear SH NE O hg
   go_wp2
   exact bodyPost_ret (results_none rfl _ _ _) rfl ⟨rfl, r.out⟩
  clear wz r O
  cases p
  ·obtain ⟨l', a, C⟩ := NE.out (hg.out rfl) rfl w1 hb.out
   replace C := Lib.hid C
   clear SH NE hg a
   go_wp2_with fail
   refine C.out.mono ?_
   rintro e w2 ⟨rfl, r⟩
   replace r := Lib.hid r
   go_wp2
   exact bodyPost_end (results_none rfl _ _ _) rfl ⟨rfl, r.out⟩
  ·have C := Lib.hid (SH.out rfl w1 hb.out)
   clear SH NE hg
   go_wp2_with fail
   refine C.out.mono ?_
   rintro e' w2 ⟨rfl, l', a, C⟩
   have f3 := a.three
   have l3 := a.lt
   replace C := Lib.hid C
   clear a
   go_wp2_with fail
   refine C.out.mono ?_
   rintro e w2 ⟨rfl, r⟩
   replace r := Lib.hid r
   go_wp2
   exact bodyPost_end (results_none rfl _ _ _) rfl ⟨rfl, r.out⟩
theorem ladd_w (h : LwB s w b k T most ps l) (hx : I64 x) (hc : 0 < c) (hs : sumP ps + l + c ≤ 16000) : Calls Tryz.prog (lk s).A #[.pointer (some ⟨b, 0, none⟩), .int .i64 x, .int .u64 c] w fun e w' => e = .returned (.int .i64 0) ∧ LwpR s b k T most (sumP ps + l + c) w w' := by
 have TT := Lib.hid (ltot_w h (by omega))
 have PL := Lib.hid fun W (hb : Below w.heap.size w W) => plus2_new (a := sumP ps + l) (b := c) hb (by have := h.l0; have := sumP_nonneg h.st.gd.pos; omega) (by omega) (by omega)
 have PT := Lib.hid fun W (hb : Below w.heap.size w W) => (lput_w (h.below hb) hx hc hs).mono fun e w' ⟨e1, T', qs, l', h', m, hn⟩ => (⟨e1, T', qs, l', h', (Mv.of _ hb).trans m, hn⟩ : e = Ending.returned (.tuple #[]) ∧ LwpR s b k T most (sumP ps + l + c) w w')
 have hz := beq_eq_false_iff_ne.2 (show c ≠ 0 by omega)
 generalize sumP ps + l = N at *
 clear h hx hc hs
 cases s
 all_goals
  dsimp only [lk]
  first | go_enter Tryz.func134, Tryz.ntmps134 | go_enter Tryz.func132, Tryz.ntmps132
  go_wp2_with fail
  refine TT.out.mono ?_
  rintro e w1 ⟨rfl, hb⟩
  go_wp2_with fail
  refine (PL.out w1 hb).mono ?_
  rintro e w2 ⟨rfl, hb⟩
  have P := Lib.hid (PT.out w2 hb)
  clear PT TT PL hb
  go_wp2_with fail
  refine P.out.mono ?_
  rintro e w3 ⟨rfl, r⟩
  replace r := Lib.hid r
  go_wp2
  go_ret
  exact ⟨rfl, r.out⟩
end
end Go.Proofs.YtlbnlmhcpephbaaGreatDoor

namespace Go.Proofs.YtlbnlmhcpephbaaGreatDoor
open Go.RowKit
set_option maxRecDepth 100000
section
variable {s : Bool} {w w' W : World} {b k o q : Nat} {T U : List Nat} {most l l2 n i e x c N : Int} {ps qs : List (Int × Int)} {A : Option Addr}
def LmJ (s : Bool) (b k : Nat) (T : List Nat) (most N : Int) (qs : List (Int × Int)) (w : World) (A : Option Addr) (j : Nat) (W : World) : Prop :=
 ∃ T' ps l, LwB s W b k T' most ps l ∧ Mv (b :: T) (b :: T') w W ∧ sumP ps + l = N + sumP (qs.take j) ∧ RdA W A (qs.flatMap fun x => [.int .i64 x.1, .int .u64 x.2]) (b :: T')
theorem LmJ.alloc {j : Nat} (h : LmJ s b k T most N qs w A j W) (hb : Below W.heap.size W w') : LmJ s b k T most N qs w A j w' := by
 obtain ⟨T', ps, l, h, m, e, r⟩ := h
 exact ⟨T', ps, l, h.below hb, m.trans (Mv.of _ hb), e, r.mv (Mv.of _ hb)⟩
theorem LmJ.step {j : Nat} (h : LmJ s b k T most N qs w A j W) (hj : j < qs.length) (gd : Gd qs) (ok : okP qs) (hs : N + sumP qs ≤ 16000) :
  (Calls Tryz.prog (lk s).P #[.pointer (some ⟨b, 0, none⟩), .int .i64 qs[j].1, .int .u64 qs[j].2] W fun e w' => e = .returned (.tuple #[]) ∧ LmJ s b k T most N qs w A (j + 1) w') ∧ Calls Tryz.prog (lk s).A #[.pointer (some ⟨b, 0, none⟩), .int .i64 qs[j].1, .int .u64 qs[j].2] W fun e w' => e = .returned (.int .i64 0) ∧ LmJ s b k T most N qs w A (j + 1) w' := by
 obtain ⟨T', ps, l, h, m, e, r⟩ := h
 have tk := sumP_take qs j hj
 have tl := sumP_take_le gd.pos (j + 1)
 have hp := gd.pos _ (List.getElem_mem hj)
 have hx := (ok _ (List.getElem_mem hj)).1
 have key : ∀ w', LwpR s b k T' most (sumP ps + l + qs[j].2) W w' → LmJ s b k T most N qs w A (j + 1) w' := fun w' ⟨T2, qs', l', h', m', e'⟩ => ⟨T2, qs', l', h', m.trans m', by omega, r.mv m'⟩
 exact ⟨(lput_w h hx hp (by omega)).mono fun e w' h => ⟨h.1, key w' h.2⟩, (ladd_w h hx hp (by omega)).mono fun e w' h => ⟨h.1, key w' h.2⟩⟩
set_option maxHeartbeats 1000000 in
theorem lmerge_w (h : LwB s w b k T most ps l) (h2 : LwB s w o q U most qs l2) (ap : Apart (b :: T) (o :: U)) (hs : sumP ps + l + (sumP qs + l2) ≤ 16000) : Calls Tryz.prog (lk s).M #[.pointer (some ⟨b, 0, none⟩), .pointer (some ⟨o, 0, none⟩)] w fun e w' => e = .returned (.int .i64 0) ∧ LwpR s b k T most (sumP ps + l + (sumP qs + l2)) w w' := by
 have b1 := sumP_nonneg h.st.gd.pos
 have b2 := sumP_nonneg h2.st.gd.pos
 have b3 := h.l0
 have b4 := h2.l0
 have g1 := h.at'.three
 have g2 := h2.at'.three
 have T1 := Lib.hid fun W (hb : Below w.heap.size w W) => ltot_w (h.below hb) (by omega)
 have T2 := Lib.hid fun W (hb : Below w.heap.size w W) => ltot_w (h2.below hb) (by omega)
 have PL := Lib.hid fun W (hb : Below w.heap.size w W) => plus2_new (a := sumP ps + l) (b := sumP qs + l2) hb (by omega) (by omega) (by omega)
 have O := Lib.hid fun W (hb : Below w.heap.size w W) => And.intro (h2.below hb).at' (spairs_any _ _ _ _ _ (h2.below hb).st)
 have J0 : Hid (∀ w1 W A c, Below w.heap.size w w1 → Below w1.heap.size w1 W → Own2 w1.heap.size W A c qs → LmJ s b k T most (sumP ps + l) qs w A 0 W) := fun w1 W A c h1 hb ho => ⟨T, ps, l, (h.below h1).below hb, (Mv.of _ h1).trans (Mv.of _ hb), by simp [sumP_nil], CloR.rda ho (h.below h1).lt⟩
 have ST : Hid (∀ W A j (hj : j < qs.length), LmJ s b k T most (sumP ps + l) qs w A j W → _) := fun W A j hj h => (LmJ.step h hj h2.st.gd h2.st.ok (by omega)).1
 have AL : Hid (∀ W A j o, LmJ s b k T most (sumP ps + l) qs w A j W → LmJ s b k T most (sumP ps + l) qs w A j (W.alloc o)) := fun W A j o h => h.alloc (bn _ o)
 have RD : Hid (∀ W A j, LmJ s b k T most (sumP ps + l) qs w A j W → RdP W A qs) := fun W A j ⟨_, _, _, _, _, _, r⟩ => r.1
 have EN : Hid (∀ W A, LmJ s b k T most (sumP ps + l) qs w A qs.length W → ∃ l', At W b #[.int .i64 most, .pointer (some ⟨k, 0, none⟩), .int .u64 l'] (lk s).T ∧ IntKind.u64.wrap (l' + l2) = l' + l2 ∧ LwpR s b k T most (sumP ps + l + (sumP qs + l2)) w (W.setCell ⟨b, 2, none⟩ (.int .u64 (l' + l2)))) := fun W A ⟨T', qs', l', h', m, e, r⟩ => by
  rw [List.take_length] at e
  have := h'.l0
  have := sumP_nonneg h'.st.gd.pos
  exact ⟨l', h'.at', by simp only [IntKind.wrap_u64]; omega, T', qs', l' + l2, h'.lost (by omega), m.trans ⟨GrownS.refl _ _, Frame.set _ W b 2 _ (by simp)⟩, by omega⟩
 have n4 := h2.st.len.2
 obtain ⟨n, hn⟩ : ∃ n, qs.length = n := ⟨_, rfl⟩
 have HN := Lib.hid hn
 rw [hn] at n4
 generalize sumP ps + l = N at *
 generalize sumP qs + l2 = M at *
 obtain ⟨R, hR⟩ : ∃ R, LmJ s b k T most N qs w = R := ⟨_, rfl⟩
 rw [hR] at J0 ST AL RD EN
 rw [hn] at EN
 have l1 := h.at'.lt
 have l2 := h2.at'.lt
 clear h h2 ap hs b1 b2 b3 b4 hn hR
 cases s
 all_goals
  dsimp only [lk]
  first | go_enter Tryz.func209, Tryz.ntmps209 | go_enter Tryz.func210, Tryz.ntmps210
  go_wp2
  go_quiet (fail)
  have hb : Below w.heap.size w (w.drewN nq) := (Below.refl _ _).drewN _
  go_wp2_with fail
  refine (T1.out _ hb).mono ?_
  rintro e w1 ⟨rfl, hb1⟩
  replace hb := keep1 hb hb1
  clear hb1
  go_wp2_with fail
  refine (T2.out _ hb).mono ?_
  rintro e w2 ⟨rfl, hb1⟩
  replace hb := keep1 hb hb1
  clear hb1
  go_wp2_with fail
  refine (PL.out _ hb).mono ?_
  rintro e w3 ⟨rfl, hb⟩
  obtain ⟨a, SP⟩ := O.out w3 hb
  have f3 := a.three
  have l3 := a.lt
  have J0 := Lib.hid fun W A c => J0.out w3 W A c hb
  replace SP := Lib.hid SP
  clear T1 T2 PL O g1 g2 l1 l2 a hb
  go_wp2_with fail
  refine SP.out.mono ?_
  rintro e w4 ⟨A, c, rfl, ho, hb⟩
  have J := Lib.hid (J0.out w4 A c hb ho)
  clear SP ho hb f3 l3 J0
  rw [HN.out]
  go_wp2
  go_loopw [9, 48] (fun _ i wr => ∃ j : Nat, j ≤ n ∧ i = .int .i64 j ∧ Hid (R A j wr)) (fun _ i _ => n - (intOf i).toNat)
  case atStart => exact ⟨0, by omega, rfl, J⟩
  case round =>
   clear J
   obtain ⟨j, hj, rfl, J⟩ := hrel
   by_cases hlt : j < n
   ·have hjl : j < qs.length := by have := HN.out; omega
    obtain ⟨g, o', e, hg, d1, d2⟩ := (RD.out _ _ _ J.out).at j hjl
    cases e
    have j0 : (0 : Int) ≤ j := by omega
    have j1 : (j : Int) < n := by omega
    have j2 : IntKind.i64.wrap ((j : Int) + 1) = ((j + 1 : Nat) : Int) := by simp only [IntKind.wrap_i64]; omega
    have C := fun o => ST.out _ _ j hjl (AL.out _ _ _ o J.out)
    generalize qs[j].1 = x at *
    generalize qs[j].2 = c at *
    replace C := Lib.hid (C (.cells #[.int .i64 x, .int .u64 c] 247))
    have aP := At.new wr #[.int .i64 x, .int .u64 c] 247
    have f4 := aP.two
    have l4 := aP.lt
    clear aP J hjl
    go_wp2_with fail
    refine C.out.mono ?_
    rintro e w5 ⟨rfl, J⟩
    replace J := Lib.hid J
    clear C f4 l4 d1 d2 hg
    go_wp2
    go_roundw
    case rel => exact ⟨j + 1, by omega, by simp, J⟩
    case measure => simp [intOf]; omega
   ·obtain rfl : j = n := by omega
    obtain ⟨l', a, wz, r⟩ := EN.out _ _ J.out
    have f5 := a.three
    have l5 := a.lt
    replace r := Lib.hid r
    clear a J EN hlt
    go_wp2
    go_ret
    exact ⟨rfl, r.out⟩
end
end Go.Proofs.YtlbnlmhcpephbaaGreatDoor

namespace Go.Proofs.YtlbnlmhcpephbaaGreatDoor
open Go.RowKit
def flatT (ts : List Tu) : List Value := ts.flatMap fun x => [.int .i64 x.1, .int .u64 x.2.1, .int .u64 x.2.2]
theorem flatT_one {ts : List Tu} : ∀ u ∈ flatT ts, u.oneCell' = true := by
 intro u hu
 simp only [flatT, List.mem_flatMap, List.mem_cons, List.not_mem_nil, or_false] at hu
 obtain ⟨x, _, rfl | rfl | rfl⟩ := hu <;> rfl
theorem flatT_append (a b : List Tu) : flatT (a ++ b) = flatT a ++ flatT b := by simp [flatT]
theorem flatT_cut (ts : List Tu) (i : Nat) : (flatT ts).take (i * 3) = flatT (ts.take i) ∧ (flatT ts).drop (i * 3) = flatT (ts.drop i) := flat_cut (f := fun x : Tu => [.int .i64 x.1, .int .u64 x.2.1, .int .u64 x.2.2]) (fun _ => rfl) ts i
def OwT (base : Nat) (w : World) (A : Option Addr) (c : Nat) (ts : List Tu) : Prop := w.ownsRow base 230 3 (.slice A ts.length c) ts.length (flatT ts)
section
variable {w w' W : World} {b c n k base g : Nat} {A : Option Addr} {x q u v N : Int} {ts us : List Tu} {T : List Nat} {sg : Nat → Int} {f : FuncId}
def asg (p : Int → Bool) (ts : List Tu) (i : Nat) : Int := if p (ts.getD i (0, 0, 0)).1 then 1 else -1
theorem asg_mono {p : Int → Bool} (h : ts.Pairwise fun a b => a.1 ≤ b.1) (hp : ∀ a b, a ≤ b → p a = true → p b = true) (x y : Nat) (hx : x ≤ y) (hy : y < ts.length) (hs : asg p ts y < 0) : asg p ts x < 0 := by
 unfold asg at *
 rw [List.getD_eq_getElem?_getD, List.getElem?_eq_getElem hy] at hs
 rw [List.getD_eq_getElem?_getD, List.getElem?_eq_getElem (by omega)]
 rcases Nat.eq_or_lt_of_le hx with rfl | e
 ·exact hs
 ·have := hp _ _ (List.pairwise_iff_getElem.1 h x y (by omega) hy e)
  dsimp only [Option.getD_some] at *
  split at hs
  ·omega
  ·rename_i k; rw [if_neg fun l => k (this l)]; decide
theorem bst_any {p : Int → Bool} (h : Rd w A (flatT ts)) (hs : ts.Pairwise fun a b => a.1 ≤ b.1) (hp : ∀ a b, a ≤ b → p a = true → p b = true) (he : ∀ args w, (callFunc f args).run Tryz.prog w = .ok (.enter f args) w)
  (hf : ∀ x s l W, Calls Tryz.prog f #[.agg #[.int .i64 x, .int .u64 s, .int .u64 l], .int .i64 q] W fun e w' => e = .returned (.int .i64 (if p x then 1 else -1)) ∧ Below W.heap.size W w') (hn : ts.length = n) (hl : n ≤ 8000) :
  Calls Tryz.prog 294 #[.slice A n c, .int .i64 q, .func (.func f) #[] #[]] w (BfG (asg p ts) n w) := by
 subst hn
 exact bsf_g (j := .t) (q := q) (sg := asg p ts) (cs := fun i d => if d = 0 then .int .i64 (ts.getD i (0, 0, 0)).1 else if d = 1 then .int .u64 (ts.getD i (0, 0, 0)).2.1 else .int .u64 (ts.getD i (0, 0, 0)).2.2) (fun h => by cases h) he (fun i hi => by
  obtain ⟨g, o, e, hg, c1, c2, c3⟩ := h.at3 hi
  have : ts.getD i (0, 0, 0) = ts[i] := by rw [List.getD_eq_getElem?_getD, List.getElem?_eq_getElem hi]; rfl
  rw [this]
  exact ⟨g, o, e, hg, fun d hd => by match d, hd with | 0, _ => exact c1 | 1, _ => exact c2 | 2, _ => exact c3⟩) (fun i W _ => hf _ _ _ W) (asg_mono hs hp) (by omega)
theorem aft_clo (x s l q : Int) (w : World) : Calls Tryz.prog 295 #[.agg #[.int .i64 x, .int .u64 s, .int .u64 l], .int .i64 q] w fun e w' => e = .returned (.int .i64 (if decide (q < x) then 1 else -1)) ∧ Below w.heap.size w w' := by
 by_cases h : q < x
 all_goals
  simp only [h, decide_true, decide_false, if_true, if_false, Bool.false_eq_true]
  go_enter Tryz.func295, Tryz.ntmps295
  go_wp2
  go_ret
  exact ⟨rfl, (by repeat (first | with_reducible assumption | with_reducible exact Below.refl _ _ | with_reducible refine Below.drew ?_ | with_reducible refine Below.drewN ?_ _ | with_reducible refine Below.setCell ?_ (by first | omega | (simp; done) | (simp; omega)) _ | with_reducible refine Below.alloc ?_ (by first | omega | (simp; done) | (simp; omega) | (simp [World.setCell]; omega)) _))⟩
abbrev aftS (x : Int) := asg fun y => decide (x < y)
def AftR (p : Int → Bool) (ts : List Tu) (n : Nat) (w : World) (e : Ending) (w' : World) : Prop := (∃ k : Nat, e = .returned (.int .i64 k) ∧ Pos (asg p ts) n k) ∧ Below w.heap.size w w'
theorem after_any (h : Rd w A (flatT ts)) (hs : ts.Pairwise fun a b => a.1 ≤ b.1) (hn : ts.length = n) (hl : n ≤ 8000) : Calls Tryz.prog 281 #[.slice A n c, .int .i64 x] w (AftR (fun y => decide (x < y)) ts n w) := by
 have H := Lib.hid (bst_any (c := c) (f := 295) (p := fun y => decide (x < y)) h hs (fun a b h e => by simp at e ⊢; omega) (fun _ _ => by kernel_rfl) (fun y s l W => aft_clo y s l x W) hn hl)
 clear h hs
 go_enter Tryz.func281, Tryz.ntmps281
 go_wp2_with fail
 refine H.out.mono ?_
 rintro e w1 ⟨⟨k, f, rfl, hp, _⟩, hB⟩
 have R := Lib.hid hp
 clear H hp
 go_wp2
 go_ret
 exact ⟨⟨k, rfl, R.out⟩, hB⟩
theorem floor_w {a b y : Int} (ha : U64 a) (hb : U64 b) (hy : U64 y) : ∃ q ok, U64 q ∧ ∀ w, Calls Tryz.prog 97 #[.int .u64 a, .int .u64 b, .int .u64 y] w fun e w' => e = .returned (.tuple #[.int .u64 q, .bool ok]) ∧ Below w.heap.size w w' := by
 refine ⟨_, _, ?_, fun w => floor_any a b y w ha.1 ha.2 hb.1 hb.2 hy.1 hy.2⟩
 unfold overQ U64 at *
 split
 ·rename_i h
  have := Int.mul_nonneg ha.1 hb.1
  rcases Int.lt_or_eq_of_le hy.1 with k | k
  ·exact ⟨Int.ediv_nonneg this hy.1, Int.ediv_lt_of_lt_mul k (by rw [Int.mul_comm 18446744073709551616]; exact h)⟩
  ·subst k; simp
 ·omega
theorem limit_any (hv : U64 v) (hn : U64 N) : ∃ y, ∀ w, Calls Tryz.prog 115 #[.agg #[.int .u64 u, .int .u64 v], .int .u64 N] w fun e w' => e = .returned (.int .u64 y) ∧ Below w.heap.size w w' := by
 obtain ⟨z, hz⟩ : ∃ z, IntKind.u64.wrap (2 * u) = z := ⟨_, rfl⟩
 obtain ⟨y, ok, _, h⟩ := floor_w (a := z) (b := N) (y := v) (hz ▸ wrapB _) hn hv
 have H := Lib.hid h
 clear h
 refine ⟨if ok then max y 1 else N, fun w => ?_⟩
 have h2 : ∀ (e : Ending) (w' : World), e = .returned (.tuple #[.int .u64 y, .bool ok]) ∧ Below (w.alloc (.cells #[.int .u64 u, .int .u64 v] 25)).heap.size (w.alloc (.cells #[.int .u64 u, .int .u64 v] 25)) w' → e = .returned (.tuple #[.int .u64 y, .bool ok]) ∧ Below w.heap.size w w' := fun e w' h => ⟨h.1, keep1 (bn _ _) h.2⟩
 have C := Lib.hid ((H.out (w.alloc (.cells #[.int .u64 u, .int .u64 v] 25))).mono h2)
 clear h2
 cases ok
 all_goals
  simp only [if_true, if_false, Bool.false_eq_true]
  go_enter Tryz.func115, Tryz.ntmps115
  go_wp2_with fail
  refine C.out.mono ?_
  rintro e w1 ⟨rfl, hB⟩
  go_wp2
  go_ret
  exact ⟨rfl, hB⟩
def TinR (base : Nat) (A : Option Addr) (ts : List Tu) (x : Int) (w : World) (e : Ending) (w' : World) : Prop :=
 ∃ k d A' c', e = .returned (.slice A' (ts.length + 1) c') ∧ Pos (aftS x ts) ts.length k ∧ U64 d ∧ OwT base w' A' c' (ts.take k ++ (x, 1, d) :: ts.drop k) ∧ Frame (blk A) w w' ∧ ∀ q ∈ blk A', q ∈ blk A ∨ w.heap.size ≤ q
theorem tin_end {d : Int} (h : OwT base w A c ts) (hb : Below w.heap.size w W) (p : Pos (aftS x ts) ts.length k) (hd : U64 d) (hl : ts.length ≤ 8000) (hz : base ≤ w.heap.size) :
  Calls Tryz.prog 282 #[.slice A ts.length c, .int .i64 k, .slice (some ⟨W.heap.size, 0, none⟩) 1 1] (W.alloc (.cells #[.int .i64 x, .int .u64 1, .int .u64 d] 230)) (TinR base A ts x w) := by
 have hb2 := keep1 hb (bn W (.cells #[.int .i64 x, .int .u64 1, .int .u64 d] 230))
 refine (insert_g (j := .t) (base := base) (own_frame (T := []) h (Frame.of_below hb2) fun _ _ => by simp) flatT_one (by omega) p.le (At.new W #[.int .i64 x, .int .u64 1, .int .u64 d] _) rfl (by simp; exact ⟨rfl, rfl, rfl⟩) (fun q hq => by have := (own_blk h q hq).2; have := hb.size; omega) (Nat.le_trans hz hb2.size)).mono ?_
 rintro e w' ⟨A', c', rfl, ho, hF, hB⟩
 refine ⟨k, d, A', c', rfl, p, hd, ?_, (Frame.of_below hb2).trans hF, fun q hq => (hB q hq).imp id (Nat.le_trans hb2.size)⟩
 dsimp only [Sl.ty] at ho
 rw [(flatT_cut ts k).1, (flatT_cut ts k).2] at ho
 unfold OwT
 rw [show (ts.take k ++ (x, 1, d) :: ts.drop k).length = ts.length + 1 by have := p.le; simp; omega, flatT_append]
 rw [List.append_assoc] at ho
 exact ho
set_option maxRecDepth 100000 in
set_option maxHeartbeats 1000000 in
theorem tin_any (h : OwT base w A c ts) (hs : ts.Pairwise fun a b => a.1 ≤ b.1) (hl : ts.length ≤ 8000) (hz : base ≤ w.heap.size) : Calls Tryz.prog 277 #[.slice A ts.length c, .int .i64 x] w (TinR base A ts x w) := by
 have HR := Lib.hid (own_rd h)
 have AF := Lib.hid (after_any (c := c) (x := x) (own_rd h) hs rfl hl)
 have E := Lib.hid fun W k d (hb : Below w.heap.size w W) p (hd : U64 d) => tin_end (x := x) (k := k) h hb p hd hl hz
 obtain ⟨n, hn⟩ : ∃ n, ts.length = n := ⟨_, rfl⟩
 have N := Lib.hid hn
 rw [hn] at AF E hl ⊢
 clear h hs hz hn
 go_enter Tryz.func277, Tryz.ntmps277
 go_wp2_with fail
 refine AF.out.mono ?_
 rintro e w1 ⟨⟨k, rfl, hp⟩, hb⟩
 have P := Lib.hid hp
 have hk := hp.le
 clear hp AF
 have hb1 := keep1 hb (bn w1 (.cells #[.int .i64 x, .int .u64 1, .int .u64 0] 230))
 have aP := At.new w1 #[.int .i64 x, .int .u64 1, .int .u64 0] 230
 by_cases h1 : 0 < k ∧ k < n
 rotate_left
 have d0 : decide (0 < k) = false ∨ decide (0 < k) = true ∧ decide (k < n) = false := by simp; omega
 have hd : U64 0 := by unfold U64; omega
 clear h1 HR
 rcases d0 with d0 | ⟨d0, d1⟩
 iterate 2
  have f1 := aP.three
  go_wp2_with fail
  have hW : (w1.alloc (.cells #[.int .i64 x, .int .u64 1, .int .u64 0] 230)).heap.size = w1.heap.size + 1 := by simp
  rw [← hW]
  rotate_left
 obtain ⟨hk0, hk1⟩ := h1
 obtain ⟨g, o, rfl, hg, c1, c2, c3⟩ := Rd.at3 HR.out (j := k) (by have := N.out; omega)
 have k0 : (0 : Int) ≤ k := by omega
 have k1 : (k : Int) < n := by omega
 have d0 : decide (0 < k) = true := decide_eq_true hk0
 have gW := Nat.lt_of_lt_of_le hg hb1.size
 replace c2 := cellB hb1 hg c2
 replace c3 := cellB hb1 hg c3
 have hkl : k < ts.length := by have := N.out; omega
 obtain ⟨v1, e1⟩ : ∃ z, IntKind.u64.wrap ((ts[k]'hkl).2.1 + (ts[k]'hkl).2.2) = z := ⟨_, rfl⟩
 obtain ⟨v2, e2⟩ : ∃ z, IntKind.u64.wrap (v1 - 1) = z := ⟨_, rfl⟩
 have hd : U64 v2 := e2 ▸ wrapB _
 generalize ts[k].2.1 = y1 at *
 generalize ts[k].2.2 = y2 at *
 clear c1 hkl hk0 hk1 HR
 go_upto_region 4 with fail
 generalize w1.alloc _ = W at *
 generalize hB : w1.heap.size = B at *
 have f1 := aP.three
 have l1 := aP.lt
 focus go_region
 have s := (aP.set_any 2 (.int .u64 v2) rfl).drew
 replace hb1 := (hb1.setCell (p := ⟨B, 2, none⟩) (by have := hb.size; simp; omega) (.int .u64 v2)).drew
 clear f1 l1 c2 c3 gW aP e1 e2
 generalize (W.setCell _ _).drew = W at *
 have f1 := s.three
 have l1 := s.lt
 focus go_wp2_with fail
 rotate_right
 all_goals
  have R := E.out _ k _ hb1 P.out hd
  clear E
  refine R.mono ?_
  rintro e w' ⟨k', d', A', c', rfl, r⟩
  have R : Hid (TinR base _ ts x w _ w') := ⟨k', d', A', c', rfl, r⟩
  go_wp2
  go_ret
  exact R.out
end
end Go.Proofs.YtlbnlmhcpephbaaGreatDoor

namespace Go.Proofs.YtlbnlmhcpephbaaGreatDoor
open Go.RowKit
section
variable {w w' W : World} {b c n' k base g : Nat} {A : Option Addr} {x q u v n lo hi L : Int} {ts us qs : List Tu} {T : List Nat}
def TqJ (base : Nat) (A : Option Addr) (c : Nat) (n lo hi : Int) (w W : World) (qs : List Tu) : Prop := OwT base W A c qs ∧ TuS qs n ∧ EnV (vT qs) lo hi ∧ Frame (blk A) w W
def TsqR (base : Nat) (A : Option Addr) (c : Nat) (n lo hi : Int) (w : World) (e : Ending) (w' : World) : Prop := ∃ qs, e = .returned (.slice A qs.length c) ∧ TqJ base A c n lo hi w w' qs
theorem TqJ.below (h : TqJ base A c n lo hi w W qs) (hb : Below W.heap.size W w') : TqJ base A c n lo hi w w' qs :=
 ⟨own_frame (T := []) h.1 (Frame.of_below hb) (fun _ _ => by simp), h.2.1, h.2.2.1, h.2.2.2.trans (Frame.of_below hb)⟩
theorem TqJ.del (h : TqJ base (some ⟨g, 0, none⟩) c n lo hi w W qs) (h0 : 0 < k) (hk : k + 1 < qs.length) (hl : qs.length ≤ 8000) (hb : Below W.heap.size W w') :
  Calls Tryz.prog 283 #[.slice (some ⟨g, 0, none⟩) qs.length c, .int .i64 k, .int .i64 (k + 1 : Nat)] (w'.setCell ⟨g, (k + 1) * 3 + 1, none⟩ (.int .u64 (qs[k].2.1 + qs[k + 1].2.1))).drew
   fun e w2 => ∃ ps, ps.length + 1 = qs.length ∧ e = .returned (.slice (some ⟨g, 0, none⟩) (qs.length - 1) c) ∧ TqJ base (some ⟨g, 0, none⟩) c n lo hi w w2 ps := by
 obtain ⟨ho, hs, he, hf⟩ := h.below hb
 have s1 := List.take_append_drop k qs
 rw [List.drop_eq_getElem_cons (by omega), List.drop_eq_getElem_cons (by omega)] at s1
 generalize hx : qs[k] = a at *
 generalize hy : qs[k + 1] = b at *
 rw [← s1] at hs he
 obtain ⟨t1, _, t3⟩ := hs.into (fun e => by have := congrArg List.length e; rw [List.length_take] at this; simp only [List.length_nil] at this; omega)
 have o1 := own_setCell ho (o := (k + 1) * 3 + 1) (by omega) (.int .u64 (a.2.1 + b.2.1))
 unfold flatT at o1
 rw [← flat_set (f := fun x : Tu => [.int .i64 x.1, .int .u64 x.2.1, .int .u64 x.2.2]) (fun _ => rfl) (y := (b.1, a.2.1 + b.2.1, b.2.2)) (d := 1) (by decide) qs (k + 1) hk (by simp [hy])] at o1
 have l1 : (qs.set (k + 1) (b.1, a.2.1 + b.2.1, b.2.2)).length = qs.length := List.length_set
 have DEL := delete_g (j := .t) (i := k) (q := k + 1) (own_frame (T := []) o1 (Frame.of_below (Below.refl _ _).drew) fun _ _ => by simp) flatT_one (by omega) (by omega) (by omega)
 refine DEL.mono ?_
 rintro e w2 ⟨rfl, o2, f2⟩
 refine ⟨qs.take k ++ (b.1, a.2.1 + b.2.1, b.2.2) :: qs.drop (k + 2), by simp; omega, by rw [Nat.add_sub_cancel_left], ?_, t1, t3 he, hf.trans ((Frame.set _ _ _ _ _ (by simp [blk])).drew.trans f2)⟩
 dsimp only [Sl.ty] at o2
 change World.ownsRow _ _ _ _ _ _ ((flatT _).take _ ++ (flatT _).drop _) at o2
 rw [(flatT_cut _ k).1, (flatT_cut _ (k + 1)).2, ← flatT_append, Nat.add_sub_cancel_left] at o2
 rw [List.take_set_of_le (by omega), List.drop_set, if_neg (by omega), Nat.sub_self, List.drop_eq_getElem_cons hk, List.set_cons_zero] at o2
 unfold OwT
 rw [show (qs.take k ++ (b.1, a.2.1 + b.2.1, b.2.2) :: qs.drop (k + 2)).length = qs.length - 1 by simp; omega]
 exact o2
set_option maxRecDepth 100000 in
set_option maxHeartbeats 1000000 in
theorem tsq_any (h : OwT base w A c ts) (g : TuS ts n) (e : EnV (vT ts) lo hi) (hn : n ≤ 8000) : Calls Tryz.prog 278 #[.slice A ts.length c, .int .u64 L] w (TsqR base A c n lo hi w) := by
 have J0 : Hid (TqJ base A c n lo hi w w ts) := ⟨h, g, e, Frame.refl _ _⟩
 obtain ⟨m, hm⟩ : ∃ m, ts.length = m := ⟨_, rfl⟩
 have HM := Lib.hid hm
 have m8 : m ≤ 8000 := by have := g.len; omega
 rw [hm]
 have v0 : IntKind.i64.wrap ((m : Int) - 2) = m - 2 := by simp only [IntKind.wrap_i64]; omega
 clear h g e hm
 go_enter Tryz.func278, Tryz.ntmps278
 go_wp2
 refine wp_scope_again 0 (fun a' w' => ∃ (m : Nat) (i : Int) (qs : List Tu) (l : List Value), a' = { tmps := (.slice A m c :: .int .u64 L :: undef :: undef :: .slice none 0 0 :: .int .i64 i :: l).toArray, defers := [] } ∧ l.length = 46 ∧ qs.length = m ∧ i + 2 ≤ m ∧ -2 ≤ i ∧ Hid (TqJ base A c n lo hi w w' qs)) (fun a' _ => (intOf (a'.tmps.getD 5 undef) + 2).toNat) rfl ?_ ?_
 ·clear v0 m8 HM J0
  rintro a' w0 ⟨m, i, qs, l, rfl, hll, hm, hh, hh2, J⟩
  revert hll
  revert l
  refine curryY_elim ?_
  dsimp only [CurryY]
  intros
  have HM := Lib.hid hm
  have m8 : m ≤ 8000 := by have := J.out.2.1.len; omega
  clear hm
  by_cases h1 : i < 1
  ·have R : Hid (TsqR base A c n lo hi w (.returned (.slice A m c)) w0) := ⟨qs, by rw [HM.out], J.out⟩
   go_wp2
   simp only [Exit.jump]
   go_ret
   exact R.out
  obtain ⟨k, rfl⟩ : ∃ k : Nat, i = k := ⟨i.toNat, by omega⟩
  have hk : k + 1 < m := by omega
  obtain ⟨g, rfl⟩ := (own_nil J.out.1).2.2 (.inl (by have := HM.out; omega))
  have hk1 : k + 1 < qs.length := by have := HM.out; omega
  obtain ⟨g', o, e', hg, b1, c1, b2⟩ := (own_rd J.out.1).at3 (j := k) (by omega)
  cases e'
  obtain ⟨g', o, e', b3, d0, d1, d2⟩ := (own_rd J.out.1).at3 hk1
  cases e'
  rw [Nat.zero_add] at c1 d0 d1 d2
  have k0 : (0 : Int) ≤ k := by omega
  have k1 : (k : Int) < m := by omega
  have k2 : IntKind.i64.wrap ((k : Int) + 1) = ((k + 1 : Nat) : Int) := by simp only [IntKind.wrap_i64]; omega
  have k3 : (0 : Int) ≤ ((k + 1 : Nat) : Int) := by omega
  have k4 : ((k + 1 : Nat) : Int) < m := by omega
  have k5 : IntKind.i64.wrap ((k : Int) - 1) = k - 1 := by simp only [IntKind.wrap_i64]; omega
  have sp := List.take_append_drop k qs
  rw [List.drop_eq_getElem_cons (by omega), List.drop_eq_getElem_cons (by omega)] at sp
  have BD := J.out.2.1
  rw [← sp] at BD
  have bd := (BD.into (lo := lo) (hi := hi) (fun e => by have := congrArg List.length e; rw [List.length_take] at this; simp only [List.length_nil] at this; omega)).2.1
  have p1 := BD.pos qs[k] (by simp)
  have p2 := BD.pos qs[k + 1] (by simp)
  have n8 : n ≤ 8000 := hn
  have D := Lib.hid fun w' hb => J.out.del (w' := w') (k := k) (by omega) hk1 (by have := HM.out; omega) hb
  generalize qs[k].2.1 = s1 at *
  generalize qs[k + 1].1 = y2 at *
  generalize qs[k + 1].2.1 = s2 at *
  generalize qs[k + 1].2.2 = l2 at *
  rw [HM.out] at D
  have v1 : IntKind.u64.wrap (s1 + s2) = s1 + s2 := by simp only [IntKind.wrap_u64]; omega
  have v3 : IntKind.u64.wrap (s2 + s1) = s1 + s2 := by simp only [IntKind.wrap_u64]; omega
  obtain ⟨z, v2⟩ : ∃ z, IntKind.u64.wrap (s1 + s2 + l2) = z := ⟨_, rfl⟩
  clear BD sp b1 b2 b3 hk1 hk bd p1 p2 n8
  have bx := bn w0 (.cells #[.int .i64 y2, .int .u64 s2, .int .u64 l2] 230)
  have aB := At.new w0 #[.int .i64 y2, .int .u64 s2, .int .u64 l2] 230
  go_upto_region 5 with fail
  generalize w0.alloc _ = W1 at *
  generalize hB : w0.heap.size = B at *
  have e1 := cellB bx (hB ▸ hg) c1
  have e2 := cellB bx (hB ▸ hg) d1
  have gW : g < W1.heap.size := by have := bx.size; omega
  have f1 := aB.three
  have l1 := aB.lt
  go_region
  subst hB
  replace bx := keep1 bx (Below.refl W1.heap.size W1).drew
  replace e1 : W1.drew.cell? ⟨g, k * 3 + 1, none⟩ = _ := e1
  replace e2 : W1.drew.cell? ⟨g, (k + 1) * 3 + 1, none⟩ = _ := e2
  replace gW : g < W1.drew.heap.size := gW
  clear f1 l1 v1 v2 aB c1 d0 d1 d2
  generalize W1.drew = W2 at *
  by_cases hle : z ≤ L
  ·have fz := own_frz (J.out.below bx).1 ((k + 1) * 3 + 1)
   have D := Lib.hid (D.out _ bx)
   go_upto_region 6 with fail
   focus go_region
   clear e1 e2 fz v3 gW
   generalize (W2.setCell _ _).drew = W3 at *
   go_wp2_with fail
   refine D.out.mono ?_
   rintro e w5 ⟨ps, hl, rfl, J5⟩
   have J5 := Lib.hid J5
   clear D
   go_wp2
   go_step3
   refine ⟨rfl, ?_, ?_⟩
   ·exact ⟨m - 1, (k : Int) - 1, ps, _, rfl, rfl, by omega, by omega, by omega, J5⟩
   ·simp [intOf]; omega
  ·have J5 := Lib.hid (J.out.below bx)
   clear D e1 e2 gW v3
   go_wp2
   go_step3
   refine ⟨rfl, ?_, ?_⟩
   ·exact ⟨m, (k : Int) - 1, qs, _, rfl, rfl, HM.out, by omega, by omega, J5⟩
   ·simp [intOf]; omega
 ·intro hpass
  go_wp2
  refine wp_label ?_
  rename_i K0 hK0
  exact hK0 _ _ (hpass _ _ ⟨m, (m : Int) - 2, ts, _, rfl, rfl, HM.out, by omega, by omega, J0⟩)
end
end Go.Proofs.YtlbnlmhcpephbaaGreatDoor

namespace Go.Proofs.YtlbnlmhcpephbaaGreatDoor
open Go.RowKit
section
variable {w w' W : World} {c c2 k m base bb : Nat} {A B : Option Addr} {x q v n : Int} {ts us qs : List Tu} {f : FuncId} {t : Tu}
def PosR (m : Nat) (w : World) (e : Ending) (w' : World) : Prop := (∃ k : Nat, e = .returned (.int .i64 k) ∧ k ≤ m) ∧ Below w.heap.size w w'
theorem clo_in (x s l q : Int) (w : World) : Calls Tryz.prog 316 #[.agg #[.int .i64 x, .int .u64 s, .int .u64 l], .int .i64 q] w fun e w' => e = .returned (.int .i64 (if decide (q ≤ x) then 1 else -1)) ∧ Below w.heap.size w w' := by
 by_cases h : q ≤ x
 all_goals
  simp only [h, decide_true, decide_false, if_true, if_false, Bool.false_eq_true]
  go_enter Tryz.func316, Tryz.ntmps316
  go_wp2
  go_ret
  exact ⟨rfl, (by repeat (first | with_reducible assumption | with_reducible exact Below.refl _ _ | with_reducible refine Below.drew ?_ | with_reducible refine Below.drewN ?_ _ | with_reducible refine Below.setCell ?_ (by first | omega | (simp; done) | (simp; omega)) _ | with_reducible refine Below.alloc ?_ (by first | omega | (simp; done) | (simp; omega) | (simp [World.setCell]; omega)) _))⟩
theorem clo1 (hb : At w bb #[.slice B m c] 170) (h : Rd w B (flatT qs)) (hs : qs.Pairwise fun a b => a.1 ≤ b.1) (hm : qs.length = m) (hl : m ≤ 8000) : Calls Tryz.prog 315 #[.int .i64 x, .pointer (some ⟨bb, 0, none⟩)] w (PosR m w) := by
 have H := Lib.hid (bst_any (c := c) (f := 316) (p := fun y => decide (x ≤ y)) h hs (fun a b h e => by simp at e ⊢; omega) (fun _ _ => by kernel_rfl) (fun y s l W => clo_in y s l x W) hm hl)
 have f1 := hb.one
 clear h hs hb
 go_enter Tryz.func315, Tryz.ntmps315
 go_wp2_with fail
 refine H.out.mono ?_
 rintro e w1 ⟨⟨k, f, rfl, hp, _⟩, hB⟩
 have R := hp.le
 clear H hp
 go_wp2
 go_ret
 exact ⟨⟨k, rfl, R⟩, hB⟩
theorem clo2 (hb : At w bb #[.slice B m c] 170) (h : Rd w B (flatT qs)) (hs : qs.Pairwise fun a b => a.1 ≤ b.1) (hm : qs.length = m) (hl : m ≤ 8000) : Calls Tryz.prog 317 #[.int .i64 x, .pointer (some ⟨bb, 0, none⟩)] w (PosR m w) := by
 have H := Lib.hid (after_any (c := c) (x := x) h hs hm hl)
 have f1 := hb.one
 clear h hs hb
 go_enter Tryz.func317, Tryz.ntmps317
 go_wp2_with fail
 refine H.out.mono ?_
 rintro e w1 ⟨⟨k, rfl, hp⟩, hB⟩
 have R := hp.le
 clear H hp
 go_wp2
 go_ret
 exact ⟨⟨k, rfl, R⟩, hB⟩
theorem app_t {x y z : Int} (h : OwT base w A c us) (hl : us.length ≤ 16000) (hz : base ≤ w.heap.size) (h' : Below w.heap.size w W) :
  ∃ A' c' w', (Builtin.append_ #[170, 170] 170 #[.slice A us.length c, .slice (some ⟨W.heap.size, 0, none⟩) 1 1]).run Tryz.prog (W.alloc (.cells #[.int .i64 x, .int .u64 y, .int .u64 z] 230)) = .ok (.slice A' (us.length + 1) c') w' ∧ OwT base w' A' c' (us ++ [(x, y, z)]) ∧ Frame (blk A) W w' ∧ ∀ k ∈ blk A', k ∈ blk A ∨ w.heap.size ≤ k := by
 have hb2 := keep1 h' (bn W (.cells #[.int .i64 x, .int .u64 y, .int .u64 z] 230))
 have aN := At.new W #[.int .i64 x, .int .u64 y, .int .u64 z] 230
 obtain ⟨A', c', w', hr, ho, hf, hk⟩ := run_app_g (t := Sl.ty .t) (ys := [.int .i64 x, .int .u64 y, .int .u64 z]) (m := 1) (cy := 1) (Y := some ⟨W.heap.size, 0, none⟩) (Sl.ok .t) (own_frame (T := []) h (Frame.of_below hb2) fun _ _ => by simp) rfl
  (fun j u hu => ⟨_, 0, rfl, aN.lt, by rw [Nat.zero_add]; exact aN.cell (by simpa using hu)⟩) (by simp) (by intro u hu; simp at hu; rcases hu with rfl | rfl | rfl <;> rfl) (by omega) (Nat.le_trans hz hb2.size)
 refine ⟨A', c', w', hr, ?_, (Frame.of_below (bn _ _)).trans hf, fun k hk' => (hk k hk').imp id (Nat.le_trans hb2.size)⟩
 unfold OwT
 rw [flatT_append, List.length_append]
 exact ho
theorem SaT.snoc (h : SaT (ts.take k) us) (hk : k < ts.length) (hd : U64 v) : SaT (ts.take (k + 1)) (us ++ [(ts[k].1, ts[k].2.1, v)]) := by
 rw [List.take_succ_eq_append_getElem hk]
 exact ⟨by rw [List.map_append, List.map_append, h.1]; rfl, fun x hx => by simp at hx; rcases hx with hx | rfl; exact h.2 x hx; exact hd⟩
def PrtR (ts : List Tu) (w : World) (e : Ending) (w' : World) : Prop := ∃ A' c' us, e = .returned (.slice A' us.length c') ∧ OwT w.heap.size w' A' c' us ∧ SaT ts us ∧ Below w.heap.size w w'
set_option maxRecDepth 100000 in
set_option maxHeartbeats 1000000 in
theorem part_any (h : Rd w A (flatT ts)) (h2 : Rd w B (flatT qs)) (hn : ts.length = k) (hm : qs.length = m) (hl : k ≤ 8000) (hl2 : m ≤ 8000) (hd : ∀ x ∈ ts, U64 x.2.2) (he : ∀ args w, (callFunc f args).run Tryz.prog w = .ok (.enter f args) w)
  (hf : ∀ x W, Below w.heap.size w W → Calls Tryz.prog f #[.int .i64 x, .pointer (some ⟨bb, 0, none⟩)] W (PosR m W)) : Calls Tryz.prog 314 #[.slice A k c, .slice B m c2, .func (.func f) #[] #[.pointer (some ⟨bb, 0, none⟩)]] w (PrtR ts w) := by
 have H1 := Lib.hid h
 have H2 := Lib.hid h2
 have HD := Lib.hid hd
 have HF := Lib.hid hf
 have HN := Lib.hid (And.intro hn hm)
 clear h h2 hd hf hn hm
 go_enter Tryz.func314, Tryz.ntmps314
 go_wp2
 go_loopw [7, 9, 10, 13] (fun o _ _ i wr => ∃ (j : Nat) (A' : Option Addr) (c' : Nat) (us : List Tu), j ≤ k ∧ i = .int .i64 j ∧ o = .slice A' j c' ∧ us.length = j ∧ Hid (OwT w.heap.size wr A' c' us ∧ SaT (ts.take j) us ∧ Below w.heap.size w wr)) (fun _ _ _ i _ => k - (intOf i).toNat)
 case atStart => exact ⟨0, none, 0, [], by omega, rfl, rfl, rfl, ⟨rfl, .inl ⟨rfl, rfl⟩⟩, ⟨rfl, by simp⟩, Below.refl _ _⟩
 case round =>
  obtain ⟨j, A', c', us, hj, rfl, rfl, hu, J⟩ := hrel
  have HU := Lib.hid hu
  clear hu
  by_cases hlt : j < k
  ·have hjl : j < ts.length := by have := HN.out; omega
   obtain ⟨g, o, rfl, hg, d1, d2, d3⟩ := (H1.out.below J.out.2.2).at3 hjl
   have k0 : (0 : Int) ≤ j := by omega
   have k1 : (j : Int) < k := by omega
   have k2 : IntKind.i64.wrap ((j : Int) + 1) = ((j + 1 : Nat) : Int) := by simp only [IntKind.wrap_i64]; omega
   have D := HD.out _ (List.getElem_mem hjl)
   have T := Lib.hid fun v W (hv : U64 v) (hb : Below wr.heap.size wr W) => show ∃ A2 c2 w3, Hid ((Builtin.append_ #[170, 170] 170 #[.slice A' j c', .slice (some ⟨W.heap.size, 0, none⟩) 1 1]).run Tryz.prog (W.alloc (.cells #[.int .i64 ts[j].1, .int .u64 ts[j].2.1, .int .u64 v] 230)) = .ok (.slice A2 (j + 1) c2) w3) ∧ Hid (OwT w.heap.size w3 A2 c2 (us ++ [(ts[j].1, ts[j].2.1, v)]) ∧ SaT (ts.take (j + 1)) (us ++ [(ts[j].1, ts[j].2.1, v)]) ∧ Below w.heap.size w w3) by
    obtain ⟨A2, c2, w3, hr, ho, hf, hk⟩ := app_t (x := ts[j].1) (y := ts[j].2.1) (z := v) J.out.1 (by have := HU.out; omega) J.out.2.2.size hb
    rw [HU.out] at hr
    exact ⟨A2, c2, w3, hr, ho, J.out.2.1.snoc hjl hv, hf.below (keep1 J.out.2.2 hb) (Nat.le_trans J.out.2.2.size hb.size) fun k hk => (own_blk J.out.1 k hk).1⟩
   generalize ts[j].1 = z1 at *
   generalize ts[j].2.1 = z2 at *
   generalize ts[j].2.2 = z3 at *
   have C := Lib.hid (HF.out z1 (wr.alloc (.cells #[.int .i64 z1, .int .u64 z2, .int .u64 z3] 230)) (keep1 J.out.2.2 (bn _ _)))
   have bx := bn wr (.cells #[.int .i64 z1, .int .u64 z2, .int .u64 z3] 230)
   have aB := At.new wr #[.int .i64 z1, .int .u64 z2, .int .u64 z3] 230
   clear hjl H1
   go_wp2_with fail
   refine C.out.mono ?_
   rintro e w2 ⟨⟨p, rfl, hp⟩, hb⟩
   replace bx := keep1 bx hb
   replace aB := aB.below hb
   clear C d1 d2 d3 hb
   by_cases h1 : p < m
   have hpl : p < qs.length := by have := HN.out; omega
   obtain ⟨g2, o2, rfl, hg2, d1, d2, d3⟩ := (H2.out.below (keep1 J.out.2.2 bx)).at3 hpl
   have j0 : (0 : Int) ≤ p := by omega
   have j1 : (p : Int) < m := by omega
   have d0 : decide (p < m) = true := decide_eq_true h1
   obtain ⟨v1, e1⟩ : ∃ z, IntKind.u64.wrap ((qs[p]'hpl).2.1 + (qs[p]'hpl).2.2) = z := ⟨_, rfl⟩
   obtain ⟨v2, e2⟩ : ∃ z, IntKind.u64.wrap (v1 - 1) = z := ⟨_, rfl⟩
   obtain ⟨v3, e3⟩ : ∃ z, IntKind.u64.wrap (z3 + v2) = z := ⟨_, rfl⟩
   have hv : U64 v3 := e3 ▸ wrapB _
   have hg3 : wr.heap.size < w2.heap.size := aB.lt
   generalize qs[p].2.1 = y1 at *
   generalize qs[p].2.2 = y2 at *
   clear d1 hpl H2 D h1 hp
   have f1 := aB.three
   have l1 := aB.lt
   focus go_upto_region 7 with fail
   focus go_region
   have s := (aB.set_any 2 (.int .u64 v3) rfl).drew
   have hb := (bx.setCell (p := ⟨wr.heap.size, 2, none⟩) (by simp) (.int .u64 v3)).drew
   clear f1 l1 d2 d3 aB bx e1 e2 e3
   generalize (w2.setCell _ _).drew = W at *
   rotate_left
   have s := aB
   have hb := bx
   have hv := D
   have d0 : decide (p < m) = false := decide_eq_false h1
   clear aB bx D HF H2 h1 hp
   all_goals
    have f1 := s.three
    have l1 := s.lt
    obtain ⟨A2, c2, w3, hr, J2⟩ := T.out _ _ hv hb
    have l2 : us.length + 1 = j + 1 := by rw [HU.out]
    clear T J s hb hv HU
    go_wp2_with (at_builtin; refine Lib.wpList_append_run _ rfl _ _ _ _ rfl _ _ rfl rfl _ _ hr.out ?_)
    go_roundw
    case rel => exact ⟨j + 1, A2, c2, _, by omega, rfl, rfl, by rw [List.length_append]; exact l2, J2⟩
    case measure => simp [intOf]; omega
  ·obtain rfl : j = k := by omega
   have R : Hid (PrtR ts w (.returned (.slice A' j c')) wr) := ⟨A', c', us, by rw [HU.out], J.out.1, by have := J.out.2.1; rwa [List.take_of_length_le (by have := HN.out; omega)] at this, J.out.2.2⟩
   clear J HD HF
   go_wp2
   go_ret
   exact R.out
end
end Go.Proofs.YtlbnlmhcpephbaaGreatDoor

namespace Go.Proofs.YtlbnlmhcpephbaaGreatDoor
open Go.RowKit
def C3 (g o : Nat) (x : Tu) (W : World) : Prop := W.cell? ⟨g, o, none⟩ = some (.int .i64 x.1) ∧ W.cell? ⟨g, o + 1, none⟩ = some (.int .u64 x.2.1) ∧ W.cell? ⟨g, o + 2, none⟩ = some (.int .u64 x.2.2)
def lenOfV : Value → Nat
 | .slice _ n _ => n
 | _ => 0
section
variable {w w' W : World} {c c2 n m k base bb : Nat} {A B : Option Addr} {x q v : Int} {ts us qs : List Tu} {f : FuncId} {t : Tu} {g o : Nat}
theorem C3.out (h : C3 g o t W) : W.cell? ⟨g, o, none⟩ = some (.int .i64 t.1) ∧ W.cell? ⟨g, o + 1, none⟩ = some (.int .u64 t.2.1) ∧ W.cell? ⟨g, o + 2, none⟩ = some (.int .u64 t.2.2) := h
theorem SaT.len (h : SaT ts us) : us.length = ts.length := by have := congrArg List.length h.1; simpa using this
theorem rd_head (h : Rd w A (flatT (t :: ts))) : ∃ g o, A = some ⟨g, o, none⟩ ∧ g < w.heap.size ∧ (∀ W, Below w.heap.size w W → C3 g o t W) ∧ Rd w (some ⟨g, o + 3, none⟩) (flatT ts) := by
 obtain ⟨g, o, rfl, hg, c1, c2, c3⟩ := h.at3 (j := 0) (by simp)
 rw [Nat.zero_mul, Nat.add_zero] at c1 c2 c3
 refine ⟨g, o, rfl, hg, fun W hb => ⟨cellB hb hg c1, cellB hb hg c2, cellB hb hg c3⟩, fun j u hj => ?_⟩
 obtain ⟨g', o', e, hg, hc⟩ := h (j + 3) u (by simpa [flatT] using hj)
 cases e
 exact ⟨g, o + 3, rfl, hg, by rw [← hc]; congr 2; omega⟩
def MtJ (us vs : List Tu) (w1 W : World) (A1 A2 A' : Option Addr) (c' : Nat) (F S O : List Tu) : Prop := Rd w1 A1 (flatT F) ∧ Rd w1 A2 (flatT S) ∧ OwT w1.heap.size W A' c' O ∧ Below w1.heap.size w1 W ∧ MgT us vs O F S
def MgR (us vs : List Tu) (w : World) (e : Ending) (w' : World) : Prop := ∃ A' c' ts, e = .returned (.slice A' ts.length c') ∧ OwT w.heap.size w' A' c' ts ∧ TuS ts (sumT us + sumT vs) ∧ (∀ v, v ∈ vT ts ↔ v ∈ vT us ∨ v ∈ vT vs) ∧ Below w.heap.size w w'
set_option maxRecDepth 100000 in
set_option maxHeartbeats 1000000 in
theorem tmg_any {N M : Int} (h : Rd w A (flatT ts)) (h2 : Rd w B (flatT qs)) (s1 : TuS ts N) (s2 : TuS qs M) (hn : ts.length = n) (hm : qs.length = m) (hl : n ≤ 8000) (hl2 : m ≤ 8000) :
    Calls Tryz.prog 312 #[.slice A n c, .slice B m c2] w (MgR ts qs w) := by
  have P1 := Lib.hid fun W bb (hB : Below w.heap.size w W) (hbb : At W bb #[.slice B m c2] 170) => part_any (c := c) (c2 := c2) (bb := bb) (f := 315) (h.below hB) (h2.below hB) hn hm hl hl2 (fun x hx => (s1.pos x hx).2.2) (fun _ _ => by kernel_rfl)
    fun x V hV => clo1 (hbb.below hV) ((h2.below hB).below hV) s2.srt hm hl2
  have P2 := Lib.hid fun W bb (hB : Below w.heap.size w W) (hbb : At W bb #[.slice A n c] 170) => part_any (c := c2) (c2 := c) (bb := bb) (f := 317) (h2.below hB) (h.below hB) hm hn hl2 hl (fun x hx => (s2.pos x hx).2.2) (fun _ _ => by kernel_rfl)
    fun x V hV => clo2 (hbb.below hV) ((h.below hB).below hV) s1.srt hn hl
  have FIN : Hid (∀ us vs, SaT ts us → SaT qs vs → us.length = n ∧ vs.length = m ∧ TuS us N ∧ TuS vs M ∧ sumT us + sumT vs = sumT ts + sumT qs ∧ vT us = vT ts ∧ vT vs = vT qs) := fun us vs a b => ⟨by rw [← hn]; have := congrArg List.length a.1; simpa using this, by rw [← hm]; have := congrArg List.length b.1; simpa using this, a.s s1, b.s s2, by rw [(a.s s1).sum, (b.s s2).sum, s1.sum, s2.sum], a.v, b.v⟩
  have LL := Lib.hid (And.intro hn hm)
  clear h h2 s1 s2 hn hm
  obtain ⟨h0, hh0⟩ : ∃ h0, w.heap.size = h0 := ⟨_, rfl⟩
  have a0 := At.new' w #[.slice A n c] 170 hh0.symm
  have a1 := At.new' (w.alloc (.cells #[.slice A n c] 170)) #[.slice B m c2] 170 (b := h0 + 1) (by simp [hh0])
  replace a0 := a0.alloc (.cells #[.slice B m c2] 170)
  have f0 := a0.one
  have f1 := a1.one
  have bA : Below w.heap.size w ((w.alloc (.cells #[.slice A n c] 170)).alloc (.cells #[.slice B m c2] 170)) := keep1 (bn _ _) (bn _ _)
  have C := Lib.hid (P1.out _ (h0 + 1) bA a1)
  go_enter Tryz.func312, Tryz.ntmps312
  go_wp2_with fail
  refine C.out.mono ?_
  rintro e w1 ⟨A1, c1, us, rfl, o1, sa1, hb1⟩
  replace a0 := a0.below hb1
  replace a1 := a1.below hb1
  replace bA := keep1 bA hb1
  replace f0 := a0.one
  replace f1 := a1.one
  clear C P1 hb1
  have C := Lib.hid (P2.out _ h0 bA a0)
  have O1 := Lib.hid (And.intro o1 sa1)
  clear o1 sa1
  rw [O1.out.2.len, LL.out.1]
  go_wp2_with fail
  refine C.out.mono ?_
  rintro e w2 ⟨A2, c2', vs, rfl, o2, sa2, hb2⟩
  rw [sa2.len, LL.out.2]
  have FF := Lib.hid (FIN.out us vs O1.out.2 sa2)
  have J0 : Hid (MtJ us vs w2 w2 A1 A2 none 0 us vs []) := ⟨own_rd (own_frame (T := []) O1.out.1 (Frame.of_below hb2) fun _ _ => by simp), own_rd o2, ⟨rfl, .inl ⟨rfl, rfl⟩⟩, Below.refl _ _, .start FF.out.2.2.1 FF.out.2.2.2.1⟩
  have BA := Lib.hid (keep1 bA hb2)
  have q1 := (own_nil O1.out.1).1
  have q2 := (own_nil o2).1
  rw [FF.out.1] at q1
  rw [FF.out.2.1] at q2
  have R : Hid (∀ A1 A2 A' c' O W, MtJ us vs w2 W A1 A2 A' c' [] [] O → O.length = n + m → MgR ts qs w (.returned (.slice A' (n + m) c')) W) := fun A1 A2 A' c' O W h hl => ⟨A', c', O, by rw [hl], ⟨h.2.2.1.1, h.2.2.1.2.imp id fun ⟨g, cp, cur, e, a, r⟩ => ⟨g, cp, cur, e, Nat.le_trans BA.out.size a, r⟩⟩, by rw [← FF.out.2.2.2.2.1]; exact h.2.2.2.2.done.1, by rw [← FF.out.2.2.2.2.2.1, ← FF.out.2.2.2.2.2.2]; exact h.2.2.2.2.done.2, keep1 BA.out h.2.2.2.1⟩
  clear a0 a1 f0 f1 hb2 o2 sa2 O1 C P2 bA hh0 FIN
  go_wp2
  go_loopw [5, 6, 7] (fun f s o wr => ∃ (F S O : List Tu) (A1 A2 A' : Option Addr) (c1 c2 c' n1 n2 k : Nat), f = .slice A1 n1 c1 ∧ s = .slice A2 n2 c2 ∧ o = .slice A' k c' ∧ n1 ≤ c1 ∧ n2 ≤ c2 ∧ k + n1 + n2 = n + m ∧ Hid (F.length = n1 ∧ S.length = n2 ∧ O.length = k) ∧ Hid (MtJ us vs w2 wr A1 A2 A' c' F S O)) (fun f s _ _ => lenOfV f + lenOfV s)
  case atStart => exact ⟨us, vs, [], A1, A2, none, c1, c2', 0, n, m, 0, rfl, rfl, rfl, q1, q2, by omega, ⟨FF.out.1, FF.out.2.1, rfl⟩, J0⟩
  case round =>
    clear q1 q2 J0
    obtain ⟨F, S, O, A1, A2, A', c1, c2, c', n1, n2, k, rfl, rfl, rfl, hc1, hc2, hk, HL, J⟩ := hrel
    by_cases hz : n1 = 0 ∧ n2 = 0
    · obtain ⟨rfl, rfl⟩ := hz
      obtain rfl : F = [] := List.eq_nil_of_length_eq_zero HL.out.1
      obtain rfl : S = [] := List.eq_nil_of_length_eq_zero HL.out.2.1
      obtain rfl : k = n + m := by omega
      have R := Lib.hid (R.out _ _ _ _ _ _ J.out HL.out.2.2)
      clear J FF
      go_wp2
      go_ret
      exact R.out
    have way : (∃ x L, F = x :: L ∧ ∀ y ∈ S.head?, x.1 ≤ y.1) ∨ (∃ x L, S = x :: L ∧ ∀ y ∈ F.head?, x.1 < y.1) := by
      have := HL.out
      cases F with
      | nil => cases S with
        | nil => simp at this; omega
        | cons y S => exact .inr ⟨y, S, rfl, by simp⟩
      | cons x F => cases S with
        | nil => exact .inl ⟨x, F, rfl, by simp⟩
        | cons y S => by_cases h : x.1 ≤ y.1
                      · exact .inl ⟨x, F, rfl, by simpa using h⟩
                      · exact .inr ⟨y, S, rfl, by simpa using h⟩
    rcases way with ⟨x, L, rfl, hx⟩ | ⟨x, L, rfl, hx⟩
    obtain ⟨g, o, rfl, hg, C, RT⟩ := rd_head J.out.1
    have J2 : Hid (∀ AX A9 c9 W', (AX = some ⟨g, o + 3, none⟩ ∨ L = []) → OwT w2.heap.size W' A9 c9 (O ++ [x]) → Below w2.heap.size w2 W' → MtJ us vs w2 W' AX A2 A9 c9 L S (O ++ [x])) := fun AX A9 c9 W' h ho hb => ⟨h.elim (fun e => e ▸ RT) fun e => e ▸ Rd.nil _ _, J.out.2.1, ho, hb, J.out.2.2.2.2.fst hx⟩
    have hl : L.length + 1 = n1 := by have := HL.out; simp at this; omega
    have HO := Lib.hid (And.intro HL.out.2.2 hl)
    have p1 : decide (0 < n1) = true := by simp; omega
    have q1 : 1 ≤ n1 := by omega
    have q1' : (1 : Int) ≤ n1 := by omega
    have j1 : (0 : Int) < n1 := by omega
    have q2 : 1 ≤ c1 := by omega
    have q3 : n1 ≤ c1 := by assumption
    have q4 : c1 = 1 ∧ n1 = 1 ∧ Hid (L = []) ∨ ¬ (1 = c1) := by
      by_cases h : 1 = c1
      · exact .inl ⟨h.symm, by omega, List.eq_nil_of_length_eq_zero (by omega)⟩
      · exact .inr h
    have e0 := C wr J.out.2.2.2.1
    have e1 := e0.1
    have gW := Nat.lt_of_lt_of_le hg J.out.2.2.2.1.size
    clear hl RT e0
    rcases S with _ | ⟨y, S⟩
    obtain rfl : n2 = 0 := HL.out.2.1.symm
    focus
      go_upto_region 5 with fail
      have hfa1 := fun x : Far wr => x.cell gW e1
      try have hfa2 := fun x : Far wr => x.cell gW2 e2
      refine wp_region_far (by kernel_rfl) (by kernel_rfl) ?_
      repeat go_big_quiet_step (first | fail)
      refine wpQuiet_nil ?_
      rintro _ ⟨xq, rfl⟩
      have bX := xq.below
      generalize xq.far = W1 at *
      clear xq hfa1
    rotate_left
    have d0 : ((n2 : Int) == 0) = false := by have := HL.out.2.1; simp at this ⊢; omega
    have p3 : (0 : Int) < n2 := by have := HL.out.2.1; simp at this ⊢; omega
    obtain ⟨g2, o2, rfl, hg2, C2, _⟩ := rd_head J.out.2.1
    have e2 := (C2 wr J.out.2.2.2.1).1
    have gW2 := Nat.lt_of_lt_of_le hg2 J.out.2.2.2.1.size
    have d1 : decide (x.1 ≤ y.1) = true := decide_eq_true (hx y rfl)
    focus
      go_upto_region 5 with fail
      have hfa1 := fun x : Far wr => x.cell gW e1
      try have hfa2 := fun x : Far wr => x.cell gW2 e2
      refine wp_region_far (by kernel_rfl) (by kernel_rfl) ?_
      repeat go_big_quiet_step (first | fail)
      refine wpQuiet_nil ?_
      rintro _ ⟨xq, rfl⟩
      have bX := xq.below
      generalize xq.far = W1 at *
      clear xq hfa1
    rotate_left
    obtain ⟨g, o, rfl, hg, C, RT⟩ := rd_head J.out.2.1
    have J2 : Hid (∀ AX A9 c9 W', (AX = some ⟨g, o + 3, none⟩ ∨ L = []) → OwT w2.heap.size W' A9 c9 (O ++ [x]) → Below w2.heap.size w2 W' → MtJ us vs w2 W' A1 AX A9 c9 F L (O ++ [x])) := fun AX A9 c9 W' h ho hb => ⟨J.out.1, h.elim (fun e => e ▸ RT) fun e => e ▸ Rd.nil _ _, ho, hb, (J.out.2.2.2.2.swap.fst fun y hy => Int.le_of_lt (hx y hy)).swap⟩
    have hl : L.length + 1 = n2 := by have := HL.out; simp at this; omega
    have HO := Lib.hid (And.intro HL.out.2.2 hl)
    have p1 : decide (0 < n2) = true := by simp; omega
    have q1 : 1 ≤ n2 := by omega
    have q1' : (1 : Int) ≤ n2 := by omega
    have j1 : (0 : Int) < n2 := by omega
    have q2 : 1 ≤ c2 := by omega
    have q3 : n2 ≤ c2 := by assumption
    have q4 : c2 = 1 ∧ n2 = 1 ∧ Hid (L = []) ∨ ¬ (1 = c2) := by
      by_cases h : 1 = c2
      · exact .inl ⟨h.symm, by omega, List.eq_nil_of_length_eq_zero (by omega)⟩
      · exact .inr h
    have e0 := C wr J.out.2.2.2.1
    have e1 := e0.1
    have gW := Nat.lt_of_lt_of_le hg J.out.2.2.2.1.size
    clear hl RT e0
    have d0 : ((n2 : Int) == 0) = false := by simp; omega
    rcases F with _ | ⟨y, F⟩
    obtain rfl : n1 = 0 := HL.out.1.symm
    focus
      go_upto_region 5 with fail
      have hfa1 := fun x : Far wr => x.cell gW e1
      try have hfa2 := fun x : Far wr => x.cell gW2 e2
      refine wp_region_far (by kernel_rfl) (by kernel_rfl) ?_
      repeat go_big_quiet_step (first | fail)
      refine wpQuiet_nil ?_
      rintro _ ⟨xq, rfl⟩
      have bX := xq.below
      generalize xq.far = W1 at *
      clear xq hfa1
    rotate_left
    have p2 : decide (0 < n1) = true := by have := HL.out.1; simp at this ⊢; omega
    have p3 : (0 : Int) < n1 := by simpa using p2
    obtain ⟨g2, o2, rfl, hg2, C2, _⟩ := rd_head J.out.1
    have e2 := (C2 wr J.out.2.2.2.1).1
    have gW2 := Nat.lt_of_lt_of_le hg2 J.out.2.2.2.1.size
    have d1 : decide (y.1 ≤ x.1) = false := decide_eq_false (by have := hx y rfl; omega)
    focus
      go_upto_region 5 with fail
      have hfa1 := fun x : Far wr => x.cell gW e1
      try have hfa2 := fun x : Far wr => x.cell gW2 e2
      refine wp_region_far (by kernel_rfl) (by kernel_rfl) ?_
      repeat go_big_quiet_step (first | fail)
      refine wpQuiet_nil ?_
      rintro _ ⟨xq, rfl⟩
      have bX := xq.below
      generalize xq.far = W1 at *
      clear xq hfa1
    all_goals
      clear e1 gW hg hx
      try clear d0
      try clear hfa2
      try clear e2 gW2 hg2 C2 d1
      go_wp2
      replace bX := bX.drew
      refine until_h 8 (by kernel_rfl) (HeldS.mk' (C _ (keep1 J.out.2.2.2.1 bX))) (fun hHeld => ?_)
      generalize W1.drew = W3 at *
      have hne := hHeld.ne
      have hneF := heldT W3
      have hf1 := fun z => (hHeld.get z).out
      obtain ⟨A9, c9, w6, hr, ho, hf, -⟩ := app_t (x := x.1) (y := x.2.1) (z := x.2.2) J.out.2.2.1 (by have := HO.out; omega) J.out.2.2.2.1.size bX
      have hT2 := C _ (keep1 (keep1 J.out.2.2.2.1 bX) (bn W3 (.cells #[.int .i64 x.1, .int .u64 x.2.1, .int .u64 x.2.2] 230)))
      have b6 := hf.below (keep1 J.out.2.2.2.1 bX) (Nat.le_trans J.out.2.2.2.1.size bX.size) fun k hk => (own_blk J.out.2.2.1 k hk).1
      have hT6 := C _ b6
      rw [HO.out.1] at hr
      have J6 := Lib.hid fun AX h => J2.out AX A9 c9 w6 h ho b6
      replace hr := Lib.hid hr
      clear ho hf b6 bX J J2 C FF
      rcases q4 with ⟨q4, q5, q6⟩ | q4
      all_goals
        refine runV [3, 3, 2] 5 hHeld ?_
        simp only [runL, runN, runOps_true, runOps_false, runOps_nil]
        repeat go_big_quiet_step (fail)
        refine wpQuiet_nil ?_
        refine runW [0, 3, 1] 4 hHeld ?_
        simp only [runL, runN, runOps_true, runOps_false, runOps_nil]
        repeat go_big_quiet_step (fail)
        refine wpQuiet_nil ?_
        clear hf1 hne
        refine readyU 4 fun K hK => ?_
        go_simp
        go_wp2
        refine hK.out _ _ (fun _ => HeldS.mk' hT2) ?_
        clear hK K hT2
        refine readyU 5 fun K hK => ?_
        refine ite_of rfl ?_
        first | refine opwp_run _ _ _ _ rfl _ _ _ rfl rfl hr.out 48 rfl ?_ | refine opwp_run _ _ _ _ rfl _ _ _ rfl rfl hr.out 56 rfl ?_
        simp only [List.setIfInBounds_toArray, List.set_cons_zero, List.set_cons_succ]
        refine hK.out _ _ (fun _ => HeldS.mk' hT6) ?_
        clear hK K hr hT6
        refine readyU 8 fun K hK => ?_
        go_simp
        refine hK.out _ _ (fun h => late_no h (by kernel_rfl)) ?_
        clear hK K
        refine readyU 9 fun K hK => ?_
        go_simp
        refine hK.out _ _ (fun h => late_no h (by kernel_rfl)) ?_
        clear hK K
        refine doneU ?_
        go_roundw
        case rel =>
          (repeat apply Exists.intro)
          refine ⟨?_, rfl⟩
          first
            | exact ⟨L, _, _, _, _, A9, _, _, c9, _, _, k + 1, rfl, rfl, rfl, by omega, by omega, by omega, ⟨by have := HO.out; omega, HL.out.2.1, by rw [List.length_append, HO.out.1]; rfl⟩, J6.out _ (by first | exact .inl rfl | exact .inr q6.out)⟩
            | exact ⟨_, L, _, _, _, A9, _, _, c9, _, _, k + 1, rfl, rfl, rfl, by omega, by omega, by omega, ⟨HL.out.1, by have := HO.out; omega, by rw [List.length_append, HO.out.1]; rfl⟩, J6.out _ (by first | exact .inl rfl | exact .inr q6.out)⟩
        case measure => simp [lenOfV]; omega
end
end Go.Proofs.YtlbnlmhcpephbaaGreatDoor
