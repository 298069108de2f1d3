/- Texts of this claim, joined, indents halved: ELu2, ELu3, Compare, Less, ELu4, ETuP, EHd1, EHd2. -/
import Derived.Test.YtlbnlmhcpephbaaGreatDoorProg
import Derived.StillTailTactics
import Derived.Test.YtlbnlmhcpephbaaGreatDoorKe12
namespace Go.Proofs.YtlbnlmhcpephbaaGreatDoor
open Go.RowKit
theorem order_any (n1 l1 h1 n2 l2 h2 : Int) (w : World) : Calls Tryz.prog 120 #[.agg #[.int .u64 n1, .int .i64 l1, .int .i64 h1], .agg #[.int .u64 n2, .int .i64 l2, .int .i64 h2]] w fun e w' => e = .returned (.int .i64 (ordV (l1, h1) (l2, h2))) ∧ Below w.heap.size w w' := by
 obtain ⟨v, hv, h⟩ : ∃ v, ordV (l1, h1) (l2, h2) = v ∧ (l1 < l2 ∧ v = -1 ∨ ¬ l1 < l2 ∧ (l1 ≠ l2 ∧ v = 1 ∨ l1 = l2 ∧ (h1 < h2 ∧ v = -1 ∨ ¬ h1 < h2 ∧ (h1 = h2 ∧ v = 0 ∨ h1 ≠ h2 ∧ v = 1)))) := ⟨_, rfl, by unfold ordV lless; simp only [Prod.mk.injEq]; split <;> (try split) <;> omega⟩
 rw [hv]
 clear hv
 rcases h with ⟨a, rfl⟩ | ⟨a, ⟨b, rfl⟩ | ⟨rfl, ⟨c, rfl⟩ | ⟨c, ⟨rfl, rfl⟩ | ⟨d, rfl⟩⟩⟩⟩
 all_goals
  try have a' := decide_eq_false a
  try have b' := beq_eq_false_iff_ne.2 b
  try have c' := decide_eq_false c
  try have d' := beq_eq_false_iff_ne.2 d
  try clear b
  try clear d
  go_enter Tryz.func120, Tryz.ntmps120
  go_wp2
  go_ret
  exact ⟨rfl, (by repeat (first | with_reducible assumption | with_reducible exact Below.refl _ _ | with_reducible refine Below.drew ?_ | with_reducible refine Below.drewN ?_ _ | with_reducible refine Below.setCell ?_ (by first | omega | (simp; done) | (simp; omega)) _ | with_reducible refine Below.alloc ?_ (by first | omega | (simp; done) | (simp; omega) | (simp [World.setCell]; omega)) _))⟩
section
variable {w w' W : World} {b c n : Nat} {A : Option Addr} {mo tot lo hi q1 q2 q3 : Int} {ls : List Lu} {T : List Nat}
def lsg (ls : List Lu) (v : Int × Int) (i : Nat) : Int := ordV (ls.getD i (0, 0, 0)).2 v
theorem lsg_mono (h : ls.Pairwise fun a b => lless a.2 b.2) (v : Int × Int) (x y : Nat) (hx : x ≤ y) (hy : y < ls.length) (hs : lsg ls v y < 0) : lsg ls v x < 0 := by
 unfold lsg at *
 rw [List.getD_eq_getElem?_getD, List.getElem?_eq_getElem hy] at hs
 rw [List.getD_eq_getElem?_getD, List.getElem?_eq_getElem (by omega)]
 rcases Nat.eq_or_lt_of_le hx with rfl | e
 ·exact hs
 ·have a := ordV_le hs
  have b := List.pairwise_iff_getElem.1 h x y (by omega) hy e
  dsimp only [Option.getD_some] at a ⊢
  unfold ordV
  rw [if_pos (show lless ls[x].2 v by unfold lless at *; omega)]
  decide
set_option maxRecDepth 100000 in
set_option maxHeartbeats 2000000 in
theorem bsl_any (h : Rd w A (flatL ls)) (hg : ls.Pairwise fun a b => lless a.2 b.2) (hlen : ls.length = n) (hl : n ≤ 8000) :
  Calls Tryz.prog 365 #[.slice A n c, .agg #[.int .u64 q1, .int .i64 q2, .int .i64 q3], .func (.func 120) #[] #[]] w fun e w' => e = .returned (bsV (lsg ls (q2, q3)) n) ∧ Below w.heap.size w w' := by
 subst hlen
 refine Calls.mono (R := BfG (lsg ls (q2, q3)) ls.length w) ?_ fun e w' r => r.det (lsg_mono hg _)
 have hm := Lib.hid (lsg_mono hg (q2, q3))
 have HA : Hid (∀ i, i < ls.length → ∃ z1 z2 z3 g o, lsg ls (q2, q3) i = ordV (z2, z3) (q2, q3) ∧ A = some ⟨g, o, none⟩ ∧ g < w.heap.size ∧ w.cell? ⟨g, o + i * 3, none⟩ = some (.int .u64 z1) ∧ w.cell? ⟨g, o + i * 3 + 1, none⟩ = some (.int .i64 z2) ∧ w.cell? ⟨g, o + i * 3 + 2, none⟩ = some (.int .i64 z3)) := fun i hi => by
  obtain ⟨g, o, h⟩ := h.at3 hi
  exact ⟨_, _, _, g, o, by unfold lsg; rw [List.getD_eq_getElem?_getD, List.getElem?_eq_getElem hi]; rfl, h⟩
 generalize lsg ls (q2, q3) = sg at *
 generalize ls.length = n at *
 clear h hg
 have aT := At.new w #[.int .u64 q1, .int .i64 q2, .int .i64 q3] 235
 have hbT := bn w (.cells #[.int .u64 q1, .int .i64 q2, .int .i64 q3] 235)
 go_enter Tryz.func365, Tryz.ntmps365
 go_wp2
 obtain ⟨tB, htB⟩ : ∃ tB, w.heap.size = tB := ⟨_, rfl⟩
 have HTB := Lib.hid htB
 rw [htB] at aT ⊢
 clear htB
 generalize w.alloc _ = W0 at aT hbT ⊢
 go_loopw [9, 10, 11] (fun I J _ wr => ∃ i j : Nat, i ≤ j ∧ j ≤ n ∧ I = .int .i64 i ∧ J = .int .i64 j ∧ Hid (∀ x, x < i → sg x < 0) ∧ Hid (∀ x, j ≤ x → x < n → 0 ≤ sg x) ∧ Below w.heap.size w wr ∧ At wr tB #[.int .u64 q1, .int .i64 q2, .int .i64 q3] 235) (fun I J _ _ => (intOf J).toNat - (intOf I).toNat)
 case atStart => exact ⟨0, n, by omega, by omega, rfl, rfl, Lib.hid (fun x hx => by omega), Lib.hid (fun x h1 h2 => by omega), hbT, aT⟩
 case round =>
  clear aT hbT
  obtain ⟨i, j, hij, hjn, rfl, rfl, Hlo, Hhi, hB, sT⟩ := hrel
  by_cases hlt : i < j
  ·have hlt' : (i : Int) < j := by omega
   obtain ⟨m, hm'⟩ : ∃ m, (i + j) / 2 = m := ⟨_, rfl⟩
   obtain ⟨z1, z2, z3, g, o, hs, rfl, hg, c1, c2, c3⟩ := HA.out m (by omega)
   have hs := Lib.hid hs
   have v1 : ((i : Int) + j) / 2 = (m : Int) := by omega
   have hmj : i ≤ m ∧ m < j := by omega
   have gW := Nat.lt_of_lt_of_le hg hB.size
   have c1 := cellB hB hg c1
   have c2 := cellB hB hg c2
   have c3 := cellB hB hg c3
   have k0 : (0 : Int) ≤ m := by omega
   have k1 : (m : Int) < n := by omega
   have v2 : IntKind.i64.wrap ((m : Int) + 1) = m + 1 := by simp only [IntKind.wrap_i64]; omega
   have fT := sT.three
   have lT := sT.lt
   have hfa1 := fun x : Far wr => x.cell gW c1
   have hfa2 := fun x : Far wr => x.cell gW c2
   have hfa3 := fun x : Far wr => x.cell gW c3
   clear hm'
   go_wp2
   have hfar1 := fun x : Far wr => (x.at sT).three
   refine wp_region_far (by kernel_rfl) (by kernel_rfl) ?_
   repeat go_big_quiet_step (first | (with_reducible refine far_of (order_any z1 z2 z3 q1 q2 q3 _)))
   refine wpQuiet_nil ?_
   rintro _ ⟨xq, rfl⟩
   clear hfar1
   clear hfa1 hfa2 hfa3
   replace hB := keep1 hB xq.below
   replace sT := sT.below xq.below
   generalize xq.far = W2 at *
   obtain ⟨s, hv⟩ : ∃ s, ordV (z2, z3) (q2, q3) = s := ⟨_, rfl⟩
   rw [hv] at hs ⊢
   clear hv fT lT xq
   by_cases hx : s < 0
   ·have H2 : Hid (∀ x, x < m + 1 → sg x < 0) := fun x hx' => hm.out x m (by omega) (by omega) (by rw [hs.out]; exact hx)
    go_wp2
    go_roundw
    case rel => exact ⟨m + 1, j, by omega, hjn, by go_num, rfl, H2, Hhi, hB, sT⟩
    case measure => simp [intOf]; omega
   ·have H2 : Hid (∀ x, m ≤ x → x < n → 0 ≤ sg x) := fun x h1 h2 => Int.not_lt.1 fun h => hx (by rw [← hs.out]; exact hm.out m x h1 h2 h)
    go_wp2
    go_roundw
    case rel => exact ⟨i, m, by omega, by omega, rfl, rfl, Hlo, H2, hB, sT⟩
    case measure => simp [intOf]; omega
  ·obtain rfl : i = j := by omega
   have P : Hid (Pos sg n i) := ⟨by omega, Hlo.out, Hhi.out⟩
   clear Hlo Hhi hm
   by_cases hin : i < n
   ·obtain ⟨z1, z2, z3, g, o, hs, rfl, hg, c1, c2, c3⟩ := HA.out i hin
    have gW := Nat.lt_of_lt_of_le hg hB.size
    have c1 := cellB hB hg c1
    have c2 := cellB hB hg c2
    have c3 := cellB hB hg c3
    have k0 : (0 : Int) ≤ i := by omega
    have k1 : (i : Int) < n := by omega
    have fT := sT.three
    have lT := sT.lt
    have hfa1 := fun x : Far wr => x.cell gW c1
    have hfa2 := fun x : Far wr => x.cell gW c2
    have hfa3 := fun x : Far wr => x.cell gW c3
    have R : Hid (∀ W, Below wr.heap.size wr W → BfG sg n w (.returned (.tuple #[.int .i64 i, .bool (ordV (z2, z3) (q2, q3) == 0)])) W) := fun W hb => ⟨⟨i, _, rfl, P.out, by rw [hs]; simp [hin]⟩, keep1 hB hb⟩
    clear hs
    go_wp2
    have hfar1 := fun x : Far wr => (x.at sT).three
    refine wp_region_far (by kernel_rfl) (by kernel_rfl) ?_
    repeat go_big_quiet_step (first | (with_reducible refine far_of (order_any z1 z2 z3 q1 q2 q3 _)))
    refine wpQuiet_nil ?_
    rintro _ ⟨xq, rfl⟩
    clear hfar1
    clear hfa1 hfa2 hfa3
    replace R := Lib.hid (R.out _ xq.below)
    generalize xq.far = W2 at *
    obtain ⟨s, hv⟩ : ∃ s, ordV (z2, z3) (q2, q3) = s := ⟨_, rfl⟩
    rw [hv] at R ⊢
    clear hv fT lT xq
    go_wp2
    go_ret2
    exact R.out
   ·obtain rfl : i = n := by omega
    have R : Hid (∀ W, Below wr.heap.size wr W → BfG sg i w (.returned (.tuple #[.int .i64 i, .bool false])) W) := fun W hb => ⟨⟨i, false, rfl, P.out, by simp⟩, keep1 hB hb⟩
    have hin' : ¬ (i : Int) < i := by omega
    have fT := sT.three
    clear HA
    go_wp2
    go_quiet (fail)
    go_wp2
    go_ret2
    exact R.out _ ((Below.refl _ _).drewN _)
end
end Go.Proofs.YtlbnlmhcpephbaaGreatDoor

namespace Go.Proofs.YtlbnlmhcpephbaaGreatDoor
open Go.RowKit
section
variable {w w' W : World} {b c g k : Nat} {A : Option Addr} {mo n y q1 q2 q3 : Int} {ls : List Lu} {T : List Nat}
theorem LmB.put (h : LmB w b (some ⟨g, 0, none⟩) c mo ls n) (hk : k < ls.length) : LmB (w.setCell ⟨g, k * 3, none⟩ (.int .u64 y)) b (some ⟨g, 0, none⟩) c mo (ls.set k (y, ls[k].2)) n := by
 have ne : b ≠ g := fun e => h.ne (by simp [blk, e])
 refine ⟨by rw [List.length_set]; exact h.at'.set_other (p := ⟨g, k * 3, none⟩) ne _, ?_, h.ne⟩
 unfold flatL
 rw [List.length_set, flat_set (f := fun x : Lu => [.int .u64 x.1, .int .i64 x.2.1, .int .i64 x.2.2]) (k := 3) (fun _ => rfl) (d := 0) (v := .int .u64 y) (by decide) ls k hk (by simp)]
 exact own_setCell h.own (o := k * 3) (by omega) (.int .u64 y)
theorem LmB.row {ks : List Lu} {A' : Option Addr} {c' : Nat} (h : LmB w b A c mo ls n) (ho : w'.ownsRow 0 235 3 (.slice A' ks.length c') ks.length (flatL ks)) (hF : Frame (blk A) w w') (hB : ∀ k ∈ blk A', k ∈ blk A ∨ w.heap.size ≤ k) :
  LmB (w'.setCell ⟨b, 1, none⟩ (.slice A' ks.length c')) b A' c' mo ks n ∧ Mv (b :: blk A) (b :: blk A') w (w'.setCell ⟨b, 1, none⟩ (.slice A' ks.length c')) := by
 have nb : b ∉ blk A' := fun hm => (hB b hm).elim h.ne fun a => by have := h.at'.lt; omega
 refine ⟨⟨(hF.at h.at' h.ne).set_any 1 _ rfl, own_frame ho (Frame.set [b] _ b 1 _ (by simp)) fun q hq e => nb (by simp at e; exact e ▸ hq), nb⟩, fun q hq => ?_, (hF.mono fun q hq => by simp [hq]).setc (.inl (by simp)) 1 _⟩
 rcases List.mem_cons.1 hq with rfl | hq
 ·simp
 ·exact (hB q hq).imp (fun a => by simp [a]) id
theorem LmB.ins {l : Lu} {A' : Option Addr} {c' : Nat} (h : LmB w b A c mo ls n) (hk : k ≤ ls.length) (ho : InsG .l 0 A ls.length k (flatL ls) [.int .u64 l.1, .int .i64 l.2.1, .int .i64 l.2.2] w (.returned (.slice A' (ls.length + 1) c')) w') :
  LmB (w'.setCell ⟨b, 1, none⟩ (.slice A' (ls.length + 1) c')) b A' c' mo (ls.take k ++ l :: ls.drop k) n ∧ Mv (b :: blk A) (b :: blk A') w (w'.setCell ⟨b, 1, none⟩ (.slice A' (ls.length + 1) c')) := by
 obtain ⟨A1, c1, e, ho, hF, hB⟩ := ho
 cases e
 have hl : (ls.take k ++ l :: ls.drop k).length = ls.length + 1 := by simp; omega
 obtain ⟨e1, e2⟩ := flat_cut (f := fun x : Lu => [.int .u64 x.1, .int .i64 x.2.1, .int .i64 x.2.2]) (k := 3) (fun _ => rfl) ls k
 dsimp only [Sl.ty] at ho
 unfold flatL at ho
 rw [e1, e2] at ho
 rw [← hl] at ho ⊢
 exact h.row (by unfold flatL; rw [List.flatMap_append, List.flatMap_cons, ← List.append_assoc]; exact ho) hF hB
theorem LmB.tot (h : LmB w b A c mo ls n) : LmB (w.setCell ⟨b, 2, none⟩ (.int .u64 y)) b A c mo ls y :=
 ⟨h.at'.set_any 2 _ rfl, own_frame h.own (Frame.set [b] _ b 2 _ (by simp)) fun k hk e => h.ne (by simp at e; exact e ▸ hk), h.ne⟩
def LyR (b : Nat) (A : Option Addr) (mo : Int) (ls : List Lu) (n : Int) (l : Lu) (w w' : World) : Prop := ∃ A' c' ls', LmB w' b A' c' mo ls' (n + l.1) ∧ Mv (b :: blk A) (b :: blk A') w w' ∧ LuS ls' (n + l.1) ∧ LuL ls l.2 ls' ∧ ls'.length ≤ ls.length + 1
set_option maxRecDepth 100000 in
set_option maxHeartbeats 4000000 in
theorem lmlay_any (h : LmB w b A c mo ls n) (g : LuS ls n) (hq : 0 < q1 ∧ I64 q2 ∧ I64 q3) (hn : n + q1 ≤ 8000) :
    Calls Tryz.prog 361 #[.pointer (some ⟨b, 0, none⟩), .agg #[.int .u64 q1, .int .i64 q2, .int .i64 q3]] w fun e w' => e = .returned (.tuple #[]) ∧ LyR b A mo ls n (q1, q2, q3) w w' := by
  have gl := g.len
  obtain ⟨m, hm⟩ : ∃ m, ls.length = m := ⟨_, rfl⟩
  have G := Lib.hid (And.intro g (And.intro hq (And.intro hn hm)))
  have n0 : 0 ≤ n := by omega
  have wr : IntKind.u64.wrap (n + q1) = n + q1 := by simp only [IntKind.wrap_u64]; omega
  have p := kof_pos (lsg_mono g.srt (q2, q3))
  obtain ⟨f, hf⟩ : ∃ f, decide (kof (lsg ls (q2, q3)) ls.length < ls.length ∧ lsg ls (q2, q3) (kof (lsg ls (q2, q3)) ls.length) = 0) = f := ⟨_, rfl⟩
  obtain ⟨k, hk⟩ : ∃ k, kof (lsg ls (q2, q3)) ls.length = k := ⟨_, rfl⟩
  have V : Hid (bsV (lsg ls (q2, q3)) m = .tuple #[.int .i64 k, .bool f]) := by show _ = _; unfold bsV; rw [← hm, hf, hk]
  rw [hk] at p hf
  have L := Lib.hid (g.lay (l := (q1, q2, q3)) p hq)
  have bl := bn w (.cells #[.int .u64 q1, .int .i64 q2, .int .i64 q3] 235)
  have aL := At.new w #[.int .u64 q1, .int .i64 q2, .int .i64 q3] 235
  have lt := h.lt
  have H := Lib.hid (h.below bl)
  have B := Lib.hid (And.intro bl lt)
  have pl := p.le
  rw [hm] at pl hf
  have s1 := H.out.at'
  rw [hm] at s1
  have BS := Lib.hid fun W (hb : Below _ _ W) => bsl_any (c := c) (q1 := q1) (q2 := q2) (q3 := q3) (own_rd (H.out.below hb).own) g.srt hm (by omega)
  rw [V.out] at BS
  have m8 : m ≤ 8000 := by omega
  clear h g gl bl lt hk p V
  go_enter Tryz.func361, Tryz.ntmps361
  go_upto_region 1 with fail
  generalize w.alloc _ = W1 at *
  obtain ⟨lB, hlB⟩ : ∃ lB, w.heap.size = lB := ⟨_, rfl⟩
  replace B : Hid ((Below w.heap.size w W1 ∧ ∀ k ∈ b :: blk A, k < w.heap.size) ∧ w.heap.size = lB) := ⟨B.out, hlB⟩
  rw [hlB] at aL ⊢
  clear hlB
  have hfar1 := fun x : Far W1 => (x.at s1).three
  have hfar2 := fun x : Far W1 => (x.at aL).three
  refine wp_region_far (by kernel_rfl) (by kernel_rfl) ?_
  repeat go_big_quiet_step (first | (with_reducible refine far_of (BS.out _ (Far.below _))))
  refine wpQuiet_nil ?_
  rintro _ ⟨xq, rfl⟩
  clear hfar1 hfar2
  have bx := xq.below
  replace H := Lib.hid (H.out.below bx)
  replace aL := aL.below bx
  replace s1 := s1.below bx
  generalize xq.far = W2 at *
  clear BS xq
  cases f with
  | true =>
    obtain ⟨hk, hs⟩ := of_decide_eq_true hf
    have hkl : k < ls.length := by have := G.out.2.2.2; omega
    have e : ls[k].2 = (q2, q3) := by unfold lsg ordV at hs; rw [List.getD_eq_getElem?_getD, List.getElem?_eq_getElem hkl] at hs; dsimp only [Option.getD_some] at hs; split at hs <;> (try split at hs) <;> first | assumption | omega
    have LL := Lib.hid (L.out.1 hkl e)
    obtain ⟨g, rfl, hg, c1, c2, c3⟩ := H.out.rd hkl
    have ym := sumN_ge (fun x hx => (G.out.1.pos x hx).1) _ (List.getElem_mem hkl)
    have D := fun y => (H.out.put (y := y) hkl).below (Below.refl _ _).drew
    rw [e] at D
    obtain ⟨y, hy⟩ : ∃ y, ls[k].1 = y := ⟨_, rfl⟩
    rw [hy] at c1 ym LL
    have hw : IntKind.u64.wrap (y + q1) = y + q1 := by have := G.out; have := G.out.1.sum; have := (G.out.1.pos _ (List.getElem_mem hkl)).1; simp only [IntKind.wrap_u64]; omega
    have D2 := D (y + q1)
    have ne : b ≠ g := fun e => H.out.ne (by simp [blk, e])
    have M : Hid (Mv (b :: blk (some ⟨g, 0, none⟩)) (b :: blk (some ⟨g, 0, none⟩)) w (W2.setCell ⟨g, k * 3, none⟩ (.int .u64 (y + q1))).drew) := (Mv.of _ (keep1 B.out.1.1 bx)).trans ⟨GrownS.refl _ _, (Frame.set _ _ _ _ _ (by simp [blk])).drew⟩
    have hfz := own_frz H.out.own (k * 3)
    have k0 : (0 : Int) ≤ k := by omega
    have k1 : (k : Int) < m := by omega
    have f1 := s1.three
    have l1 := s1.lt
    have f2 := aL.three
    have l2 := aL.lt
    have lg : lB ≠ g := fun e => by have := B.out.1.2 g (by simp [blk]); have := B.out.2; omega
    replace aL : At (W2.setCell ⟨g, k * 3, none⟩ (.int .u64 (y + q1))).drew lB _ _ := (aL.set_other (p := ⟨g, k * 3, none⟩) lg (.int .u64 (y + q1))).drew
    have ml : (ls.set k (y + q1, q2, q3)).length = m := by rw [List.length_set]; exact G.out.2.2.2
    have FIN : Hid (∀ W, LmB W b (some ⟨g, 0, none⟩) c mo (ls.set k (y + q1, q2, q3)) n → Mv (b :: blk (some ⟨g, 0, none⟩)) (b :: blk (some ⟨g, 0, none⟩)) w W → LyR b (some ⟨g, 0, none⟩) mo ls n (q1, q2, q3) w (W.setCell ⟨b, 2, none⟩ (.int .u64 (n + q1))).drew) := fun W h m => ⟨_, c, _, h.tot.below (Below.refl _ _).drew, m.trans ⟨GrownS.refl _ _, (Frame.set _ _ _ _ _ (by simp)).drew⟩, LL.out.1, LL.out.2, by rw [List.length_set]; omega⟩
    clear hs hkl e ym D hy c2 c3 L LL hf H s1 bx
    go_wp2
    go_region
    clear f1 l1 f2 l2 c1 hfz
    generalize (W2.setCell _ _).drew = W3 at *
    have s3 := D2.at'
    rw [ml] at s3
    have R := Lib.hid (FIN.out W3 D2 M.out)
    have f1 := s3.three
    have l1 := s3.lt
    have f2 := aL.three
    have l2 := aL.lt
    clear D2 M FIN s3 aL
    go_wp2
    go_region
    exact bodyPost_end (results_none rfl _ _ _) rfl ⟨rfl, R.out⟩
  | false =>
    have LL := Lib.hid (L.out.2 fun hk e => of_decide_eq_false hf ⟨by have := G.out.2.2.2; omega, by unfold lsg; rw [List.getD_eq_getElem?_getD, List.getElem?_eq_getElem hk]; dsimp only [Option.getD_some]; rw [e]; simp [ordV, lless]⟩)
    go_upto_region 4 with fail
    have hT : At2 b _ _ lB _ _ W2.drew := ⟨s1.drew, aL.drew⟩
    refine until_h 11 (by kernel_rfl) (HeldS.mk' hT) (fun hHeld => ?_)
    replace H := Lib.hid (H.out.below (Below.refl _ _).drew)
    replace bx := bx.drew
    clear L hf s1 aL
    generalize W2.drew = W3 at *
    have hne := hHeld.ne
    have hneF := heldT W3
    have hf1 := fun x => (hHeld.get x).a.three
    have hf2 := fun x => (hHeld.get x).b.three
    refine runV [4, 1, 1] 7 hHeld ?_
    simp only [runL, runN, runOps_true, runOps_false, runOps_nil]
    repeat go_big_quiet_step (fail)
    refine wpQuiet_nil ?_
    refine runW [0, 4, 1, 1, 1] 5 hHeld ?_
    simp only [runL, runN, runOps_true, runOps_false, runOps_nil]
    repeat go_big_quiet_step (fail)
    refine wpQuiet_nil ?_
    clear hf1 hf2 hne
    have INS := insert_g (j := .l) (cs := #[.int .u64 q1, .int .i64 q2, .int .i64 q3]) (i := k) (vb := W3.heap.size) (H.out.below (bn W3 (.cells #[.int .u64 q1, .int .i64 q2, .int .i64 q3] 235))).own flatL_one (by have := G.out; omega) (by have := G.out; omega) (At.new W3 _ _) rfl (by simp; exact ⟨rfl, rfl, rfl⟩) (fun q hq => by have := (own_blk H.out.own q hq).2; omega) (Nat.zero_le _)
    dsimp only [Sl.ins] at INS
    have D := fun A' c' w' => (H.out.below (bn W3 (.cells #[.int .u64 q1, .int .i64 q2, .int .i64 q3] 235))).ins (l := (q1, q2, q3)) (A' := A') (c' := c') (w' := w') (k := k) (by have := G.out; omega)
    have LN : (ls.take k ++ (q1, q2, q3) :: ls.drop k).length = m + 1 := by have := G.out; simp; omega
    rw [G.out.2.2.2] at INS D
    have FIN : Hid (∀ A' c' W, LmB W b A' c' mo (ls.take k ++ (q1, q2, q3) :: ls.drop k) n → Mv (b :: blk A) (b :: blk A') w W → LyR b A mo ls n (q1, q2, q3) w (W.setCell ⟨b, 2, none⟩ (.int .u64 (n + q1))).drew) := fun A' c' W h m => ⟨_, c', _, h.tot.below (Below.refl _ _).drew, m.trans ⟨GrownS.refl _ _, (Frame.set _ _ _ _ _ (by simp)).drew⟩, LL.out.1, LL.out.2, by rw [LN, G.out.2.2.2]; exact Nat.le_refl _⟩
    have M := Lib.hid ((Mv.of (b :: blk A) (keep1 B.out.1.1 bx)).trans (Mv.of _ (bn W3 (.cells #[.int .u64 q1, .int .i64 q2, .int .i64 q3] 235))))
    have lA : lB ∉ b :: blk A := fun h => by have := B.out.1.2 lB h; have := B.out.2; omega
    replace hT := hT.below (bn W3 (.cells #[.int .u64 q1, .int .i64 q2, .int .i64 q3] 235))
    have INS := Lib.hid INS
    have D := Lib.hid D
    have NB := Lib.hid H.out.ne
    clear LL bx H
    refine readyU 7 fun K hK => ?_
    go_simp
    refine hK.out _ _ (fun _ => HeldS.mk' hT) ?_
    clear hK K
    generalize W3.alloc _ = W4 at *
    refine readyU 8 fun K hK => ?_
    go_simp
    go_wp2_with (go_at_call 366; refine INS.out.mono ?_; rintro e w4 ⟨A', c', rfl, hI⟩)
    replace hT := hT.frame hI.2.1 NB.out fun h => lA (by simp [h])
    refine hK.out _ _ (fun _ => HeldS.mk' hT) ?_
    clear hK K
    have hHeld := HeldS.mk' hT
    refine runV [0, 9, 2] 1 hHeld ?_
    simp only [runL, runN, runOps_true, runOps_false, runOps_nil]
    repeat go_big_quiet_step (fail)
    refine wpQuiet_nil ?_
    obtain ⟨D2, m2⟩ := D.out A' c' w4 ⟨A', c', rfl, hI⟩
    have f1 := hT.a.three
    have l1 := hT.a.lt
    have m3 := M.out.trans m2
    have a4 := hT.b.set_other (p := ⟨b, 1, none⟩) (show lB ≠ b from fun e => lA (by simp [e])) (.slice A' (m + 1) c')
    have s4 := D2.at'
    rw [LN] at s4
    have R := Lib.hid (FIN.out A' c' _ D2 m3)
    clear D INS hI M FIN m2 m3 D2 LN hT hHeld
    refine readyU 11 fun K hK => ?_
    go_simp
    go_wp2
    refine hK.out _ _ (fun h => late_no h (by kernel_rfl)) ?_
    clear hK K hneF f1 l1
    refine doneU ?_
    generalize w4.setCell _ _ = W5 at *
    have f1 := s4.three
    have l1 := s4.lt
    have f2 := a4.three
    have l2 := a4.lt
    clear s4 a4
    go_wp2
    go_region
    exact bodyPost_end (results_none rfl _ _ _) rfl ⟨rfl, R.out⟩
end
end Go.Proofs.YtlbnlmhcpephbaaGreatDoor

namespace Go.Proofs.YtlbnlmhcpephbaaGreatDoor
open Go.RowKit
theorem cmpI_gt {x y : Int} (h : y < x) : cmpI x y = 1 := by unfold cmpI; rw [if_neg (by omega), if_neg (by omega)]
theorem cmpI_lt {x y : Int} (h : x < y) : cmpI x y = -1 := by unfold cmpI; rw [if_pos h]
theorem cmpI_eq {x y : Int} (h : x = y) : cmpI x y = 0 := by unfold cmpI; rw [if_neg (by omega), if_pos h]
theorem cmpI_neg (x y : Int) : (cmpI x y < 0) ↔ x < y := by
 unfold cmpI; split
 ·omega
 ·split <;> omega
theorem compare_any (ah al bh bl : Int) (w : World) (h1 : 0 ≤ ah) (h2 : ah < 18446744073709551616) (h3 : 0 ≤ al) (h4 : al < 18446744073709551616) (h5 : 0 ≤ bh) (h6 : bh < 18446744073709551616)
   (h7 : 0 ≤ bl) (h8 : bl < 18446744073709551616) :
    Calls Tryz.prog 367 #[.agg #[.int .u64 ah, .int .u64 al], .agg #[.int .u64 bh, .int .u64 bl]] w fun e w' =>
      e = .returned (.int .i64 (cmpI (ah * 18446744073709551616 + al) (bh * 18446744073709551616 + bl))) ∧ Below w.heap.size w w' := by
  have k1 : ah = bh → al = bl → cmpI (ah * 18446744073709551616 + al) (bh * 18446744073709551616 + bl) = 0 := fun _ _ => cmpI_eq (by omega)
  have k2 : (ah < bh ∨ (ah = bh ∧ al < bl)) → cmpI (ah * 18446744073709551616 + al) (bh * 18446744073709551616 + bl) = -1 := fun _ => cmpI_lt (by omega)
  have k3 : (bh < ah ∨ (ah = bh ∧ bl < al)) → cmpI (ah * 18446744073709551616 + al) (bh * 18446744073709551616 + bl) = 1 := fun _ => cmpI_gt (by omega)
  generalize cmpI (ah * 18446744073709551616 + al) (bh * 18446744073709551616 + bl) = c at *
  have K1 := Lib.hid k1
  have K2 := Lib.hid k2
  have K3 := Lib.hid k3
  clear k1 k2 k3
  have hB : ∀ (c : Array Value) (t : TypeId) (c' : Array Value) (t' : TypeId), Below w.heap.size w ((w.alloc (.cells c t)).alloc (.cells c' t')) := fun c t c' t' => ((Below.refl _ _).alloc (Nat.le_refl _) _).alloc (by simp) _
  rcases Int.lt_trichotomy ah bh with h | h | h
  · rw [K2.out (Or.inl h)]
    go_enter Tryz.func367, Tryz.ntmps367
    go_wp2
    all_goals first | omega | (go_ret; exact ⟨rfl, hB _ _ _ _⟩)
  · subst h
    rcases Int.lt_trichotomy al bl with h | h | h
    · rw [K2.out (Or.inr ⟨rfl, h⟩)]
      go_enter Tryz.func367, Tryz.ntmps367
      go_wp2
      all_goals first | omega | (go_ret; exact ⟨rfl, hB _ _ _ _⟩)
    · subst h
      rw [K1.out rfl rfl]
      go_enter Tryz.func367, Tryz.ntmps367
      go_wp2
      all_goals first | omega | (go_ret; exact ⟨rfl, hB _ _ _ _⟩)
    · rw [K3.out (Or.inr ⟨rfl, h⟩)]
      go_enter Tryz.func367, Tryz.ntmps367
      go_wp2
      all_goals first | omega | (go_ret; exact ⟨rfl, hB _ _ _ _⟩)
  · rw [K3.out (Or.inl h)]
    go_enter Tryz.func367, Tryz.ntmps367
    go_wp2
    all_goals first | omega | (go_ret; exact ⟨rfl, hB _ _ _ _⟩)
end Go.Proofs.YtlbnlmhcpephbaaGreatDoor

namespace Go.Proofs.YtlbnlmhcpephbaaGreatDoor
open Go.RowKit
def lessF (an ad bn bd : Int) : Bool := if ad = 0 then false else if bd = 0 then true else decide (an * bd < bn * ad)
theorem less_any (an ad bn bd : Int) (w : World) (h1 : 0 ≤ an) (h2 : an < 18446744073709551616) (h3 : 0 ≤ ad) (h4 : ad < 18446744073709551616) (h5 : 0 ≤ bn) (h6 : bn < 18446744073709551616)
  (h7 : 0 ≤ bd) (h8 : bd < 18446744073709551616) :
  Calls Tryz.prog 363 #[.agg #[.int .u64 an, .int .u64 ad], .agg #[.int .u64 bn, .int .u64 bd]] w fun e w' =>
   e = .returned (.bool (lessF an ad bn bd)) ∧ Below w.heap.size w w' := by
 unfold lessF
 by_cases ha : ad = 0
 ·rw [if_pos ha]
  subst ha
  go_enter Tryz.func363, Tryz.ntmps363
  go_wp2
  go_ret
  exact ⟨rfl, ((Below.refl _ _).alloc (Nat.le_refl _) _).alloc (by simp) _⟩
 by_cases hb : bd = 0
 ·rw [if_neg ha, if_pos hb]
  subst hb
  have ha' : (ad == 0) = false := by simpa using ha
  go_enter Tryz.func363, Tryz.ntmps363
  go_wp2
  go_ret
  exact ⟨rfl, ((Below.refl _ _).alloc (Nat.le_refl _) _).alloc (by simp) _⟩
 rw [if_neg ha, if_neg hb]
 have ha' : (ad == 0) = false := by simpa using ha
 have hb' : (bd == 0) = false := by simpa using hb
 go_enter Tryz.func363, Tryz.ntmps363
 go_wp2
 refine gen_world (fun W => W.cell? ⟨w.heap.size, 0, none⟩ = some (.int .u64 an) ∧ W.cell? ⟨w.heap.size, 1, none⟩ = some (.int .u64 ad) ∧ W.cell? ⟨w.heap.size + 1, 0, none⟩ = some (.int .u64 bn) ∧ W.cell? ⟨w.heap.size + 1, 1, none⟩ = some (.int .u64 bd) ∧ w.heap.size + 1 < W.heap.size ∧ Below w.heap.size w W)
  ⟨by simp, by simp, by simp, by simp, by simp, ((Below.refl _ _).alloc (Nat.le_refl _) _).alloc (by simp) _⟩ ?_
 rintro W0 ⟨c1, c2, c3, c4, hsz, hB0⟩
 have MK : Hid (∀ w', Below W0.heap.size W0 w' → w'.cell? ⟨w.heap.size, 0, none⟩ = some (.int .u64 an) ∧ w'.cell? ⟨w.heap.size, 1, none⟩ = some (.int .u64 ad) ∧ w'.cell? ⟨w.heap.size + 1, 0, none⟩ = some (.int .u64 bn) ∧ w'.cell? ⟨w.heap.size + 1, 1, none⟩ = some (.int .u64 bd) ∧ Below W0.heap.size W0 w') :=
  fun w' h => ⟨cellB h (by omega) c1, cellB h (by omega) c2, cellB h (by omega) c3, cellB h (by omega) c4, h⟩
 go_region_held3 (fun w' => w'.cell? ⟨w.heap.size, 0, none⟩ = some (.int .u64 an) ∧ w'.cell? ⟨w.heap.size, 1, none⟩ = some (.int .u64 ad) ∧ w'.cell? ⟨w.heap.size + 1, 0, none⟩ = some (.int .u64 bn) ∧ w'.cell? ⟨w.heap.size + 1, 1, none⟩ = some (.int .u64 bd) ∧ Below W0.heap.size W0 w')
  (((try go_split_ands); first | exact MK.out _ (Below.drew (Below.refl _ _)) | (refine MK.out _ (keep1 ?_ hb3); assumption) | (refine MK.out _ (keep1 ?_ hb2); assumption) | (refine MK.out _ (keep1 ?_ hb1); assumption)))
  (first | (go_at_call_of 122 an; refine (times_any an bd _ (by omega) (by omega) (by omega) (by omega)).mono ?_; rintro e w' ⟨hi, lo, k1, k2, k3, k4, hX, rfl, hb1⟩; have HX := Lib.hid hX; clear hX) | (go_at_call_of 122 bn; refine (times_any bn ad _ (by omega) (by omega) (by omega) (by omega)).mono ?_; rintro e w' ⟨hi2, lo2, l1, l2, l3, l4, hX2, rfl, hb2⟩; have HX2 := Lib.hid hX2; clear hX2) | (go_at_call 367; refine (compare_any _ _ _ _ _ k1 k2 k3 k4 l1 l2 l3 l4).mono ?_; rintro e w' ⟨rfl, hb3⟩; rw [HX.out, HX2.out]))
 all_goals
  go_wp2
  go_ret
  go_split_ands
  refine ⟨?_, hB0.trans (Below.mono (B := W0.heap.size) ?_ hB0.size)⟩
  ·simp [cmpI_neg]
  ·assumption
end Go.Proofs.YtlbnlmhcpephbaaGreatDoor

namespace Go.Proofs.YtlbnlmhcpephbaaGreatDoor
open Go.RowKit
section
variable {w w' W : World} {b c g k i : Nat} {A : Option Addr} {mo n y lo hi ah : Int} {ls : List Lu} {T : List Nat}
theorem LmB.cl (h : LmB w b (some ⟨g, 0, none⟩) c mo ls n) (hi : i < ls.length) : g < w.heap.size ∧ w.cell? ⟨g, i * 3, none⟩ = some (.int .u64 ls[i].1) ∧ w.cell? ⟨g, i * 3 + 1, none⟩ = some (.int .i64 ls[i].2.1) ∧ w.cell? ⟨g, i * 3 + 2, none⟩ = some (.int .i64 ls[i].2.2) := by
 obtain ⟨_, e, h⟩ := h.rd hi
 cases e
 exact h
def LmC (w : World) (e : Ending) (w' : World) : Prop := ∃ p q : Int, e = .returned (.agg #[.int .u64 p, .int .u64 q]) ∧ (0 ≤ p ∧ p < 18446744073709551616 ∧ 0 ≤ q ∧ q < 18446744073709551616) ∧ Below w.heap.size w w'
theorem wrapB (x : Int) : 0 ≤ IntKind.u64.wrap x ∧ IntKind.u64.wrap x < 18446744073709551616 := by simp only [IntKind.wrap_u64]; omega
set_option maxRecDepth 100000 in
theorem lmcost_any (h : LmB w b A c mo ls n) (hi : i + 1 < ls.length) (hl : ls.length ≤ 8000) : Calls Tryz.prog 362 #[.pointer (some ⟨b, 0, none⟩), .int .i64 i, .int .u64 ah] w (LmC w) := by
 obtain ⟨g, rfl⟩ := (own_nil h.own).2.2 (.inl (by omega))
 have s1 := h.at'
 obtain ⟨hg, c1, _⟩ := h.cl (i := i) (by omega)
 obtain ⟨_, d1, _⟩ := h.cl hi
 obtain ⟨m, hm⟩ : ∃ m, ls.length = m := ⟨_, rfl⟩
 rw [hm] at s1 hi hl
 obtain ⟨x, hx⟩ : ∃ x, ls[i].1 = x := ⟨_, rfl⟩
 obtain ⟨y, hy⟩ : ∃ x, ls[i + 1].1 = x := ⟨_, rfl⟩
 rw [hx] at c1
 rw [hy] at d1
 have v1 : IntKind.i64.wrap ((i : Int) + 1) = ((i + 1 : Nat) : Int) := by simp only [IntKind.wrap_i64]; omega
 obtain ⟨s, v2⟩ : ∃ s, IntKind.u64.wrap (x + y) = s := ⟨_, rfl⟩
 obtain ⟨r, v3⟩ : ∃ z, IntKind.u64.wrap (n - ah) = z := ⟨_, rfl⟩
 obtain ⟨t, v4⟩ : ∃ z, IntKind.u64.wrap (r - s) = z := ⟨_, rfl⟩
 have R : Hid (∀ z W, Below w.heap.size w W → LmC w (.returned (.agg #[.int .u64 s, .int .u64 (IntKind.u64.wrap z)])) W) := fun z W hb => ⟨_, _, rfl, ⟨v2 ▸ (wrapB _).1, v2 ▸ (wrapB _).2, wrapB z⟩, hb⟩
 have k0 : (0 : Int) ≤ i := by omega
 have k1 : (i : Int) < m := by omega
 have k2 : (0 : Int) ≤ ((i + 1 : Nat) : Int) := by omega
 have k3 : ((i + 1 : Nat) : Int) < m := by omega
 have f1 := s1.three
 have l1 := s1.lt
 have aR := At.new w #[.int .u64 0, .int .u64 0] 25
 clear h hm hx hy hi hl s1
 go_enter Tryz.func362, Tryz.ntmps362
 go_wp2
 go_quiet (fail)
 go_wp2
 all_goals
  have a4 := fun z => (((aR.drewN nq).set_any 0 (.int .u64 s) rfl).set_any 1 (.int .u64 (IntKind.u64.wrap z)) rfl).two
  exact bodyPost_ret (by simp only [results, Tryz.f362]; simp [go_sem, a4]; rfl) rfl (R.out _ _ (by repeat (first | with_reducible assumption | with_reducible exact Below.refl _ _ | with_reducible refine Below.drew ?_ | with_reducible refine Below.drewN ?_ _ | with_reducible refine Below.setCell ?_ (by first | omega | (simp; done) | (simp; omega)) _ | with_reducible refine Below.alloc ?_ (by first | omega | (simp; done) | (simp; omega) | (simp [World.setCell]; omega)) _)))
theorem LmB.del (h : LmB w b (some ⟨g, 0, none⟩) c mo ls n) (hi : i + 2 ≤ ls.length) (ho : DelG .l 0 g c ls.length i (i + 2) (flatL ls) w (.returned (.slice (some ⟨g, 0, none⟩) (ls.length - 2) c)) w') :
  LmB (w'.setCell ⟨b, 1, none⟩ (.slice (some ⟨g, 0, none⟩) (ls.length - 2) c)) b (some ⟨g, 0, none⟩) c mo (ls.take i ++ ls.drop (i + 2)) n ∧ Frame [b, g] w (w'.setCell ⟨b, 1, none⟩ (.slice (some ⟨g, 0, none⟩) (ls.length - 2) c)) := by
 obtain ⟨_, ho, hF⟩ := ho
 have hl : (ls.take i ++ ls.drop (i + 2)).length = ls.length - 2 := by simp; omega
 have e := flat_cut (f := fun x : Lu => [.int .u64 x.1, .int .i64 x.2.1, .int .i64 x.2.2]) (k := 3) (fun _ => rfl) ls
 dsimp only [Sl.ty] at ho
 unfold flatL at ho
 rw [(e i).1, (e (i + 2)).2, ← List.flatMap_append, show ls.length - (i + 2 - i) = ls.length - 2 by omega] at ho
 have nb : b ∉ [g] := h.ne
 refine ⟨⟨by rw [hl]; exact (hF.at h.at' nb).set_any 1 _ rfl, ?_, h.ne⟩, (hF.mono fun q hq => by simp at hq; simp [hq]).setc (.inl (by simp)) 1 _⟩
 rw [hl]
 exact own_frame ho (Frame.set [b] _ b 1 _ (by simp)) fun q hq e => nb (by simp at e; exact e ▸ hq)
structure P2 (W0 : World) (pa pb : Nat) (x y : Lu) (W : World) : Prop where
 a : At W pa #[.int .u64 x.1, .int .i64 x.2.1, .int .i64 x.2.2] 235
 b : At W pb #[.int .u64 y.1, .int .i64 y.2.1, .int .i64 y.2.2] 235
 la : W0.heap.size ≤ pa
 lb : W0.heap.size ≤ pb
 bl : Below W0.heap.size W0 W
theorem P2.mk' {W0 V : World} {pa pb : Nat} {x y : Lu} (hV : Below W0.heap.size W0 V) (ha : At V pa #[.int .u64 0, .int .i64 0, .int .i64 0] 235) (hb : At V pb #[.int .u64 0, .int .i64 0, .int .i64 0] 235) (ne : pa ≠ pb) (la : W0.heap.size ≤ pa) (lb : W0.heap.size ≤ pb) :
  P2 W0 pa pb x y ((((((V.setCell ⟨pa, 0, none⟩ (.int .u64 x.1)).setCell ⟨pa, 1, none⟩ (.int .i64 x.2.1)).setCell ⟨pa, 2, none⟩ (.int .i64 x.2.2)).setCell ⟨pb, 0, none⟩ (.int .u64 y.1)).setCell ⟨pb, 1, none⟩ (.int .i64 y.2.1)).setCell ⟨pb, 2, none⟩ (.int .i64 y.2.2)) := by
 have three : ∀ {W : World} {p : Nat} {T : TypeId} {u v z : Value}, At W p #[.int .u64 0, .int .i64 0, .int .i64 0] T → At (((W.setCell ⟨p, 0, none⟩ u).setCell ⟨p, 1, none⟩ v).setCell ⟨p, 2, none⟩ z) p #[u, v, z] T := fun h => ((h.set_any 0 _ rfl).set_any 1 _ rfl).set_any 2 _ rfl
 have o : ∀ {W : World} {q p i : Nat} {cs : Array Value} {T : TypeId} {v : Value}, At W q cs T → q ≠ p → At (W.setCell ⟨p, i, none⟩ v) q cs T := fun h hn => h.set_other (p := ⟨_, _, none⟩) hn _
 exact ⟨o (o (o (three ha) ne) ne) ne, three (o (o (o hb ne.symm) ne.symm) ne.symm), la, lb, (((((hV.setCell la _).setCell la _).setCell la _).setCell lb _).setCell lb _).setCell lb _⟩
def PrJ (b : Nat) (A0 : Option Addr) (mo n lo hi : Int) (w W : World) (k : Nat) : Prop := ∃ A c ls, LmB W b A c mo ls n ∧ LuG ls n lo hi ∧ Mv (b :: blk A0) (b :: blk A) w W ∧ ls.length = k
end
end Go.Proofs.YtlbnlmhcpephbaaGreatDoor

namespace Go.Proofs.YtlbnlmhcpephbaaGreatDoor
abbrev Tu := Int × Int × Int
def sumT (ts : List Tu) : Int := (ts.map fun x => x.2.1).sum
def vT (ts : List Tu) : List Int := ts.map fun x => x.1
def U64 (x : Int) : Prop := 0 ≤ x ∧ x < 18446744073709551616
structure TuS (ts : List Tu) (n : Int) : Prop where
 srt : ts.Pairwise fun a b => a.1 ≤ b.1
 pos : ∀ x ∈ ts, 0 < x.2.1 ∧ I64 x.1 ∧ U64 x.2.2
 sum : sumT ts = n
def EnV (vs : List Int) (lo hi : Int) : Prop := LuN (vs.map fun x => (x, x)) lo hi
theorem sumT_append (ls ks : List Tu) : sumT (ls ++ ks) = sumT ls + sumT ks := by simp [sumT]
theorem sumT_cons (x : Tu) (ls : List Tu) : sumT (x :: ls) = x.2.1 + sumT ls := by simp [sumT]
theorem sumT_len : ∀ {ls : List Tu}, (∀ x ∈ ls, 0 < x.2.1) → (ls.length : Int) ≤ sumT ls
 | [], _ => by simp [sumT]
 | x :: ls, h => by have := h x (by simp); have := sumT_len (ls := ls) fun y hy => h y (by simp [hy]); rw [sumT_cons]; simp; omega
section
variable {ts ts' us vs : List Tu} {a b t : Tu} {n m lo hi lo2 hi2 x : Int} {k : Nat} {xs ys zs : List Int}
theorem TuS.len (h : TuS ts n) : (ts.length : Int) ≤ n := h.sum ▸ sumT_len fun x hx => (h.pos x hx).1
theorem TuS.nil : TuS [] 0 := ⟨.nil, by simp, rfl⟩
theorem dup_mem : ∀ {u : Int × Int}, u ∈ xs.map (fun x => (x, x)) ↔ u.1 = u.2 ∧ u.1 ∈ xs := by rintro ⟨p, q⟩; simp; grind
theorem EnV.congr (h : EnV xs lo hi) (h' : ∀ u, u ∈ ys ↔ u ∈ xs) : EnV ys lo hi := LuN.congr h fun u => by simp only [dup_mem, h']
theorem EnV.lay (h : EnV xs lo hi) (h' : ∀ u, u ∈ ys ↔ u = x ∨ u ∈ xs) (h0 : n = 0 ↔ xs = []) : EnV ys (lowE n lo x) (highE n hi x) := LuN.lay (v := (x, x)) h (fun u => by rw [dup_mem, dup_mem, h', Prod.ext_iff]; grind) (by simpa using h0)
theorem EnV.join (h : EnV xs lo hi) (k : EnV ys lo2 hi2) (h' : ∀ u, u ∈ zs ↔ u ∈ xs ∨ u ∈ ys) (h0 : n = 0 ↔ xs = []) (m0 : m = 0 ↔ ys = []) : EnV zs (if m = 0 then lo else lowE n lo lo2) (if m = 0 then hi else highE n hi hi2) := LuN.join h k (fun u => by rw [dup_mem, dup_mem, dup_mem, h']; grind) (by simpa using h0) (by simpa using m0)
theorem EnV.iff : EnV xs lo hi ↔ (∀ v ∈ xs, lo ≤ v ∧ v ≤ hi) ∧ (xs = [] ∨ lo ∈ xs ∧ hi ∈ xs) := by
 refine ⟨fun ⟨p, q, r, s⟩ => ⟨fun v hv => ⟨p (v, v) (by simpa using hv), q (v, v) (by simpa using hv)⟩, ?_⟩, fun ⟨p, q⟩ => ⟨fun v hv => ?_, fun v hv => ?_, ?_, ?_⟩⟩
 ·rcases r with r | ⟨v, hv, e⟩
  ·exact .inl (by simpa using r)
  rcases s with s | ⟨u, hu, e'⟩
  ·exact .inl (by simpa using s)
  rw [dup_mem] at hv hu
  exact .inr ⟨e ▸ hv.2, by rw [← e', ← hu.1]; exact hu.2⟩
 ·exact (p _ (dup_mem.1 hv).2).1
 ·rw [dup_mem] at hv; rw [← hv.1]; exact (p _ hv.2).2
 ·exact q.imp (fun e => by simp [e]) fun h => ⟨(lo, lo), dup_mem.2 ⟨rfl, h.1⟩, rfl⟩
 ·exact q.imp (fun e => by simp [e]) fun h => ⟨(hi, hi), dup_mem.2 ⟨rfl, h.2⟩, rfl⟩
theorem TuS.ins (h : TuS ts n) (p : Pos (fun i => if x < (ts.getD i (0, 0, 0)).1 then 1 else -1) ts.length k) (hx : I64 x) (hd : U64 m) : TuS (ts.take k ++ (x, 1, m) :: ts.drop k) (n + 1) ∧ ∀ u, u ∈ vT (ts.take k ++ (x, 1, m) :: ts.drop k) ↔ u = x ∨ u ∈ vT ts := by
 obtain ⟨sr, po, ss⟩ := h
 have t := List.take_append_drop k ts
 have gi : ∀ i (hi : i < ts.length), ts.getD i (0, 0, 0) = ts[i] := fun i hi => by rw [List.getD_eq_getElem?_getD, List.getElem?_eq_getElem hi]; rfl
 have h1 : ∀ u ∈ ts.take k, u.1 ≤ x := fun u hu => by
  obtain ⟨i, hi, rfl⟩ := List.getElem_of_mem hu
  rw [List.length_take] at hi
  have := p.lo i (by omega)
  rw [gi i (by omega)] at this
  rw [List.getElem_take]
  split at this <;> omega
 have h2 : ∀ u ∈ ts.drop k, x ≤ u.1 := fun u hu => by
  obtain ⟨i, hi, rfl⟩ := List.getElem_of_mem hu
  rw [List.length_drop] at hi
  have := p.hi (k + i) (by omega) (by omega)
  rw [gi (k + i) (by omega)] at this
  rw [List.getElem_drop]
  split at this <;> omega
 have e : vT ts = vT (ts.take k) ++ vT (ts.drop k) := by unfold vT; rw [← List.map_append, t]
 rw [← t, sumT_append] at ss
 rw [← t] at sr po
 refine ⟨⟨?_, fun y hy => ?_, by rw [sumT_append, sumT_cons]; dsimp only; omega⟩, fun u => ?_⟩
 ·simp only [List.pairwise_append, List.pairwise_cons, List.mem_cons] at sr ⊢
  grind
 ·simp only [List.mem_append, List.mem_cons] at hy po
  rcases hy with hy | rfl | hy
  ·exact po y (.inl hy)
  ·exact ⟨by dsimp only; omega, hx, hd⟩
  ·exact po y (.inr hy)
 ·rw [e]
  unfold vT
  simp only [List.map_append, List.map_cons, List.mem_append, List.mem_cons]
  grind
theorem TuS.into (h : TuS (us ++ a :: b :: vs) n) (hu : us ≠ []) : TuS (us ++ (b.1, a.2.1 + b.2.1, b.2.2) :: vs) n ∧ (a.2.1 + b.2.1 ≤ n) ∧ (EnV (vT (us ++ a :: b :: vs)) lo hi → EnV (vT (us ++ (b.1, a.2.1 + b.2.1, b.2.2) :: vs)) lo hi) := by
 obtain ⟨sr, po, ss⟩ := h
 have ha := po a (by simp)
 have hb := po b (by simp)
 have l1 := sumT_len (ls := us) fun x hx => (po x (by simp [hx])).1
 have l2 := sumT_len (ls := vs) fun x hx => (po x (by simp [hx])).1
 rw [sumT_append, sumT_cons, sumT_cons] at ss
 have sr' := sr
 simp only [List.pairwise_append, List.pairwise_cons, List.mem_cons] at sr
 refine ⟨⟨?_, fun y hy => ?_, by rw [sumT_append, sumT_cons]; dsimp only; omega⟩, by omega, fun e => ?_⟩
 ·simp only [List.pairwise_append, List.pairwise_cons, List.mem_cons]
  grind
 ·simp only [List.mem_append, List.mem_cons] at hy po
  rcases hy with hy | rfl | hy
  ·exact po y (.inl hy)
  ·exact ⟨by dsimp only; omega, hb.2⟩
  ·exact po y (.inr (.inr (.inr hy)))
 ·obtain ⟨u, us', rfl⟩ : ∃ u us', us = u :: us' := by cases us with | nil => exact absurd rfl hu | cons u l => exact ⟨u, l, rfl⟩
  rw [EnV.iff] at e ⊢
  obtain ⟨p, q⟩ := e
  replace q := q.resolve_left (by simp [vT])
  unfold vT at *
  simp only [List.map_append, List.map_cons, List.mem_append, List.mem_cons, List.mem_map, List.cons_append] at *
  have ab := sr.2.1.1 b (.inl rfl)
  refine ⟨fun v hv => p v (by grind), .inr ⟨?_, ?_⟩⟩
  ·left
   have := p u.1 (.inl rfl)
   rcases q.1 with h1 | ⟨y, hy, h1⟩ | h1 | h1 | ⟨y, hy, h1⟩
   ·exact h1
   ·have := (List.pairwise_cons.1 sr.1).1 y hy; omega
   ·have := sr.2.2 u (.inl rfl) a (.inl rfl); omega
   ·have := sr.2.2 u (.inl rfl) b (.inr (.inl rfl)); omega
   ·have := sr.2.2 u (.inl rfl) y (.inr (.inr hy)); omega
  ·right; right
   have := p b.1 (.inr (.inr (.inr (.inl rfl))))
   rcases q.2 with h1 | ⟨y, hy, h1⟩ | h1 | h1 | ⟨y, hy, h1⟩
   ·left; have := sr.2.2 u (.inl rfl) b (.inr (.inl rfl)); omega
   ·left; have := sr.2.2 y (.inr hy) b (.inr (.inl rfl)); omega
   ·left; omega
   ·left; exact h1
   ·right; exact ⟨y, hy, h1⟩
def SaT (ts ts' : List Tu) : Prop := ts'.map (fun x => (x.1, x.2.1)) = ts.map (fun x => (x.1, x.2.1)) ∧ ∀ x ∈ ts', U64 x.2.2
theorem SaT.v (h : SaT ts ts') : vT ts' = vT ts := by have := congrArg (List.map Prod.fst) h.1; simpa [vT, List.map_map, Function.comp_def] using this
theorem SaT.s (h : SaT ts ts') (k : TuS ts n) : TuS ts' n := by
 have hv := h.v
 have hs : sumT ts' = sumT ts := by have := congrArg (fun l => (List.map Prod.snd l).sum) h.1; simpa [sumT, List.map_map, Function.comp_def] using this
 refine ⟨?_, fun x hx => ?_, hs.trans k.sum⟩
 ·have := k.srt
  rw [← List.pairwise_map (f := fun x : Tu => x.1) (R := fun a b => a ≤ b)] at this ⊢
  unfold vT at hv
  rw [hv]
  exact this
 ·have : (x.1, x.2.1) ∈ ts.map (fun x => (x.1, x.2.1)) := h.1 ▸ List.mem_map_of_mem hx
  obtain ⟨y, hy, e⟩ := List.mem_map.1 this
  have := k.pos y hy
  simp only [Prod.mk.injEq] at e
  exact ⟨e.2 ▸ this.1, e.1 ▸ this.2.1, h.2 x hx⟩
structure MgT (us vs o f s : List Tu) : Prop where
 hf : (o ++ f).Pairwise fun a b => a.1 ≤ b.1
 hs : (o ++ s).Pairwise fun a b => a.1 ≤ b.1
 pos : ∀ x ∈ o ++ f ++ s, 0 < x.2.1 ∧ I64 x.1 ∧ U64 x.2.2
 sum : sumT o + sumT f + sumT s = sumT us + sumT vs
 mem : ∀ v, (v ∈ vT o ∨ v ∈ vT f ∨ v ∈ vT s) ↔ v ∈ vT us ∨ v ∈ vT vs
 len : o.length + f.length + s.length = us.length + vs.length
theorem MgT.start (h : TuS us n) (k : TuS vs m) : MgT us vs [] us vs := ⟨h.srt, k.srt, fun x hx => by simp at hx; exact hx.elim (h.pos x) (k.pos x), by simp [sumT], by simp [vT], by simp⟩
theorem MgT.fst {o f s : List Tu} (h : MgT us vs o (a :: f) s) (hs : ∀ x ∈ s.head?, a.1 ≤ x.1) : MgT us vs (o ++ [a]) f s := by
 obtain ⟨p, q, r, s1, s2, s3⟩ := h
 refine ⟨by simpa using p, ?_, fun x hx => r x (by grind), by rw [sumT_append, sumT_cons] at *; simp [sumT] at *; omega, fun v => by rw [← s2 v]; unfold vT; simp; grind, by simp at *; omega⟩
 rw [List.append_assoc, List.singleton_append]
 simp only [List.pairwise_append, List.pairwise_cons, List.mem_cons] at p q ⊢
 have : ∀ y ∈ s, a.1 ≤ y.1 := fun y hy => by
  cases s with
  | nil => simp at hy
  | cons z s => have := hs z (by simp); have := (List.pairwise_cons.1 q.2.1).1; grind
 exact ⟨q.1, ⟨this, q.2.1⟩, fun y hy z hz => hz.elim (fun e => e ▸ p.2.2 y hy a (.inl rfl)) (q.2.2 y hy z)⟩
theorem MgT.swap {o f s : List Tu} (h : MgT us vs o f s) : MgT vs us o s f := ⟨h.hs, h.hf, fun x hx => h.pos x (by grind), by have := h.sum; omega, fun v => by have := h.mem v; grind, by have := h.len; omega⟩
theorem MgT.done {o : List Tu} (h : MgT us vs o [] []) : TuS o (sumT us + sumT vs) ∧ (∀ v, v ∈ vT o ↔ v ∈ vT us ∨ v ∈ vT vs) := ⟨⟨by simpa using h.hf, fun x hx => h.pos x (by simp [hx]), by have := h.sum; simp [sumT] at *; omega⟩, fun v => by rw [← h.mem v]; simp [vT]⟩
end
end Go.Proofs.YtlbnlmhcpephbaaGreatDoor

namespace Go.Proofs.YtlbnlmhcpephbaaGreatDoor
open Go.RowKit
def SpB (w : World) (b : Nat) (d : Int) : Prop := ∃ g : Nat, g ≤ 14 ∧ At w b #[.int .i64 d, .int .i64 g] 210
section
variable {w w' : World} {b : Nat} {d m i : Int}
theorem SpB.below (h : SpB w b d) (hb : Below w.heap.size w w') : SpB w' b d := by
 obtain ⟨g, hg, s⟩ := h
 exact ⟨g, hg, s.below hb⟩
theorem wrapI (x : Int) : I64 (wrap64 x) := by unfold I64 wrap64; omega
theorem spsh_any (h : SpB w b d) (hm : U64 m) : Calls Tryz.prog 153 #[.pointer (some ⟨b, 0, none⟩), .int .u64 m] w fun e w' => (∃ k : Nat, e = .returned (.int .i64 k) ∧ k < 64) ∧ w = w' := by
 obtain ⟨g, hg, s⟩ := h
 have HL := Lib.hid (log_any m w hm.1 hm.2)
 have f1 := s.two
 have l1 := s.lt
 have hm2 : m.toNat < 2 ^ 64 := by have := hm.1; have := hm.2; omega
 have hz := Lib.bitLen_le m.toNat 64 (Nat.le_refl _) hm2
 generalize Lib.bitLen m.toNat = z at *
 clear s hm hm2
 go_enter Tryz.func153, Tryz.ntmps153
 go_wp2_with fail
 refine HL.out.mono ?_
 rintro e w1 ⟨rfl, rfl⟩
 have hy : IntKind.i64.wrap ((z : Int) - 1 - g) = (z : Int) - 1 - g := by simp only [IntKind.wrap_i64]; omega
 clear HL
 go_wp2
 go_ret
 exact ⟨⟨(max ((z : Int) - 1 - g) 0).toNat, by rw [Int.toNat_of_nonneg (by omega)]; first | rfl | simp, by omega⟩, rfl⟩
theorem spix_any (h : SpB w b d) (hm : U64 m) : Calls Tryz.prog 143 #[.pointer (some ⟨b, 0, none⟩), .int .u64 m] w fun e w' => (∃ i f, e = .returned (.tuple #[.int .i64 i, .bool f]) ∧ I64 i) ∧ Below w.heap.size w w' := by
 have SH := Lib.hid (spsh_any h hm)
 obtain ⟨g, hg, s⟩ := h
 have f1 := s.two
 have l1 := s.lt
 clear s
 by_cases h0 : m = 0
 ·subst h0
  clear SH
  go_enter Tryz.func143, Tryz.ntmps143
  go_wp2
  go_ret2
  exact ⟨⟨_, _, rfl, by unfold I64; omega⟩, Below.refl _ _⟩
 have d0 : (m == 0) = false := beq_eq_false_iff_ne.2 h0
 by_cases h1 : 9223372036854775808 < m
 ·clear SH
  go_enter Tryz.func143, Tryz.ntmps143
  go_wp2
  go_ret2
  exact ⟨⟨_, _, rfl, by unfold I64; omega⟩, Below.refl _ _⟩
 go_enter Tryz.func143, Tryz.ntmps143
 go_wp2_with fail
 refine SH.out.mono ?_
 rintro e w1 ⟨⟨k, rfl, hk⟩, rfl⟩
 have k0 : (0 : Int) ≤ k := by omega
 have k1 : (k : Int) < 64 := by omega
 have k2 : (0 : Int) ≤ g := by omega
 have k3 : (g : Int) < 64 := by omega
 clear SH
 go_wp2
 go_quiet (fail)
 go_wp2
 go_ret2
 exact ⟨⟨_, _, rfl, wrapI _⟩, (Below.refl _ _).drewN _⟩
def SnJ (b : Nat) (d : Int) (w : World) (q : Nat) (W : World) : Prop := ∃ j : Nat, j ≤ 14 ∧ q = 14 - j ∧ At W b #[.int .i64 d, .int .i64 j] 210 ∧ Below b w W
set_option maxRecDepth 100000 in
set_option maxHeartbeats 1000000 in
def SpN (d : Int) (w : World) (e : Ending) (w' : World) : Prop := ((∃ b, e = .returned (.tuple #[.pointer (some ⟨b, 0, none⟩), .int .i64 0]) ∧ w.heap.size ≤ b ∧ SpB w' b d ∧ 1 ≤ d ∧ d ≤ 4) ∨ ∃ f : Int, (f ≠ 0 ∧ ¬ (1 ≤ d ∧ d ≤ 4)) ∧ e = .returned (.tuple #[.pointer none, .int .i64 f])) ∧ Below w.heap.size w w'
theorem spnw_any (hT : TensAt w) : Calls Tryz.prog 58 #[.int .i64 d] w (SpN d w) := by
 by_cases h1 : d < 1
 ·have H := Lib.hid (show ¬ (1 ≤ d ∧ d ≤ 4) by omega)
  clear hT
  go_enter Tryz.func58, Tryz.ntmps58
  go_wp2
  go_ret2
  exact ⟨.inr ⟨1, ⟨by decide, H.out⟩, rfl⟩, Below.refl _ _⟩
 by_cases h4 : 4 < d
 ·have H := Lib.hid (show ¬ (1 ≤ d ∧ d ≤ 4) by omega)
  clear hT
  go_enter Tryz.func58, Tryz.ntmps58
  go_wp2
  go_ret2
  exact ⟨.inr ⟨1, ⟨by decide, H.out⟩, rfl⟩, Below.refl _ _⟩
 obtain ⟨n, rfl⟩ : ∃ n : Nat, d = n := ⟨d.toNat, by omega⟩
 obtain ⟨t, ht, hc⟩ : ∃ t : Int, t ≤ 10000 ∧ w.cell? ⟨0, n, none⟩ = some (.int .u64 t) := by
  rcases (by omega : n = 1 ∨ n = 2 ∨ n = 3 ∨ n = 4) with rfl | rfl | rfl | rfl
  ·exact ⟨_, by decide, hT.c1⟩
  ·exact ⟨_, by decide, hT.c2⟩
  ·exact ⟨_, by decide, hT.c3⟩
  ·exact ⟨_, by decide, hT.c4⟩
 have HC := Lib.hid (And.intro hc hT.lt)
 have J0 : Hid (SnJ w.heap.size n w 14 (w.alloc (.cells #[.int .i64 n, .int .i64 0] 210))) := ⟨0, by omega, rfl, At.new w _ _, bn _ _⟩
 have d4 : decide (4 < n) = false := decide_eq_false (by omega)
 have D4 : Hid ((1 : Int) ≤ n ∧ (n : Int) ≤ 4) := by show _ ∧ _; omega
 clear hc hT
 go_enter Tryz.func58, Tryz.ntmps58
 go_wp2
 generalize w.alloc _ = W1 at *
 obtain ⟨b, hb⟩ : ∃ b, w.heap.size = b := ⟨_, rfl⟩
 have HB := Lib.hid hb
 rw [hb] at J0 ⊢
 clear hb d4
 go_loopw [14] (fun _ wr => Hid (∃ q, SnJ b n w q wr)) (fun _ wr => mu fun q => SnJ b n w q wr)
 case atStart => exact ⟨_, J0.out⟩
 case round =>
  clear J0
  obtain ⟨j, hj, hq, s, hB⟩ := mu_spec hrel.out
  have f1 := s.two
  have l1 := s.lt
  have c1 := cellB (w := w) (by rw [HB.out]; exact hB) HC.out.2 HC.out.1
  have gl : 0 < wr.heap.size := by have := hB.size; have := HC.out.2; have := HB.out; omega
  have k0 : (0 : Int) ≤ j := by omega
  have k1 : j < 64 := by omega
  have k2 : (j : Int) < 64 := by omega
  have k3 : (0 : Int) ≤ n := by omega
  have k4 : (n : Int) < 5 := by omega
  obtain ⟨p, hp⟩ : ∃ p, (2 : Int) ^ j = p := ⟨_, rfl⟩
  have p14 : j = 14 → p = 16384 := fun e => by subst e; rw [← hp]; decide
  obtain ⟨pw, hw⟩ : ∃ z, IntKind.u64.wrap p = z := ⟨_, rfl⟩
  have p15 : j = 14 → pw = 16384 := fun e => by rw [← hw, p14 e]; decide
  have HB1 : Hid (∀ q, Below b w (wr.drewN q)) := fun q => hB.drewN q
  by_cases hd : pw < t
  ·have j13 : j < 14 := by rcases Nat.lt_or_ge j 14 with h | h; exact h; have := p15 (by omega); omega
   have d1 := decide_eq_true hd
   have v1 : IntKind.i64.wrap ((j : Int) + 1) = ((j + 1 : Nat) : Int) := by simp only [IntKind.wrap_i64]; omega
   have J : Hid (∀ q, SnJ b n w (14 - (j + 1)) ((wr.drewN q).setCell ⟨b, 1, none⟩ (.int .i64 ((j + 1 : Nat) : Int)))) := fun q => ⟨j + 1, by omega, rfl, (s.drewN q).set_any 1 _ rfl, (hB.drewN q).setCell (p := ⟨b, 1, none⟩) (Nat.le_refl _) _⟩
   have MU := Lib.hid hq
   clear s hB hq hd p14 p15 hrel
   go_wp2
   go_quiet (fail)
   go_wp2
   go_roundw
   case rel => exact ⟨_, J.out _⟩
   case measure => rw [MU.out]; exact Nat.lt_of_le_of_lt (mu_le (J.out _)) (by omega)
  ·have d1 := decide_eq_false hd
   have R : Hid (∀ q, SpB (wr.drewN q) b n) := fun q => ⟨j, hj, s.drewN q⟩
   clear s hB hq hd p14 p15 hrel
   go_wp2
   go_quiet (fail)
   go_wp2
   go_ret2
   exact ⟨.inl ⟨b, rfl, by rw [HB.out]; exact Nat.le_refl _, R.out _, D4.out⟩, by rw [HB.out]; exact HB1.out _⟩
theorem sppt_any (h : SpB w b d) (hi : I64 i) : Calls Tryz.prog 136 #[.pointer (some ⟨b, 0, none⟩), .int .i64 i] w fun e w' => (∃ k m f, e = .returned (.tuple #[.int .i64 k, .int .u64 m, .bool f]) ∧ 0 ≤ k ∧ I64 k ∧ U64 m) ∧ Below w.heap.size w w' := by
 have IX := Lib.hid (spix_any (m := 9223372036854775808) h (by unfold U64; omega))
 have H := Lib.hid h
 clear h
 go_enter Tryz.func136, Tryz.ntmps136
 go_wp2_with fail
 refine IX.out.mono ?_
 rintro e w1 ⟨⟨z, f, rfl, hz⟩, hb⟩
 obtain ⟨g, hg, s⟩ := H.out.below hb
 have f1 := s.two
 have l1 := s.lt
 have k2 : (0 : Int) ≤ g := by omega
 have k3 : (g : Int) < 64 := by omega
 clear IX H s hg
 by_cases hc : f = true ∧ 1 ≤ i ∧ i ≤ z
 rotate_left
 ·have d1 : f = false ∨ f = true ∧ decide (i < 1) = true ∨ f = true ∧ decide (i < 1) = false ∧ decide (z < i) = true := by cases f <;> simp at hc ⊢; omega
  clear hc
  rcases d1 with rfl | ⟨rfl, d1⟩ | ⟨rfl, d1, d2⟩
  all_goals
   go_wp2
   go_ret3
   exact ⟨⟨_, _, _, rfl, by unfold I64 U64; omega⟩, hb⟩
 obtain ⟨rfl, h1, h2⟩ := hc
 have d1 : decide (i < 1) = false := decide_eq_false (by omega)
 have d2 : decide (z < i) = false := decide_eq_false (by omega)
 go_wp2
 go_quiet (fail)
 go_wp2
 go_ret3
 exact ⟨⟨_, _, _, rfl, by omega, by have := wrapI (i / 2 ^ g - 1); unfold I64 at *; omega, wrapB _⟩, hb.drewN _⟩
theorem minU (x : Int) : U64 (min (IntKind.u64.wrap x) 9223372036854775808) := by have := wrapB x; unfold U64; omega
theorem sprg_any (h : SpB w b d) (hi : I64 i) : Calls Tryz.prog 125 #[.pointer (some ⟨b, 0, none⟩), .int .i64 i] w fun e w' => (∃ x y, e = .returned (.tuple #[.int .u64 x, .int .u64 y]) ∧ U64 x ∧ U64 y) ∧ Below w.heap.size w w' := by
 have PT := Lib.hid (sppt_any h hi)
 clear h hi
 go_enter Tryz.func125, Tryz.ntmps125
 go_wp2_with fail
 refine PT.out.mono ?_
 rintro e w1 ⟨⟨k, m, f, rfl, hk, hk2, hm⟩, hb⟩
 clear PT
 cases f
 ·go_wp2
  go_ret2
  exact ⟨⟨_, _, rfl, by unfold U64; omega⟩, hb⟩
 obtain ⟨k, rfl⟩ : ∃ q : Nat, k = q := ⟨k.toNat, by omega⟩
 by_cases h6 : k < 64
 ·have k1 : (k : Int) < 64 := by omega
  go_wp2
  go_quiet (fail)
  go_wp2
  go_ret2
  exact ⟨⟨_, _, rfl, wrapB _, minU _⟩, hb.drewN _⟩
 ·have k1 : ¬ ((k : Int) < 64) := by omega
  go_wp2
  go_quiet (fail)
  go_wp2
  go_ret2
  exact ⟨⟨_, _, rfl, wrapB _, minU _⟩, hb.drewN _⟩
theorem sprp_any (h : SpB w b d) (hi : I64 i) : Calls Tryz.prog 104 #[.pointer (some ⟨b, 0, none⟩), .int .i64 i] w fun e w' => (∃ x, e = .returned (.int .u64 x) ∧ U64 x) ∧ Below w.heap.size w w' := by
 have RG := Lib.hid (sprg_any h hi)
 clear h hi
 go_enter Tryz.func104, Tryz.ntmps104
 go_wp2_with fail
 refine RG.out.mono ?_
 rintro e w1 ⟨⟨x, y, rfl, hx, hy⟩, hb⟩
 clear RG
 go_wp2
 go_ret
 exact ⟨⟨_, rfl, wrapB _⟩, hb⟩
end
end Go.Proofs.YtlbnlmhcpephbaaGreatDoor

namespace Go.Proofs.YtlbnlmhcpephbaaGreatDoor
open Go.RowKit
theorem At.c8 {w : World} {b : Nat} {T : TypeId} {v0 v1 v2 v3 v4 v5 v6 v7 : Value} (h : At w b #[v0, v1, v2, v3, v4, v5, v6, v7] T) : w.cell? ⟨b, 0, none⟩ = some v0 ∧ w.cell? ⟨b, 1, none⟩ = some v1 ∧ w.cell? ⟨b, 2, none⟩ = some v2 ∧ w.cell? ⟨b, 3, none⟩ = some v3 ∧ w.cell? ⟨b, 4, none⟩ = some v4 ∧ w.cell? ⟨b, 5, none⟩ = some v5 ∧ w.cell? ⟨b, 6, none⟩ = some v6 ∧ w.cell? ⟨b, 7, none⟩ = some v7 ∧ ∀ i, w.frozen? ⟨b, i, none⟩ = false := ⟨h.cell rfl, h.cell rfl, h.cell rfl, h.cell rfl, h.cell rfl, h.cell rfl, h.cell rfl, h.cell rfl, h.frozen⟩
def upd {α : Type} (f : Bool → α) (s : Bool) (x : α) : Bool → α := fun t => if t = s then x else f t
abbrev hB (d lim : Int) (p : Nat) (B : Bool → Nat) (z lo hi : Int) : Array Value := #[.int .i64 d, .int .u64 lim, .pointer (some ⟨p, 0, none⟩), .pointer (some ⟨B true, 0, none⟩), .pointer (some ⟨B false, 0, none⟩), .int .u64 z, .int .i64 lo, .int .i64 hi]
structure HdC (w : World) (b p : Nat) (B : Bool → Nat) (S : Bool → List Nat) (d lim : Int) (P : Bool → List (Int × Int)) (z lo hi : Int) : Prop where
 at' : At w b (hB d lim p B z lo hi) 161
 span : SpB w p d
 st : ∀ s, Strip w (B s) (S s) 4096 (P s)
 z0 : 0 ≤ z
 ne : b ≠ p ∧ (∀ s, b ∉ S s ∧ p ∉ S s) ∧ Apart (S true) (S false)
def hN (P : Bool → List (Int × Int)) (z : Int) : Int := sumP (P true) + z + sumP (P false)
def hS (b p : Nat) (S : Bool → List Nat) : List Nat := b :: p :: (S true ++ S false)
def Hw (w : World) (b : Nat) (S : List Nat) (d lim : Int) (m : Nat) (n lo hi : Int) : Prop := ∃ p B T P z x y, S = hS b p T ∧ HdC w b p B T d lim P z x y ∧ n = hN P z ∧ (n ≠ 0 → x = lo ∧ y = hi) ∧ (P true).length + (P false).length ≤ m
section
variable {w w' : World} {b p : Nat} {B : Bool → Nat} {S : Bool → List Nat} {T U : List Nat} {d lim z lo hi n x y z2 : Int} {P : Bool → List (Int × Int)} {ps : List (Int × Int)} {s : Bool}
theorem HdC.frame (h : HdC w b p B S d lim P z lo hi) (hf : Frame U w w') (hn : Apart (hS b p S) U) : HdC w' b p B S d lim P z lo hi := by
 obtain ⟨g, hg, k⟩ := h.span
 exact ⟨hf.at h.at' (hn b (by simp [hS])), ⟨g, hg, hf.at k (hn p (by simp [hS]))⟩, fun s => (h.st s).frame hf fun k hk => hn k (by cases s <;> simp [hS, hk]), h.z0, h.ne⟩
theorem HdC.below (h : HdC w b p B S d lim P z lo hi) (hb : Below w.heap.size w w') : HdC w' b p B S d lim P z lo hi := h.frame (U := []) (Frame.of_below hb) fun _ _ => by simp
theorem HdC.lt (h : HdC w b p B S d lim P z lo hi) : ∀ k ∈ hS b p S, k < w.heap.size := by
 obtain ⟨g, hg, s⟩ := h.span
 intro k hk
 simp only [hS, List.mem_cons, List.mem_append] at hk
 rcases hk with rfl | rfl | hk | hk
 ·exact h.at'.lt
 ·exact s.lt
 ·exact (h.st true).lt k hk
 ·exact (h.st false).lt k hk
theorem HdC.nn (h : HdC w b p B S d lim P z lo hi) (s : Bool) : 0 ≤ sumP (P s) := sumP_nonneg (h.st s).gd.pos
theorem HdC.set {i : Nat} {v : Value} (h : HdC w b p B S d lim P z lo hi) (hs : At (w.setCell ⟨b, i, none⟩ v) b (hB d lim p B z2 x y) 161) (hz : 0 ≤ z2) : HdC (w.setCell ⟨b, i, none⟩ v) b p B S d lim P z2 x y := by
 have f := Frame.set [b] w b i v (by simp)
 obtain ⟨g, hg, k⟩ := h.span
 exact ⟨hs, ⟨g, hg, f.at k fun e => h.ne.1 (by simp at e; exact e.symm)⟩, fun s => (h.st s).frame f fun k hk e => (h.ne.2.1 s).1 (by simp at e; exact e ▸ hk), hz, h.ne⟩
theorem HdC.add (h : HdC w b p B S d lim P z lo hi) (m : Mv (S s) T w w') (k : Strip w' (B s) T 4096 ps) : HdC w' b p B (upd S s T) d lim (upd P s ps) z lo hi ∧ Mv (hS b p S) (hS b p (upd S s T)) w w' := by
 obtain ⟨g, hg, q⟩ := h.span
 have n : ∀ k, k < w.heap.size → k ∉ S s → k ∉ T := fun k hk hn hm => (m.g k hm).elim hn (by omega)
 have l := fun s => (h.st s).lt
 obtain ⟨e1, e2, e3⟩ := h.ne
 refine ⟨⟨m.f.at h.at' (e2 s).1, ⟨g, hg, m.f.at q (e2 s).2⟩, fun t => ?_, h.z0, e1, fun t => ?_, ?_⟩, fun k hk => ?_, m.f.mono fun k hk => by cases s <;> simp [hS, hk]⟩
 ·unfold upd
  by_cases e : t = s
  ·subst e; simpa using k
  ·simp only [e, if_false]
   exact (h.st t).frame m.f (by cases t <;> cases s <;> simp at e; exact e3.symm; exact e3)
 ·unfold upd
  split
  ·exact ⟨n b h.at'.lt (e2 s).1, n p q.lt (e2 s).2⟩
  ·exact e2 t
 ·cases s <;> simp only [upd, reduceIte, Bool.false_eq_true, Bool.true_eq_false] <;> intro k hk hm
  ·exact n k (l true k hk) (e3 k hk) hm
  ·exact n k (l false k hm) (e3.symm k hm) hk
 ·have := m.g k
  cases s <;> simp only [hS, upd, reduceIte, Bool.false_eq_true, Bool.true_eq_false, List.mem_cons, List.mem_append] at hk this ⊢ <;> grind
theorem hN_upd : hN (upd P s ps) z = hN P z - sumP (P s) + sumP ps := by cases s <;> simp [hN, upd] <;> omega
theorem htot_any (h : HdC w b p B S d lim P z lo hi) (hs : hN P z ≤ 8000) : Calls Tryz.prog 107 #[.pointer (some ⟨b, 0, none⟩)] w fun e w' => e = .returned (.int .u64 (hN P z)) ∧ Below w.heap.size w w' := by
 have s1 := h.at'
 have H := Lib.hid fun W (hb : Below w.heap.size w W) s => stotal_any _ _ _ _ _ ((h.below hb).st s)
 have E : Hid (IntKind.u64.wrap (IntKind.u64.wrap (sumP (P true) + z) + sumP (P false)) = hN P z) := by have := h.nn true; have := h.nn false; have := h.z0; unfold hN at *; show _ = _; simp only [IntKind.wrap_u64]; omega
 clear h hs
 go_enter Tryz.func107, Tryz.ntmps107
 go_wp2
 have hfar1 := fun x : Far w => (x.at s1).c8
 refine wp_region_far (by kernel_rfl) (by kernel_rfl) ?_
 repeat go_big_quiet_step (first | (with_reducible refine far_eq (H.out _ (Far.below _) true)) | (with_reducible refine far_eq (H.out _ (Far.below _) false)))
 refine wpQuiet_nil ?_
 rintro _ ⟨xq, rfl⟩
 clear hfar1
 rw [E.out]
 go_wp2
 go_ret
 exact ⟨rfl, xq.below⟩
theorem hside_any (h : HdC w b p B S d lim P z lo hi) (hx : I64 x) : Calls Tryz.prog 216 #[.pointer (some ⟨b, 0, none⟩), .int .i64 x] w fun e w' => (∃ s i f, e = .returned (.tuple #[.pointer (some ⟨B s, 0, none⟩), .int .i64 i, .bool f]) ∧ I64 i) ∧ Below w.heap.size w w' := by
 have SG := Lib.hid (sgof_any x w hx.1 hx.2)
 have IX := Lib.hid (spix_any (m := x.natAbs) h.span (by unfold U64 I64 at *; omega))
 have s1 := h.at'
 have f1 := s1.c8
 have l1 := s1.lt
 clear h hx
 go_enter Tryz.func216, Tryz.ntmps216
 go_wp2_with fail
 refine SG.out.mono ?_
 rintro e w1 ⟨rfl, rfl⟩
 generalize decide (x < 0) = g
 go_wp2_with fail
 refine IX.out.mono ?_
 rintro e w2 ⟨⟨i, f, rfl, hi⟩, hb⟩
 have f2 := (s1.below hb).c8
 have l2 := (s1.below hb).lt
 clear f1 l1
 cases g
 all_goals
  go_wp2
  go_ret3
  exact ⟨⟨_, i, f, rfl, hi⟩, hb⟩
end
end Go.Proofs.YtlbnlmhcpephbaaGreatDoor
