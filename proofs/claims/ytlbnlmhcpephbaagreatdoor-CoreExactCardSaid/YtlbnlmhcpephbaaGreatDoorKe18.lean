/- Texts of this claim, joined, indents halved: ETu5, ELw5, ECl1, EBn1, EBn2, EBn3. -/
import Derived.Test.YtlbnlmhcpephbaaGreatDoorProg
import Derived.StillTailTactics
import Derived.Test.YtlbnlmhcpephbaaGreatDoorKe17
namespace Go.Proofs.YtlbnlmhcpephbaaGreatDoor
open Go.RowKit
section
variable {w w' W : World} {c n' m k : Nat} {A : Option Addr} {n v : Int} {ts : List Tu}
theorem sumT_step (h : TuS ts n) (hk : k < ts.length) : sumT (ts.take (k + 1)) = sumT (ts.take k) + ts[k].2.1 ∧ 0 ≤ sumT (ts.take k) ∧ 0 < ts[k].2.1 ∧ sumT (ts.take k) + ts[k].2.1 ≤ n := by
 have e := List.take_append_drop k ts
 rw [List.drop_eq_getElem_cons hk] at e
 have s := h.sum
 have p := h.pos
 rw [← e, sumT_append, sumT_cons] at s
 have l1 := sumT_len (ls := ts.take k) fun x hx => (p x (List.mem_of_mem_take hx)).1
 have l2 := sumT_len (ls := ts.drop (k + 1)) fun x hx => (p x (List.mem_of_mem_drop hx)).1
 exact ⟨by rw [List.take_succ_eq_append_getElem hk, sumT_append, sumT_cons]; simp [sumT], by omega, (p _ (List.getElem_mem hk)).1, by omega⟩
set_option maxRecDepth 100000 in
set_option maxHeartbeats 1000000 in
theorem ttot_any (h : Rd w A (flatT ts)) (g : TuS ts n) (hm : ts.length = m) (hn : n ≤ 8000) : Calls Tryz.prog 113 #[.slice A m c] w fun e w' => e = .returned (.tuple #[.int .u64 n, .bool true]) ∧ Below w.heap.size w w' := by
 have m8 : m ≤ 8000 := by have := g.len; omega
 have H := Lib.hid h
 have G := Lib.hid (And.intro g (And.intro hm hn))
 clear h g hm hn
 go_enter Tryz.func113, Tryz.ntmps113
 go_wp2
 go_loopw [4, 5, 7, 10] (fun a _ _ i wr => ∃ (k : Nat) (t : Int), k ≤ m ∧ i = .int .i64 k ∧ a = .int .u64 t ∧ Hid (t = sumT (ts.take k)) ∧ Below w.heap.size w wr) (fun _ _ _ i _ => m - (intOf i).toNat)
 case atStart => exact ⟨0, 0, by omega, rfl, rfl, rfl, Below.refl _ _⟩
 case round =>
  obtain ⟨k, t, hk, rfl, rfl, T, hB⟩ := hrel
  by_cases hlt : k < m
  ·have hkl : k < ts.length := by have := G.out; omega
   obtain ⟨g, o, rfl, hg, d1, d2, d3⟩ := (H.out.below hB).at3 hkl
   have S := sumT_step G.out.1 hkl
   rw [← T.out] at S
   have k0 : (0 : Int) ≤ k := by omega
   have k1 : (k : Int) < m := by omega
   have k2 : IntKind.i64.wrap ((k : Int) + 1) = ((k + 1 : Nat) : Int) := by simp only [IntKind.wrap_i64]; omega
   generalize ts[k].1 = z1 at *
   generalize ts[k].2.1 = z2 at *
   generalize ts[k].2.2 = z3 at *
   have PL := Lib.hid (plus2_new (a := t) (b := z2) (w := wr.alloc (.cells #[.int .i64 z1, .int .u64 z2, .int .u64 z3] 230)) (bn wr _) S.2.1 (by omega) (by have := G.out; omega))
   replace S := Lib.hid S
   clear hkl T
   go_wp2_with fail
   rw [show wr.heap.size + 1 = (wr.alloc (.cells #[.int .i64 z1, .int .u64 z2, .int .u64 z3] 230)).heap.size by simp]
   refine PL.out.mono ?_
   rintro e w2 ⟨rfl, hb⟩
   replace hB := keep1 hB hb
   clear d1 d2 d3 PL hb
   go_wp2
   go_roundw
   case rel => exact ⟨k + 1, _, by omega, rfl, rfl, S.out.1.symm, hB⟩
   case measure => simp [intOf]; omega
  ·obtain rfl : k = m := by omega
   have R : Hid (t = n) := by show _ = _; rw [T.out, List.take_of_length_le (by have := G.out; omega), G.out.1.sum]
   clear T H
   go_wp2
   go_ret2
   exact ⟨by rw [R.out]; rfl, hB⟩
def SomeB (w : World) (e : Ending) (w' : World) : Prop := (∃ b : Bool, e = .returned (.bool b)) ∧ Below w.heap.size w w'
set_option maxRecDepth 100000 in
set_option maxHeartbeats 1000000 in
theorem tgood_any (h : Rd w A (flatT ts)) (g : TuS ts n) (hm : ts.length = m) (hn : n ≤ 8000) : Calls Tryz.prog 114 #[.slice A m c] w (SomeB w) := by
 have m8 : m ≤ 8000 := by have := g.len; omega
 have HC := Lib.hid (ttot_any (c := c) h g hm hn)
 have H := Lib.hid h
 have G := Lib.hid (And.intro g (And.intro hm hn))
 clear h g hm hn
 go_enter Tryz.func114, Tryz.ntmps114
 go_wp2_with fail
 refine HC.out.mono ?_
 rintro e w1 ⟨rfl, hB1⟩
 clear HC
 go_wp2
 go_loopw [5, 6, 7, 17] (fun a _ _ i wr => ∃ k : Nat, ∃ av : Int, k ≤ m ∧ i = .int .i64 k ∧ a = .int .u64 av ∧ Below w.heap.size w wr) (fun _ _ _ i _ => m - (intOf i).toNat)
 case atStart => exact ⟨0, 0, by omega, rfl, rfl, hB1⟩
 case round =>
  clear hB1
  obtain ⟨k, av, hk, rfl, rfl, hB⟩ := hrel
  by_cases hlt : k < m
  ·have hkl : k < ts.length := by have := G.out; omega
   obtain ⟨g, o, rfl, hg, d1, d2, d3⟩ := (H.out.below hB).at3 hkl
   have c1 : (ts[k].2.1 == 0) = false := beq_eq_false_iff_ne.2 (by have := (G.out.1.pos _ (List.getElem_mem hkl)).1; omega)
   have k0 : (0 : Int) ≤ k := by omega
   have k1 : (k : Int) < m := by omega
   have k2 : IntKind.i64.wrap ((k : Int) + 1) = ((k + 1 : Nat) : Int) := by simp only [IntKind.wrap_i64]; omega
   have c3 : decide (0 < k) = false ∨ decide (0 < k) = true ∧ (0 : Int) ≤ (k - 1 : Nat) ∧ ((k - 1 : Nat) : Int) < m ∧ IntKind.i64.wrap ((k : Int) - 1) = ((k - 1 : Nat) : Int) ∧ ∃ p : Int, wr.cell? ⟨g, o + (k - 1) * 3, none⟩ = some (.int .i64 p) ∧ ¬ ts[k].1 < p := by
    by_cases h : 0 < k
    ·obtain ⟨g', o', e, _, t1, _, _⟩ := (H.out.below hB).at3 (j := k - 1) (by omega)
     cases e
     exact .inr ⟨by simpa using h, by omega, by omega, by simp only [IntKind.wrap_i64]; omega, _, t1, Int.not_lt.2 (List.pairwise_iff_getElem.1 G.out.1.srt (k - 1) k (by omega) hkl (by omega))⟩
    ·exact .inl (by simpa using h)
   generalize ts[k].1 = z1 at *
   generalize ts[k].2.1 = z2 at *
   generalize ts[k].2.2 = z3 at *
   have bA := bn wr (.cells #[.int .i64 z1, .int .u64 z2, .int .u64 z3] 230)
   have sB := At.new wr #[.int .i64 z1, .int .u64 z2, .int .u64 z3] 230
   obtain ⟨av2, hav⟩ : ∃ av2, IntKind.u64.wrap (av + z2) = av2 := ⟨_, rfl⟩
   obtain ⟨lv, hlv⟩ : ∃ lv, IntKind.u64.wrap (n - av2) = lv := ⟨_, rfl⟩
   clear hkl H
   go_upto_region 9 with fail
   generalize wr.alloc _ = wa at *
   have gW : g < wa.heap.size := Nat.lt_of_lt_of_le hg bA.size
   have hfa1 := fun (p : Int) (e : wr.cell? ⟨g, o + (k - 1) * 3, none⟩ = some (.int .i64 p)) (x : Far wa) => x.cell gW (cellB bA hg e)
   replace hB := keep1 hB bA
   generalize wr.heap.size = B at *
   clear d1 d2 d3 bA gW
   by_cases c2 : lv < z3
   rotate_left
   rcases c3 with c3 | ⟨c3, c4, c5, c6, p, e, c7⟩
   rotate_left
   replace hfa1 := hfa1 p e
   all_goals
    have hfar1 := fun x : Far wa => (x.at sB).three
    refine wp_region_far (by kernel_rfl) (by kernel_rfl) ?_
    repeat go_big_quiet_step (first | fail)
    refine wpQuiet_nil ?_
    rintro _ ⟨xq, rfl⟩
    clear hfar1
    replace hB := keep1 hB xq.below
    try clear hfa1
    generalize xq.far = W at *
    go_wp2
   rotate_left
   ·go_ret
    exact ⟨⟨_, rfl⟩, hB⟩
   all_goals
    go_roundw
    case rel => exact ⟨k + 1, av2, by omega, by simp, rfl, hB⟩
    case measure => simp [intOf]; omega
  ·obtain rfl : k = m := by omega
   by_cases h0 : k = 0
   ·have h1 : ((k : Int) == 0) = true := by subst h0; rfl
    clear h0 H
    go_wp2
    go_ret
    exact ⟨⟨_, rfl⟩, hB⟩
   ·have h1 : ((k : Int) == 0) = false := beq_eq_false_iff_ne.2 (by omega)
    obtain ⟨g, o, rfl, hg, d1, d2, d3⟩ := (H.out.below hB).at3 (j := 0) (by have := G.out; omega)
    rw [Nat.zero_mul, Nat.add_zero] at d1 d2 d3
    have k1 : (0 : Int) < k := by omega
    have h2 := G.out.2.1
    generalize ts[0].2.1 = z2 at *
    clear h2 H
    cases hc : (z2 == 1)
    all_goals
     go_wp2
     go_ret
     exact ⟨⟨_, rfl⟩, hB⟩
end
end Go.Proofs.YtlbnlmhcpephbaaGreatDoor

namespace Go.Proofs.YtlbnlmhcpephbaaGreatDoor
open Go.RowKit
set_option maxRecDepth 100000
section
variable {s : Bool} {w w' W : World} {b k o q : Nat} {T U : List Nat} {most l l2 n i e x c N : Int} {ps qs : List (Int × Int)} {A : Option Addr}
theorem rgood_w {cc : Nat} (gd : Gd qs) (hr : RdP w A qs) (hs : sumP qs ≤ 16000) (hl : qs.length ≤ 16000) : Calls Tryz.prog 131 #[.slice A qs.length cc, .int .i64 most] w (SomeB w) := by
 have G := Lib.hid (And.intro gd (And.intro hr hs))
 obtain ⟨n, hn⟩ : ∃ n, qs.length = n := ⟨_, rfl⟩
 have HN := Lib.hid hn
 rw [hn] at hl ⊢
 clear gd hr hs hn
 go_enter Tryz.func131, Tryz.ntmps131
 go_wp2
 go_loopw [5, 6, 9] (fun _ _ i wr => ∃ j : Nat, j ≤ n ∧ i = .int .i64 j ∧ Hid (Below w.heap.size w wr)) (fun _ _ i _ => n - (intOf i).toNat)
 case atStart => exact ⟨0, by omega, rfl, Below.refl _ _⟩
 case round =>
  obtain ⟨j, hj, rfl, hB⟩ := hrel
  by_cases hlt : j < n
  ·have hjl : j < qs.length := by have := HN.out; omega
   obtain ⟨g, o', rfl, hg, d1, d2⟩ := (G.out.2.1.below hB.out).at j hjl
   have gp := G.out.1.pos _ (List.getElem_mem hjl)
   have gl := Int.le_trans (Int.le_trans (by have := sumP_take qs j hjl; have := sumP_nonneg (ps := qs.take j) fun x hx => G.out.1.pos x (List.mem_of_mem_take hx); omega) (sumP_take_le G.out.1.pos (j + 1))) G.out.2.2 (a := qs[j].2)
   have E : Hid (∀ h : 0 < j, ∃ y, wr.cell? ⟨g, o' + (j - 1) * 2, none⟩ = some (.int .i64 y) ∧ y < qs[j].1) := fun h => by
    obtain ⟨_, _, e, _, c1, _⟩ := (G.out.2.1.below hB.out).at (j - 1) (by omega)
    cases e
    exact ⟨_, c1, List.pairwise_iff_getElem.1 G.out.1.srt (j - 1) j (by omega) hjl (by omega)⟩
   generalize qs[j].1 = x at *
   generalize qs[j].2 = c at *
   have j0 : (0 : Int) ≤ j := by omega
   have j1 : (j : Int) < n := by omega
   have j2 : IntKind.i64.wrap ((j : Int) + 1) = ((j + 1 : Nat) : Int) := by simp only [IntKind.wrap_i64]; omega
   have c0 : (c == 0) = false := beq_eq_false_iff_ne.2 (by omega)
   have c1 : decide (9223372036854775807 < c) = false := decide_eq_false (by omega)
   have aP := At.new wr #[.int .i64 x, .int .u64 c] 247
   have hb := Lib.hid fun q => (keep1 hB.out (bn wr (.cells #[.int .i64 x, .int .u64 c] 247))).drewN q
   have f1 := aP.two
   have l1 := aP.lt
   clear gp gl hjl hB aP
   rcases Nat.eq_zero_or_pos j with rfl | h
   ·clear E
    simp only [Nat.zero_mul, Nat.add_zero] at d1 d2
    go_wp2
    go_quiet (fail)
    go_wp2
    go_roundw
    case rel => exact ⟨1, by omega, by simp, hb.out _⟩
    case measure => simp [intOf]; omega
   ·obtain ⟨y, e1, e2⟩ := E.out h
    have e3 : decide (x ≤ y) = false := decide_eq_false (by omega)
    have k0 : IntKind.i64.wrap ((j : Int) - 1) = ((j - 1 : Nat) : Int) := by simp only [IntKind.wrap_i64]; omega
    have k1 : (0 : Int) ≤ ((j - 1 : Nat) : Int) := by omega
    have k2 : ((j - 1 : Nat) : Int) < n := by omega
    have k3 : decide ((0 : Int) < j) = true := decide_eq_true (by omega)
    have k4 : decide (0 < j) = true := decide_eq_true h
    clear E e2
    go_wp2
    go_quiet (fail)
    go_wp2
    go_roundw
    case rel => exact ⟨j + 1, by omega, by simp, hb.out _⟩
    case measure => simp [intOf]; omega
  ·go_wp2
   go_ret
   exact ⟨⟨_, rfl⟩, hB.out⟩
theorem LnR.no {c : Int} (hc : c ≠ 0) (hb : Below w.heap.size w w') : LnR s most n w (.returned (.tuple #[.pointer none, .int .i64 c])) w' := ⟨.inr ⟨c, hc, rfl⟩, hb⟩
def LdL (s : Bool) (most : Int) (qs : List (Int × Int)) (A : Option Addr) (w : World) (b j : Nat) (W : World) : Prop := ∃ k T w1, Within (b :: T) w.heap.size w1.heap.size ∧ Below w.heap.size w w1 ∧ LmJ s b k T most 0 qs w1 A j W
theorem LdL.bl {j : Nat} (h : LdL s most qs A w b j W) : Below w.heap.size w W := by
 obtain ⟨k, T, w1, wi, hb, T', ps, l, h, m, -⟩ := h
 exact m.f.below hb hb.size fun j hj => (wi j hj).1
theorem LdL.en {j : Nat} (h : LdL s most qs A w b j W) (hj : j = qs.length) : ∃ k l', At W b #[.int .i64 most, .pointer (some ⟨k, 0, none⟩), .int .u64 l'] (lk s).T ∧ 0 ≤ l' ∧ (l' = 0 → 0 ≤ l → LnR s most (sumP qs + l) w (.returned (.tuple #[.pointer (some ⟨b, 0, none⟩), .int .i64 0])) (W.setCell ⟨b, 2, none⟩ (.int .u64 l))) := by
 have B := h.bl
 obtain ⟨k, T, w1, wi, hb, T', ps, l', h, m, e, -⟩ := h
 have ge := m.ge (n := w.heap.size) (fun j hj => (wi j hj).1) hb.size
 refine ⟨k, l', h.at', h.l0, fun e0 h0 => ?_⟩
 subst e0
 have h2 := h.lost h0
 rw [hj, List.take_length] at e
 exact ⟨.inl ⟨b, k, T', ps, l, rfl, h2, by omega, fun j hj => ⟨ge j hj, h2.lt j hj⟩⟩, B.setCell (p := ⟨b, 2, none⟩) (ge b (by simp)) _⟩
set_option maxHeartbeats 1000000 in
theorem lload_w {cc : Nat} (gd : Gd qs) (ok : okP qs) (hr : RdP w A qs) (h0 : 0 ≤ l) (hs : sumP qs + l ≤ 16000) (hl : qs.length ≤ 16000) : Calls Tryz.prog (lk s).D #[.int .i64 most, .slice A qs.length cc, .int .u64 l] w (LnR s most (sumP qs + l) w) := by
 have NW : Hid (Calls Tryz.prog (lk s).N #[.int .i64 most] w fun e w1 => ((∃ b, e = .returned (.tuple #[.pointer (some ⟨b, 0, none⟩), .int .i64 0]) ∧ LdL s most qs A w b 0 w1) ∨ ∃ c : Int, c ≠ 0 ∧ e = .returned (.tuple #[.pointer none, .int .i64 c])) ∧ Below w.heap.size w w1) := by
  refine (lnew_w (s := s) (most := most) (w := w)).mono ?_
  rintro e w1 ⟨⟨⟨b, k, T, ps, l, rfl, h, e, wi⟩ | h, hb⟩, -⟩
  ·exact ⟨.inl ⟨b, rfl, k, T, w1, wi, hb, T, ps, l, h, Mv.of _ (Below.refl _ _), by simp [sumP_nil]; omega, RdA.new hr hb fun j hj => (wi j hj).1⟩, hb⟩
  ·exact ⟨.inr h, hb⟩
 have F : Hid (∀ (c : Int) W, c ≠ 0 → Below w.heap.size w W → LnR s most (sumP qs + l) w (.returned (.tuple #[.pointer none, .int .i64 c])) W) := fun c W h k => LnR.no h k
 have sn := sumP_nonneg gd.pos
 have GD := Lib.hid fun W (hb : Below w.heap.size w W) => rgood_w (most := most) (cc := cc) gd (hr.below hb) (by omega) hl
 have BL : Hid (∀ b j W, LdL s most qs A w b j W → Below w.heap.size w W ∧ RdP W A qs) := fun b j W h => ⟨h.bl, hr.below h.bl⟩
 have AL : Hid (∀ b j W W', LdL s most qs A w b j W → Below W.heap.size W W' → LdL s most qs A w b j W') := fun b j W W' ⟨k, T, w1, a, c, h⟩ hb => ⟨k, T, w1, a, c, h.alloc hb⟩
 have ST : Hid (∀ b j W (hj : j < qs.length), LdL s most qs A w b j W → Calls Tryz.prog (lk s).A #[.pointer (some ⟨b, 0, none⟩), .int .i64 qs[j].1, .int .u64 qs[j].2] W fun e w' => e = .returned (.int .i64 0) ∧ LdL s most qs A w b (j + 1) w') := fun b j W hj ⟨k, T, w1, a, c, h⟩ => (h.step hj gd ok (by omega)).2.mono fun e w' h => ⟨h.1, k, T, w1, a, c, h.2⟩
 have TT : Hid (∀ b W, LdL s most qs A w b qs.length W → Calls Tryz.prog (lk s).Z #[.pointer (some ⟨b, 0, none⟩)] W fun e w' => e = .returned (.int .u64 (sumP qs)) ∧ Below W.heap.size W w') := fun b W ⟨k, T, w1, _, _, T', ps, l', h, _, e, _⟩ => by
  rw [List.take_length, Int.zero_add] at e
  have := ltot_w h (by omega)
  rwa [e] at this
 have EN : Hid (∀ b W, LdL s most qs A w b qs.length W → _) := fun b W h => h.en (l := l) rfl
 have PL := Lib.hid fun W => plus2_new (a := sumP qs) (b := l) (Below.refl (World.heap W).size W) sn h0 (by omega)
 obtain ⟨R, hR⟩ : ∃ R, LdL s most qs A w = R := ⟨_, rfl⟩
 obtain ⟨n, hn⟩ : ∃ n, qs.length = n := ⟨_, rfl⟩
 have HN := Lib.hid hn
 have L0 := Lib.hid h0
 rw [hR] at NW BL AL ST TT EN
 rw [hn] at TT EN GD hl ⊢
 generalize sumP qs + l = N at *
 generalize sumP qs = M at *
 clear gd ok hr h0 hs sn hn hR
 cases s
 all_goals
  dsimp only [lk]
  first | go_enter Tryz.func124, Tryz.ntmps124 | go_enter Tryz.func123, Tryz.ntmps123
  go_wp2_with fail
  refine NW.out.mono ?_
  rintro e w1 ⟨⟨b, rfl, J⟩ | ⟨c, hc, rfl⟩, hb⟩
  rotate_left
  ·have r := Lib.hid (F.out c w1 hc hb)
   have d0 : (c != 0) = true := by simpa using hc
   clear hc hb
   go_wp2
   go_ret2
   exact r.out
  go_wp2_with fail
  refine (GD.out w1 hb).mono ?_
  rintro e w2 ⟨⟨g, rfl⟩, hb2⟩
  have J := Lib.hid (AL.out _ _ _ _ J hb2)
  clear hb hb2 NW GD
  cases g
  ·have r := Lib.hid (F.out 1 w2 (by decide) (BL.out _ _ _ J.out).1)
   go_wp2
   go_ret2
   exact r.out
  go_wp2
  go_loopw [11, 28] (fun _ i wr => ∃ j : Nat, j ≤ n ∧ i = .int .i64 j ∧ Hid (R b j wr)) (fun _ i _ => n - (intOf i).toNat)
  case atStart => exact ⟨0, by omega, rfl, J⟩
  case round =>
   clear J
   obtain ⟨j, hj, rfl, J⟩ := hrel
   by_cases hlt : j < n
   ·have hjl : j < qs.length := by have := HN.out; omega
    obtain ⟨g, o', e, hg, d1, d2⟩ := (BL.out _ _ _ J.out).2.at j hjl
    cases e
    have j0 : (0 : Int) ≤ j := by omega
    have j1 : (j : Int) < n := by omega
    have j2 : IntKind.i64.wrap ((j : Int) + 1) = ((j + 1 : Nat) : Int) := by simp only [IntKind.wrap_i64]; omega
    have C := fun o => ST.out _ _ _ hjl (AL.out _ _ _ _ J.out (bn _ o))
    generalize qs[j].1 = x at *
    generalize qs[j].2 = c at *
    replace C := Lib.hid (C (.cells #[.int .i64 x, .int .u64 c] 247))
    have aP := At.new wr #[.int .i64 x, .int .u64 c] 247
    have f4 := aP.two
    have l4 := aP.lt
    clear aP J hjl
    go_wp2_with fail
    refine C.out.mono ?_
    rintro e w5 ⟨rfl, J⟩
    replace J := Lib.hid J
    clear C f4 l4 d1 d2 hg
    go_wp2
    go_roundw
    case rel => exact ⟨j + 1, by omega, by simp, J⟩
    case measure => simp [intOf]; omega
   ·obtain rfl : j = n := by omega
    go_wp2_with fail
    refine (TT.out _ _ J.out).mono ?_
    rintro e w5 ⟨rfl, hb⟩
    replace J := Lib.hid (AL.out _ _ _ _ J.out hb)
    clear hb TT ST
    go_wp2_with fail
    refine (PL.out w5).mono ?_
    rintro e w6 ⟨rfl, hb⟩
    replace J := AL.out _ _ _ _ J.out hb
    have r := Lib.hid (F.out 1 w6 (by decide) (BL.out _ _ _ J).1)
    obtain ⟨k, l', a, p, f⟩ := EN.out _ _ J
    replace f := Lib.hid fun e => f e L0.out
    have f6 := a.three
    have l6 := a.lt
    clear hb J PL EN AL BL a hlt
    rcases Decidable.em (l' = 0) with rfl | h
    ·replace f := Lib.hid (f.out rfl)
     go_wp2
     all_goals
      go_ret2
      first | exact r.out | exact f.out
    ·have d0 : decide (0 < l') = true := decide_eq_true (by omega)
     have d1 : ¬ l' ≤ 0 := by omega
     clear f
     go_wp2
     go_ret2
     exact r.out
end
end Go.Proofs.YtlbnlmhcpephbaaGreatDoor

namespace Go.Proofs.YtlbnlmhcpephbaaGreatDoor
open Go.RowKit
set_option maxRecDepth 100000
def OwnQ (base : Nat) (w : World) (A : Option Addr) (c : Nat) (xs : List Int) : Prop := w.ownsRow base 23 1 (.slice A xs.length c) xs.length (xs.map (Value.int .u64))
def tyQ : Ty := ⟨81, 23, 1, 8, .int .u64 0⟩
theorem tyQ_ok : tyQ.Ok := ⟨by kernel_rfl, by kernel_rfl, rfl, rfl, by decide, by decide⟩
theorem At.c4 {w : World} {b : Nat} {T : TypeId} {v0 v1 v2 v3 : Value} (h : At w b #[v0, v1, v2, v3] T) : w.cell? ⟨b, 0, none⟩ = some v0 ∧ w.cell? ⟨b, 1, none⟩ = some v1 ∧ w.cell? ⟨b, 2, none⟩ = some v2 ∧ w.cell? ⟨b, 3, none⟩ = some v3 ∧ ∀ i, w.frozen? ⟨b, i, none⟩ = false := ⟨h.cell rfl, h.cell rfl, h.cell rfl, h.cell rfl, h.frozen⟩
def SomeIx (e : Ending) : Prop := ∃ (i : Int) (f : Bool), e = .returned (.tuple #[.int .i64 i, .bool f]) ∧ I64 i
def Tc (w : World) (t : Nat) (S : List Nat) : Prop := ∃ u v A c xs B d ys, S = t :: (blk A ++ blk B) ∧ At w t #[.int .u64 u, .int .u64 v, .slice A xs.length c, .slice B ys.length d] 198 ∧ OwnQ 0 w A c xs ∧ OwnQ 0 w B d ys ∧ xs.length ≤ 4096 ∧ ys.length ≤ 4096
section
variable {w w' W : World} {t g base c : Nat} {S T : List Nat} {A : Option Addr} {xs : List Int} {x i m u v : Int}
theorem Tc.frame (h : Tc w t S) (hf : Frame T w w') (hn : Apart S T) : Tc w' t S := by
 obtain ⟨u, v, A, c, xs, B, d, ys, rfl, a, o, p, r⟩ := h
 exact ⟨u, v, A, c, xs, B, d, ys, rfl, hf.at a (hn t (by simp)), own_frame o hf fun k hk => hn k (by simp [hk]), own_frame p hf fun k hk => hn k (by simp [hk]), r⟩
theorem Tc.lt (h : Tc w t S) : ∀ k ∈ S, k < w.heap.size := by
 obtain ⟨u, v, A, c, xs, B, d, ys, rfl, a, o, p, r⟩ := h
 intro k hk
 simp only [List.mem_cons, List.mem_append] at hk
 rcases hk with rfl | hk | hk
 ·exact a.lt
 ·exact (own_blk o k hk).2
 ·exact (own_blk p k hk).2
theorem OwnQ.at (h : OwnQ base w A c xs) {j : Nat} (hj : j < xs.length) : ∃ g o, A = some ⟨g, o, none⟩ ∧ g < w.heap.size ∧ w.cell? ⟨g, o + j, none⟩ = some (.int .u64 xs[j]) := own_rd h j _ (by rw [List.getElem?_map, List.getElem?_eq_getElem hj]; rfl)
theorem app_q (h : OwnQ base w A c xs) (hl : xs.length ≤ 1048576) (hz : base ≤ w.heap.size) (a : At w g #[.int .u64 x] 23) :
  ∃ A' c' w', (Builtin.append_ #[81, 81] 81 #[.slice A xs.length c, .slice (some ⟨g, 0, none⟩) 1 1]).run Tryz.prog w = .ok (.slice A' (xs.length + 1) c') w' ∧ OwnQ base w' A' c' (xs ++ [x]) ∧ Frame (blk A) w w' ∧ ∀ k ∈ blk A', k ∈ blk A ∨ w.heap.size ≤ k := by
 obtain ⟨A', c', w', hr, ho, hf, hk⟩ := run_app_g (cy := 1) (m := 1) (ys := [.int .u64 x]) (Y := some ⟨g, 0, none⟩) tyQ_ok h (by simp [tyQ]) (fun j u hu => ⟨g, 0, rfl, a.lt, by rw [Nat.zero_add]; exact a.cell (by simpa using hu)⟩) (by simp) (by simp [Value.oneCell']) (by omega) hz
 refine ⟨A', c', w', hr, ?_, hf, hk⟩
 unfold OwnQ
 rw [List.length_append, List.map_append]
 exact ho
theorem crep_o {U : Value} {ys : List Int} {B : Option Addr} {d : Nat} (a : At w t #[.int .u64 u, .int .u64 v, U, .slice B ys.length d] 198) (p : OwnQ 0 w B d ys) (l : ys.length ≤ 4096) (hi : I64 i) : Calls Tryz.prog 382 #[.pointer (some ⟨t, 0, none⟩), .int .i64 i] w fun e w' => e = .returned (.int .u64 (if 0 ≤ i then ys.getD i.toNat 0 else 0)) ∧ w = w' := by
 have f1 := a.c4
 have O := Lib.hid fun j (hj : j < ys.length) => p.at hj
 obtain ⟨n, hn⟩ : ∃ n, ys.length = n := ⟨_, rfl⟩
 have HN := Lib.hid hn
 rw [hn] at f1 l
 clear a p hn
 by_cases h0 : i < 0
 ·rw [if_neg (by omega)]
  go_enter Tryz.func382, Tryz.ntmps382
  go_wp2
  go_ret
  exact ⟨rfl, rfl⟩
 obtain ⟨j, rfl⟩ : ∃ j : Nat, i = j := ⟨i.toNat, by omega⟩
 rw [if_pos (by omega), Int.toNat_natCast]
 by_cases h1 : (n : Int) ≤ j
 ·rw [List.getD_eq_getElem?_getD, List.getElem?_eq_none (by have := HN.out; omega), Option.getD_none]
  go_enter Tryz.func382, Tryz.ntmps382
  go_wp2
  go_ret
  exact ⟨rfl, rfl⟩
 obtain ⟨g, o, rfl, hg, hc⟩ := O.out j (by have := HN.out; omega)
 rw [List.getD_eq_getElem?_getD, List.getElem?_eq_getElem (by have := HN.out; omega), Option.getD_some]
 generalize ys[j]'_ = y at *
 have k0 : (0 : Int) ≤ j := by omega
 have k1 : (j : Int) < n := by omega
 clear O h0
 go_enter Tryz.func382, Tryz.ntmps382
 go_wp2
 go_ret
 exact ⟨rfl, rfl⟩
theorem crep_w (h : Tc w t S) (hi : I64 i) : ∃ r, ∀ W, Below w.heap.size w W → Calls Tryz.prog 382 #[.pointer (some ⟨t, 0, none⟩), .int .i64 i] W fun e w' => e = .returned (.int .u64 r) ∧ W = w' := by
 obtain ⟨u, v, A, c, xs, B, d, ys, -, a, -, p, -, l⟩ := h
 exact ⟨_, fun W hb => crep_o (a.below hb) (own_frame (T := []) p (Frame.of_below hb) fun _ _ => by simp) l hi⟩
theorem nan_w (x : Int) (w : World) : Calls Tryz.prog 385 #[.int .u64 x] w fun e w' => e = .returned (.bool false) ∧ w = w' := by
 go_enter Tryz.func385, Tryz.ntmps385
 go_wp2
 go_ret
 exact ⟨by first | rfl | simp, rfl⟩
theorem less_w (x y : Int) (w : World) : Calls Tryz.prog 384 #[.int .u64 x, .int .u64 y] w fun e w' => e = .returned (.bool (decide (x < y))) ∧ w = w' := by
 go_enter Tryz.func384, Tryz.ntmps384
 go_wp2
 go_ret
 exact ⟨by first | rfl | simp, rfl⟩
theorem bs_w (h : OwnQ base w A c xs) (hl : xs.length ≤ 4096) : Calls Tryz.prog 383 #[.slice A xs.length c, .int .u64 m] w fun e w' => SomeIx e ∧ w = w' := by
 have O := Lib.hid fun j (hj : j < xs.length) => h.at hj
 obtain ⟨n, hn⟩ : ∃ n, xs.length = n := ⟨_, rfl⟩
 have HN := Lib.hid hn
 rw [hn] at hl ⊢
 clear h hn
 go_enter Tryz.func383, Tryz.ntmps383
 go_wp2
 go_loop [7, 8] (fun I J => ∃ i j : Nat, i ≤ j ∧ j ≤ n ∧ I = .int .i64 i ∧ J = .int .i64 j) (fun I J => (intOf J).toNat - (intOf I).toNat)
 case atStart => exact ⟨0, n, by omega, by omega, rfl, rfl⟩
 case round =>
  obtain ⟨i, j, hij, hjn, rfl, rfl⟩ := hrel
  by_cases hlt : i < j
  ·have hlt' : (i : Int) < j := by omega
   obtain ⟨H, hH⟩ : ∃ H, (i + j) / 2 = H := ⟨_, rfl⟩
   obtain ⟨g, o, rfl, hg, hc⟩ := O.out H (by have := HN.out; omega)
   have v1 : ((i : Int) + j) / 2 = (H : Int) := by omega
   have hHj : i ≤ H ∧ H < j := by omega
   have k0 : (0 : Int) ≤ H := by omega
   have k1 : (H : Int) < n := by omega
   have v2 : IntKind.i64.wrap ((H : Int) + 1) = ((H + 1 : Nat) : Int) := by simp only [IntKind.wrap_i64]; omega
   generalize xs[H]'_ = y at *
   clear hH O
   go_wp2_with fail
   refine (less_w y m w).mono ?_
   rintro e w1 ⟨rfl, rfl⟩
   cases decide (y < m)
   all_goals
    go_wp2
    go_round
    case rel => first | exact ⟨H + 1, j, by omega, hjn, rfl, rfl⟩ | exact ⟨i, H, by omega, by omega, rfl, rfl⟩
    case measure => simp [intOf]; omega
  ·obtain rfl : i = j := by omega
   have kb : Hid (I64 i) := by unfold I64; show _ ∧ _; omega
   by_cases hin : i < n
   ·obtain ⟨g, o, rfl, hg, hc⟩ := O.out i (by have := HN.out; omega)
    generalize xs[i]'_ = y at *
    have k0 : (0 : Int) ≤ i := by omega
    have k1 : (i : Int) < n := by omega
    clear O
    by_cases e : y = m
    ·subst e
     go_wp2
     go_ret2
     exact ⟨⟨i, _, rfl, kb.out⟩, rfl⟩
    ·have e' := beq_eq_false_iff_ne.2 e
     go_wp2_with fail
     refine (nan_w y w).mono ?_
     rintro e w1 ⟨rfl, rfl⟩
     go_wp2
     go_ret2
     exact ⟨⟨i, _, rfl, kb.out⟩, rfl⟩
   ·obtain rfl : i = n := by omega
    have hin' : ¬ (i : Int) < i := by omega
    clear O
    go_wp2
    go_ret2
    exact ⟨⟨i, _, rfl, kb.out⟩, rfl⟩
theorem cidx_w (h : Tc w t S) : Calls Tryz.prog 380 #[.pointer (some ⟨t, 0, none⟩), .int .u64 m] w fun e w' => SomeIx e ∧ w = w' := by
 obtain ⟨u, v, A, c, xs, B, d, ys, -, a, o, -, l, -⟩ := h
 have f1 := a.c4
 have BS := Lib.hid (bs_w (m := m) o l)
 clear a o l
 by_cases h0 : m = 0
 ·subst h0
  go_enter Tryz.func380, Tryz.ntmps380
  go_wp2
  go_ret2
  exact ⟨⟨_, _, rfl, by unfold I64; omega⟩, rfl⟩
 have d0 := beq_eq_false_iff_ne.2 h0
 by_cases h1 : 9223372036854775808 < m
 ·go_enter Tryz.func380, Tryz.ntmps380
  go_wp2
  go_ret2
  exact ⟨⟨_, _, rfl, by unfold I64; omega⟩, rfl⟩
 go_enter Tryz.func380, Tryz.ntmps380
 go_wp2_with fail
 refine BS.out.mono ?_
 rintro e w1 ⟨⟨k, f, rfl, hk⟩, rfl⟩
 cases f
 all_goals
  go_wp2
  go_ret2
  exact ⟨⟨_, _, rfl, by first | exact hk | exact wrapI _⟩, rfl⟩
def GcB (u v : Int) (w : World) (e : Ending) (w' : World) : Prop := (∃ b : Bool, e = .returned (.bool b) ∧ (b = true → u ≤ 2147483648 ∧ v ≤ 2147483648)) ∧ Below w.heap.size w w'
theorem cgood_w : Calls Tryz.prog 75 #[.agg #[.int .u64 u, .int .u64 v]] w (GcB u v w) := by
 have a := (At.new w #[.int .u64 u, .int .u64 v] 25).two
 by_cases h1 : 0 < u <;> by_cases h2 : u < v
 all_goals
  go_enter Tryz.func75, Tryz.ntmps75
  go_wp2
  go_ret
  exact ⟨⟨_, rfl, fun h => by simp at h <;> omega⟩, bn _ _⟩
theorem cnext_w (hu : U64 u) (hv : U64 v) (hx : U64 x) : Calls Tryz.prog 76 #[.agg #[.int .u64 u, .int .u64 v], .int .u64 x] w fun e w' => (∃ r h, e = .returned (.tuple #[.int .u64 r, .int .u64 h]) ∧ U64 h) ∧ Below w.heap.size w w' := by
 have s := At.new w #[.int .u64 u, .int .u64 v] 25
 have hb := bn w (.cells #[.int .u64 u, .int .u64 v] 25)
 have f1 := s.two
 obtain ⟨r, ok, hr, F1⟩ := floor_w hx (wrapB (v + u)) hv
 obtain ⟨h, ok2, hh, F2⟩ := floor_w hr hv (wrapB (v - u))
 replace F1 := Lib.hid F1
 replace F2 := Lib.hid F2
 have Z := Lib.hid (And.intro hr hh)
 clear hu hv hx hr hh
 go_enter Tryz.func76, Tryz.ntmps76
 go_wp2_with fail
 refine (F1.out _).mono ?_
 rintro e w1 ⟨rfl, hb1⟩
 have f2 := (s.below hb1).two
 have l2 := (s.below hb1).lt
 replace hb := keep1 hb hb1
 clear f1 F1 hb1 s
 by_cases h1 : ok = true ∧ r ≤ 9223372036854775808
 rotate_left
 ·have d1 : ok = false ∨ ok = true ∧ decide (9223372036854775808 < r) = true := by cases ok <;> simp at h1 ⊢; omega
  clear h1 F2
  rcases d1 with rfl | ⟨rfl, d1⟩
  all_goals
   go_wp2
   go_ret2
   exact ⟨⟨_, _, rfl, by unfold U64; omega⟩, hb⟩
 obtain ⟨rfl, h1⟩ := h1
 have d1 : decide (9223372036854775808 < r) = false := decide_eq_false (by omega)
 go_wp2_with fail
 refine (F2.out _).mono ?_
 rintro e w2 ⟨rfl, hb1⟩
 replace hb := keep1 hb hb1
 clear F2 hb1 f2 l2
 by_cases h2 : ok2 = true ∧ h ≤ 9223372036854775808
 rotate_left
 ·have d2 : ok2 = false ∨ ok2 = true ∧ decide (9223372036854775808 < h) = true := by cases ok2 <;> simp at h2 ⊢; omega
  clear h2
  rcases d2 with rfl | ⟨rfl, d2⟩
  all_goals
   go_wp2
   go_ret2
   exact ⟨⟨_, _, rfl, by unfold U64; omega⟩, hb⟩
 obtain ⟨rfl, h2⟩ := h2
 have d2 : decide (9223372036854775808 < h) = false := decide_eq_false (by omega)
 go_wp2
 go_ret2
 exact ⟨⟨_, _, rfl, Z.out.2⟩, hb⟩
end
end Go.Proofs.YtlbnlmhcpephbaaGreatDoor

namespace Go.Proofs.YtlbnlmhcpephbaaGreatDoor
open Go.RowKit
set_option maxRecDepth 100000
def Mth (T : TypeId) (name : String) (f : FuncId) : Prop := (∀ (c : Nat) (w : World), (method 545 T (.pointer (some ⟨c, 0, none⟩)) name).run Tryz.prog w = .ok (f, .pointer (some ⟨c, 0, none⟩)) w) ∧ ∀ (a : Array Value) (w : World), (callFunc f a).run Tryz.prog w = .ok (.enter f a) w
def lkU : Bool → TypeId
 | true => 242
 | false => 239
theorem lk_m (s : Bool) : Mth (lkU s) "Total" (lk s).Z ∧ Mth (lkU s) "Add" (lk s).A ∧ Mth (lkU s) "Lost" (lk s).L ∧ Mth (lkU s) "Pairs" (lk s).R := by
 cases s <;> refine ⟨⟨?_, ?_⟩, ⟨?_, ?_⟩, ⟨?_, ?_⟩, ⟨?_, ?_⟩⟩ <;> intro a w <;> kernel_rfl
def Lw (s : Bool) (w : World) (b : Nat) (S : List Nat) (most n : Int) : Prop := ∃ k T ps l, S = b :: T ∧ LwB s w b k T most ps l ∧ n = sumP ps + l
def sdI (s : Bool) : Int := if s then 0 else 1
abbrev bB (t : Nat) (s : Bool) (K : Bool → Nat) (most z : Int) : Array Value := #[.iface 147 (.pointer (some ⟨t, 0, none⟩)), .int .i64 (sdI s), .int .i64 most, .iface (lkU s) (.pointer (some ⟨K true, 0, none⟩)), .iface (lkU s) (.pointer (some ⟨K false, 0, none⟩)), .int .u64 z]
structure BnC (w : World) (b t : Nat) (TS : List Nat) (s : Bool) (K : Bool → Nat) (S : Bool → List Nat) (most : Int) (n : Bool → Int) (z : Int) : Prop where
 at' : At w b (bB t s K most z) 208
 tab : Tc w t TS
 st : ∀ i, Lw s w (K i) (S i) most (n i)
 z0 : 0 ≤ z
 ne : b ∉ TS ∧ (∀ i, b ∉ S i ∧ Apart TS (S i)) ∧ Apart (S true) (S false)
def bS (b : Nat) (TS : List Nat) (S : Bool → List Nat) : List Nat := b :: (TS ++ (S true ++ S false))
def bN (n : Bool → Int) (z : Int) : Int := n true + z + n false
section
variable {s i : Bool} {w w' W : World} {b t : Nat} {K : Bool → Nat} {S : Bool → List Nat} {TS T U : List Nat} {most z y x v : Int} {n : Bool → Int} {c : Nat}
theorem Lw.frame (h : Lw s w b T most x) (hf : Frame U w w') (hn : Apart T U) : Lw s w' b T most x := by
 obtain ⟨k, T, ps, l, rfl, h, e⟩ := h
 exact ⟨k, T, ps, l, rfl, h.frame hf hn, e⟩
theorem Lw.below (h : Lw s w b T most x) (hb : Below w.heap.size w w') : Lw s w' b T most x := h.frame (U := []) (Frame.of_below hb) fun _ _ => by simp
theorem Lw.lt (h : Lw s w b T most x) : ∀ j ∈ T, j < w.heap.size := by
 obtain ⟨k, T, ps, l, rfl, h, e⟩ := h
 exact h.lt
theorem Lw.nn (h : Lw s w b T most x) : 0 ≤ x := by
 obtain ⟨k, T, ps, l, rfl, h, e⟩ := h
 have := sumP_nonneg h.st.gd.pos
 have := h.l0
 omega
theorem BnC.frame (h : BnC w b t TS s K S most n z) (hf : Frame U w w') (hn : Apart (bS b TS S) U) : BnC w' b t TS s K S most n z :=
 ⟨hf.at h.at' (hn b (by simp [bS])), h.tab.frame hf fun k hk => hn k (by simp [bS, hk]), fun i => (h.st i).frame hf fun k hk => hn k (by cases i <;> simp [bS, hk]), h.z0, h.ne⟩
theorem BnC.below (h : BnC w b t TS s K S most n z) (hb : Below w.heap.size w w') : BnC w' b t TS s K S most n z := h.frame (U := []) (Frame.of_below hb) fun _ _ => by simp
theorem BnC.lt (h : BnC w b t TS s K S most n z) : ∀ k ∈ bS b TS S, k < w.heap.size := by
 intro k hk
 simp only [bS, List.mem_cons, List.mem_append] at hk
 rcases hk with rfl | hk | hk | hk
 ·exact h.at'.lt
 ·exact h.tab.lt k hk
 ·exact (h.st true).lt k hk
 ·exact (h.st false).lt k hk
theorem BnC.bd (h : BnC w b t TS s K S most n z) : 0 ≤ n true ∧ 0 ≤ n false ∧ 0 ≤ z ∧ z ≤ bN n z ∧ ∀ i, n i ≤ bN n z := by
 have a := (h.st true).nn
 have b := (h.st false).nn
 have c := h.z0
 unfold bN
 exact ⟨a, b, c, by omega, fun i => by cases i <;> omega⟩
theorem BnC.set (h : BnC w b t TS s K S most n z) (hy : 0 ≤ y) : BnC (w.setCell ⟨b, 5, none⟩ (.int .u64 y)) b t TS s K S most n y ∧ Mv (bS b TS S) (bS b TS S) w (w.setCell ⟨b, 5, none⟩ (.int .u64 y)) := by
 have f := Frame.set [b] w b 5 (.int .u64 y) (by simp)
 exact ⟨⟨h.at'.set_any 5 _ rfl, h.tab.frame f fun k hk e => h.ne.1 (by simp at e; exact e ▸ hk), fun i => (h.st i).frame f fun k hk e => (h.ne.2.1 i).1 (by simp at e; exact e ▸ hk), hy, h.ne⟩, GrownS.refl _ _, f.mono (by simp [bS])⟩
theorem BnC.put (h : BnC w b t TS s K S most n z) (m : Mv (S i) T w w') (k : Lw s w' (K i) T most x) : BnC w' b t TS s K (upd S i T) most (upd n i x) z ∧ Mv (bS b TS S) (bS b TS (upd S i T)) w w' := by
 have q : ∀ k, k < w.heap.size → k ∉ S i → k ∉ T := fun k hk hn hm => (m.g k hm).elim hn (by omega)
 obtain ⟨e1, e2, e3⟩ := h.ne
 have l := fun i => (h.st i).lt
 refine ⟨⟨m.f.at h.at' (e2 i).1, h.tab.frame m.f (e2 i).2, fun j => ?_, h.z0, e1, fun j => ?_, ?_⟩, fun k hk => ?_, m.f.mono fun k hk => by cases i <;> simp [bS, hk]⟩
 ·unfold upd
  by_cases e : j = i
  ·subst e; simpa using k
  ·simp only [e, if_false]
   exact (h.st j).frame m.f (by cases j <;> cases i <;> simp at e; exact e3.symm; exact e3)
 ·unfold upd
  split
  ·exact ⟨q b h.at'.lt (e2 i).1, fun k hk => q k (h.tab.lt k hk) ((e2 i).2 k hk)⟩
  ·exact e2 j
 ·cases i <;> simp only [upd, reduceIte, Bool.false_eq_true, Bool.true_eq_false] <;> intro k hk hm
  ·exact q k (l true k hk) (e3 k hk) hm
  ·exact q k (l false k hm) (e3.symm k hm) hk
 ·have := m.g k
  cases i <;> simp only [bS, upd, reduceIte, Bool.false_eq_true, Bool.true_eq_false, List.mem_cons, List.mem_append] at hk this ⊢ <;> grind
theorem bN_upd : bN (upd n i x) z = bN n z - n i + x := by cases i <;> simp [bN, upd] <;> omega
theorem bfresh_w : Calls Tryz.prog 77 #[.int .i64 (sdI s), .int .i64 most] w fun e w' => ((∃ c S, e = .returned (.tuple #[.iface (lkU s) (.pointer (some ⟨c, 0, none⟩)), .int .i64 0]) ∧ Lw s w' c S most 0 ∧ Within S w.heap.size w'.heap.size ∧ 1 ≤ most ∧ most ≤ 4096) ∨ ∃ (v : Value) (c : Int), c ≠ 0 ∧ e = .returned (.tuple #[v, .int .i64 c]) ∧ ¬ (1 ≤ most ∧ most ≤ 4096)) ∧ Below w.heap.size w w' := by
 have N := Lib.hid (lnew_w (s := s) (most := most) (w := w))
 cases s
 all_goals
  dsimp only [sdI, reduceIte, Bool.false_eq_true]
  go_enter Tryz.func77, Tryz.ntmps77
  go_wp2_with fail
  refine N.out.mono ?_
  rintro e w1 ⟨⟨⟨c, k, T, ps, l, rfl, h, e, wi⟩ | ⟨c, hc, rfl⟩, hb⟩, hm⟩
  ·have R : Hid (Lw _ w1 c (c :: T) most 0 ∧ Within (c :: T) w.heap.size w1.heap.size ∧ 1 ≤ most ∧ most ≤ 4096) := ⟨⟨k, T, ps, l, rfl, h, e⟩, wi, h.m1⟩
   clear h e wi hm
   go_wp2
   go_ret2
   exact ⟨.inl ⟨c, _, rfl, R.out⟩, hb⟩
  ·have M : Hid (¬ (1 ≤ most ∧ most ≤ 4096)) := fun h => by obtain ⟨b, e⟩ := hm h; simp at e
   clear hm
   go_wp2
   go_ret2
   exact ⟨.inr ⟨_, c, hc, rfl, M.out⟩, hb⟩
theorem btot_w (h : BnC w b t TS s K S most n z) (hn : bN n z ≤ 16000) : Calls Tryz.prog 103 #[.pointer (some ⟨b, 0, none⟩)] w fun e w' => e = .returned (.int .u64 (bN n z)) ∧ Below w.heap.size w w' := by
 have bd := h.bd
 have s1 := h.at'
 have H : Hid (∀ W i, Below w.heap.size w W → Calls Tryz.prog (lk s).Z #[.pointer (some ⟨K i, 0, none⟩)] W fun e w' => e = .returned (.int .u64 (n i)) ∧ Below W.heap.size W w') := fun W i hb => by
  obtain ⟨k, T, ps, l, _, h', e⟩ := (h.st i).below hb
  have := bd.2.2.2.2 i
  rw [e]
  exact ltot_w h' (by omega)
 have E : Hid (IntKind.u64.wrap (IntKind.u64.wrap (n true + z) + n false) = bN n z) := by unfold bN at *; show _ = _; simp only [IntKind.wrap_u64]; omega
 obtain ⟨m1, m2⟩ := (lk_m s).1
 unfold bB at s1
 generalize lkU s = sT at *
 generalize (lk s).Z = sF at *
 clear h bd hn
 go_enter Tryz.func103, Tryz.ntmps103
 go_wp2
 have hfar1 := fun x : Far w => (x.at s1).c6
 refine wp_region_far (by kernel_rfl) (by kernel_rfl) ?_
 repeat go_big_quiet_step (first | (with_reducible refine far_of (H.out _ true (Far.below _))) | (with_reducible refine far_of (H.out _ false (Far.below _))))
 refine wpQuiet_nil ?_
 rintro _ ⟨xq, rfl⟩
 clear hfar1
 rw [E.out]
 have hb := xq.below
 clear H s1 m1 m2
 go_wp2
 go_ret
 exact ⟨rfl, hb⟩
end
end Go.Proofs.YtlbnlmhcpephbaaGreatDoor

namespace Go.Proofs.YtlbnlmhcpephbaaGreatDoor
open Go.RowKit
set_option maxRecDepth 100000
theorem nilP (t : Nat) (w : World) : (binOp .eql 202 (.iface 147 (.pointer (some ⟨t, 0, none⟩))) .nilIface).run Tryz.prog w = .ok (.bool false) w := by kernel_rfl
theorem tb_m : Mth 147 "Index" 380 ∧ Mth 147 "Rep" 382 := by refine ⟨⟨?_, ?_⟩, ⟨?_, ?_⟩⟩ <;> intro a w <;> kernel_rfl
section
variable {s i : Bool} {w w' W : World} {b t : Nat} {K : Bool → Nat} {S : Bool → List Nat} {TS T U : List Nat} {most z y x v c sd : Int} {n : Bool → Int}
def BwN (t : Nat) (TS : List Nat) (sd most : Int) (w : World) (e : Ending) (w' : World) : Prop := ((∃ b s K S, e = .returned (.tuple #[.pointer (some ⟨b, 0, none⟩), .int .i64 0]) ∧ sdI s = sd ∧ BnC w' b t TS s K S most (fun _ => 0) 0 ∧ Within (b :: (S true ++ S false)) w.heap.size w'.heap.size) ∨ ∃ c : Int, c ≠ 0 ∧ e = .returned (.tuple #[.pointer none, .int .i64 c])) ∧ Below w.heap.size w w'
theorem bnew_w (h : Tc w t TS) : Calls Tryz.prog 57 #[.iface 147 (.pointer (some ⟨t, 0, none⟩)), .int .i64 sd, .int .i64 most] w (BwN t TS sd most w) := by
 have hn := nilP t
 have F : Hid (∀ (c : Int) W, c ≠ 0 → Below w.heap.size w W → BwN t TS sd most w (.returned (.tuple #[.pointer none, .int .i64 c])) W) := fun c W h k => ⟨.inr ⟨c, h, rfl⟩, k⟩
 by_cases hs : sd = 0 ∨ sd = 1
 rotate_left
 ·have d0 : (sd != 0) = true := bne_iff_ne.2 (by omega)
  have d1 : (sd != 1) = true := bne_iff_ne.2 (by omega)
  clear h hs
  go_enter Tryz.func57, Tryz.ntmps57
  go_wp2
  go_ret2
  exact F.out 1 _ (by decide) (Below.refl _ _)
 obtain ⟨s, hs⟩ : ∃ s, sdI s = sd := by rcases hs with rfl | rfl; exact ⟨true, rfl⟩; exact ⟨false, rfl⟩
 have FR := Lib.hid fun W => bfresh_w (s := s) (most := most) (w := W)
 rw [hs] at FR
 have G : Hid (∀ c0 c1 S0 S1 w1 w2, Lw s w1 c0 S0 most 0 → Within S0 w.heap.size w1.heap.size → Below w.heap.size w w1 → Lw s w2 c1 S1 most 0 → Within S1 w1.heap.size w2.heap.size → Below w1.heap.size w1 w2 → BwN t TS sd most w (.returned (.tuple #[.pointer (some ⟨w2.heap.size, 0, none⟩), .int .i64 0])) (w2.alloc (.cells #[.iface 147 (.pointer (some ⟨t, 0, none⟩)), .int .i64 sd, .int .i64 most, .iface (lkU s) (.pointer (some ⟨c0, 0, none⟩)), .iface (lkU s) (.pointer (some ⟨c1, 0, none⟩)), .int .u64 0] 208))) := fun c0 c1 S0 S1 w1 w2 h0 i0 b0 h1 i1 b1 => by
  have z0 := b0.size
  have z1 := b1.size
  have tl := h.lt
  have BB := keep1 (keep1 b0 b1) (bn w2 (.cells #[.iface 147 (.pointer (some ⟨t, 0, none⟩)), .int .i64 sd, .int .i64 most, .iface (lkU s) (.pointer (some ⟨c0, 0, none⟩)), .iface (lkU s) (.pointer (some ⟨c1, 0, none⟩)), .int .u64 0] 208))
  subst hs
  refine ⟨.inl ⟨_, s, fun i => if i then c0 else c1, fun i => if i then S0 else S1, rfl, rfl, ⟨At.new _ _ _, h.frame (T := []) (Frame.of_below BB) fun _ _ => by simp, fun i => ?_, Int.le_refl _, fun m => by have := tl _ m; omega, fun i => ?_, fun k hk m => ?_⟩, fun k hk => ?_⟩, BB⟩
  ·cases i
   ·exact h1.below (bn _ _)
   ·exact (h0.below b1).below (bn _ _)
  ·cases i <;> simp only [reduceIte, Bool.false_eq_true]
   ·exact ⟨fun m => by have := i1 _ m; omega, fun k hk m => by have := tl k hk; have := i1 k m; omega⟩
   ·exact ⟨fun m => by have := i0 _ m; omega, fun k hk m => by have := tl k hk; have := i0 k m; omega⟩
  ·simp at hk m; have := i0 k hk; have := i1 k m; omega
  ·simp at hk ⊢
   rcases hk with rfl | hk | hk
   ·omega
   ·have := i0 k hk; omega
   ·have := i1 k hk; omega
 obtain ⟨sT, hT⟩ : ∃ T, lkU s = T := ⟨_, rfl⟩
 rw [hT] at FR G
 have O : Hid (sd = 0 ∨ sd = 1) := by rw [← hs]; cases s; exact .inr rfl; exact .inl rfl
 clear h hs hT
 rcases O.out with rfl | rfl
 all_goals
  go_enter Tryz.func57, Tryz.ntmps57
  go_wp2_with fail
  refine (FR.out w).mono ?_
  rintro e w1 ⟨⟨c0, S0, rfl, h0, i0, hm⟩ | ⟨v, c, hc, rfl, -⟩, b0⟩
  rotate_left
  ·have d0 : (c != 0) = true := by simpa using hc
   go_wp2
   go_ret2
   exact F.out c _ hc b0
  go_wp2_with fail
  refine (FR.out w1).mono ?_
  rintro e w2 ⟨⟨c1, S1, rfl, h1, i1, -⟩ | ⟨v, c, hc, rfl, hm'⟩, b1⟩
  rotate_left
  ·exact absurd hm hm'
  have R := Lib.hid (G.out _ _ _ _ _ _ h0 i0 b0 h1 i1 b1)
  clear h0 i0 b0 h1 i1 b1 hm F FR G
  go_wp2
  go_ret2
  exact R.out
theorem bzero_w (h : BnC w b t TS s K S most n z) : Calls Tryz.prog 203 #[.pointer (some ⟨b, 0, none⟩)] w fun e w' => e = .returned (.int .u64 z) ∧ w = w' := by
 have g := h.at'.c6
 clear h
 go_enter Tryz.func203, Tryz.ntmps203
 go_wp2
 go_ret
 exact ⟨rfl, rfl⟩
structure BnP (P : Bool → List (Int × Int)) (l : Bool → Int) (n : Bool → Int) : Prop where
 gd : ∀ i, Gd (P i) ∧ okP (P i) ∧ (P i).length ≤ 4096
 l0 : ∀ i, 0 ≤ l i
 sm : ∀ i, n i = sumP (P i) + l i
section
variable {k0 k1 : Nat} {T0 T1 : List Nat} {P0 P1 : List (Int × Int)} {l0 l1 : Int}
theorem brows_x (h : BnC w b t TS s K S most n z) (h0 : LwB s w (K true) k0 T0 most P0 l0) (h1 : LwB s w (K false) k1 T1 most P1 l1) : Calls Tryz.prog 200 #[.pointer (some ⟨b, 0, none⟩)] w (RowsE P0 P1 w) := by
 have hb : Below w.heap.size w w.drew := (Below.refl _ _).drew
 have s1 := h.at'
 unfold bB at s1
 have H := Lib.hid (And.intro (h0.below hb) (h1.below hb))
 obtain ⟨m1, m2⟩ := (lk_m s).2.2.2
 have R0 := Lib.hid fun W (hb : Below w.drew.heap.size w.drew W) => lrow_w (H.out.1.below hb)
 have R1 := Lib.hid fun W (hb : Below w.drew.heap.size w.drew W) => lrow_w (H.out.2.below hb)
 generalize lkU s = sT at *
 generalize (lk s).R = sF at *
 clear h h0 h1 H
 go_enter Tryz.func200, Tryz.ntmps200
 go_upto_region 3 with fail
 have hT : AtH b _ _ w.drew := s1.below hb
 refine held_h (by kernel_rfl) (HeldS.mk' hT) (fun hHeld => ?_)
 generalize w.drew = W at *
 have hne := hHeld.ne
 have hf := fun x => (hHeld.get x).a.c6
 refine runH [4, 1, 4] 4 hHeld ?_
 simp only [runL, runN, runOps_true, runOps_false, runOps_nil]
 repeat go_big_quiet_step (fail)
 refine wpQuiet_nil ?_
 clear hf hne s1
 refine readyH 4 fun K hK => ?_
 go_simp
 refine (R0.out _ (Below.refl _ _)).mono ?_
 rintro e w5 ⟨A0, c0, rfl, ho, hb5⟩
 refine hK.out _ _ ?_ (fun hHeld => ?_)
 clear hK K
 ·exact HeldS.mk' (hT.a.below hb5)
 replace R1 := Lib.hid (R1.out _ hb5)
 have R := Lib.hid (And.intro ho.rd (keep1 hb hb5))
 replace hT : AtH b _ _ w5 := hT.a.below hb5
 clear ho hb5 hb R0
 refine readyH 9 fun K hK => ?_
 go_simp
 refine R1.out.mono ?_
 rintro e w6 ⟨A1, c1, rfl, ho, hb6⟩
 refine hK.out _ _ ?_ (fun hHeld => ?_)
 clear hK K
 ·exact HeldS.mk' (hT.a.below hb6)
 have F : Hid (RowsE P0 P1 w (.returned (.tuple #[.slice A0 P0.length c0, .slice A1 P1.length c1])) w6) := ⟨⟨A0, c0, A1, c1, rfl, R.out.1.below hb6, ho.rd⟩, keep1 R.out.2 hb6⟩
 clear ho hb6 R R1 hT
 refine runH [0, 10, 2] 0 hHeld ?_
 simp only [runL, runN, runOps_true, runOps_false, runOps_nil]
 repeat go_big_quiet_step (fail)
 refine wpQuiet_nil ?_
 refine doneH ?_
 clear hHeld m1 m2
 generalize P0.length = q0 at *
 generalize P1.length = q1 at *
 go_wp2
 go_ret2
 exact F.out
theorem blost_x (h : BnC w b t TS s K S most n z) (h0 : LwB s w (K true) k0 T0 most P0 l0) (h1 : LwB s w (K false) k1 T1 most P1 l1) : Calls Tryz.prog 201 #[.pointer (some ⟨b, 0, none⟩)] w fun e w' => e = .returned (.tuple #[.int .u64 l0, .int .u64 l1]) ∧ Below w.heap.size w w' := by
 have hb : Below w.heap.size w w.drew := (Below.refl _ _).drew
 have s1 := h.at'
 unfold bB at s1
 obtain ⟨m1, m2⟩ := (lk_m s).2.2.1
 have L0 := Lib.hid fun W (hb : Below w.heap.size w W) => (llost_w (h0.below hb)).mono fun e w' (h : _ ∧ _) => (⟨h.1, h.2 ▸ Below.refl _ _⟩ : e = .returned (.int .u64 l0) ∧ Below W.heap.size W w')
 have L1 := Lib.hid fun W (hb : Below w.heap.size w W) => (llost_w (h1.below hb)).mono fun e w' (h : _ ∧ _) => (⟨h.1, h.2 ▸ Below.refl _ _⟩ : e = .returned (.int .u64 l1) ∧ Below W.heap.size W w')
 generalize lkU s = sT at *
 generalize (lk s).L = sF at *
 clear h h0 h1 hb
 go_enter Tryz.func201, Tryz.ntmps201
 go_wp2
 have hfar1 := fun x : Far w => (x.at s1).c6
 refine wp_region_far (by kernel_rfl) (by kernel_rfl) ?_
 repeat go_big_quiet_step (first | (with_reducible refine far_of (L0.out _ (Far.below _))) | (with_reducible refine far_of (L1.out _ (Far.below _))))
 refine wpQuiet_nil ?_
 rintro _ ⟨xq, rfl⟩
 clear hfar1
 have hb := xq.below
 clear s1 m1 m2 L0 L1
 go_wp2
 go_ret2
 exact ⟨rfl, hb⟩
end
theorem brows_w (h : BnC w b t TS s K S most n z) : ∃ P l, BnP P l n ∧ (∀ i, ((P i).length : Int) ≤ most) ∧ ∀ W, Below w.heap.size w W → Calls Tryz.prog 200 #[.pointer (some ⟨b, 0, none⟩)] W (RowsE (P true) (P false) W) ∧ Calls Tryz.prog 201 #[.pointer (some ⟨b, 0, none⟩)] W fun e w' => e = .returned (.tuple #[.int .u64 (l true), .int .u64 (l false)]) ∧ Below W.heap.size W w' := by
 obtain ⟨k0, T0, P0, l0, e0, h0, n0⟩ := h.st true
 obtain ⟨k1, T1, P1, l1, e1, h1, n1⟩ := h.st false
 refine ⟨fun i => if i then P0 else P1, fun i => if i then l0 else l1, ⟨fun i => ?_, fun i => ?_, fun i => ?_⟩, fun i => ?_, fun W hW => ⟨brows_x (h.below hW) (h0.below hW) (h1.below hW), blost_x (h.below hW) (h0.below hW) (h1.below hW)⟩⟩
 ·cases i
  ·exact ⟨h1.st.gd, h1.st.ok, h1.st.len.2⟩
  ·exact ⟨h0.st.gd, h0.st.ok, h0.st.len.2⟩
 ·cases i; exact h1.l0; exact h0.l0
 ·cases i; exact n1; exact n0
 ·cases i; exact h1.st.len.1; exact h0.st.len.1
def BwR (b t : Nat) (TS : List Nat) (s : Bool) (K : Bool → Nat) (S : Bool → List Nat) (most N : Int) (w w' : World) : Prop := ∃ S' n z, BnC w' b t TS s K S' most n z ∧ Mv (bS b TS S) (bS b TS S') w w' ∧ bN n z = N
set_option maxHeartbeats 1000000 in
theorem badd_w (h : BnC w b t TS s K S most n z) (hx : I64 x) (hc : 0 ≤ c) (hs : bN n z + c ≤ 16000) : Calls Tryz.prog 185 #[.pointer (some ⟨b, 0, none⟩), .int .i64 x, .int .u64 c] w fun e w' => (c = 0 ∧ e = .returned (.int .i64 1) ∧ w = w') ∨ (0 < c ∧ e = .returned (.int .i64 0) ∧ BwR b t TS s K S most (bN n z + c) w w') := by
 by_cases hz : c = 0
 ·subst hz
  clear h
  go_enter Tryz.func185, Tryz.ntmps185
  go_wp2
  go_ret
  exact .inl ⟨by trivial, rfl, rfl⟩
 have hz' := beq_eq_false_iff_ne.2 hz
 have bd := h.bd
 have s1 := h.at'
 unfold bB at s1
 have C0 : Hid (0 < c) := by show _ < _; omega
 have TT := Lib.hid (btot_w h (by omega))
 have SG := Lib.hid fun W => sgof_any x W hx.1 hx.2
 have PL := Lib.hid fun W (hb : Below w.heap.size w W) => plus2_new (a := bN n z) (b := c) hb (by omega) hc (by omega)
 have IX := Lib.hid fun W (hb : Below w.heap.size w W) => cidx_w (m := x.natAbs) (h.below hb).tab
 have AD : Hid (∀ W j q, Below w.heap.size w W → I64 q → Calls Tryz.prog (lk s).A #[.pointer (some ⟨K j, 0, none⟩), .int .i64 q, .int .u64 c] W fun e w' => e = .returned (.int .i64 0) ∧ BwR b t TS s K S most (bN n z + c) w w') := fun W j q hb hq => by
  have hW := h.below hb
  obtain ⟨k, T, ps, l, e1, h', e2⟩ := hW.st j
  have := hW.bd.2.2.2.2 j
  refine (ladd_w h' hq C0.out (by omega)).mono ?_
  rintro e w' ⟨rfl, T', ps', l', h2, m, e3⟩
  rw [← e1] at m
  obtain ⟨a1, a2⟩ := hW.put m ⟨k, T', ps', l', rfl, h2, rfl⟩
  exact ⟨rfl, _, _, z, a1, (Mv.of _ hb).trans a2, by rw [bN_upd]; omega⟩
 have ZR : Hid (∀ W, Below w.heap.size w W → BwR b t TS s K S most (bN n z + c) w (W.setCell ⟨b, 5, none⟩ (.int .u64 (z + c)))) := fun W hb => ⟨S, n, z + c, ((h.below hb).set (by omega)).1, (Mv.of _ hb).trans ((h.below hb).set (by omega)).2, by unfold bN; omega⟩
 have wz : IntKind.u64.wrap (z + c) = z + c := by simp only [IntKind.wrap_u64]; omega
 obtain ⟨m1, m2⟩ := (lk_m s).2.1
 obtain ⟨i1, i2⟩ := tb_m.1
 generalize lkU s = sT at *
 generalize (lk s).A = sF at *
 have l1 := s1.lt
 clear h hx hc hs bd hz
 go_enter Tryz.func185, Tryz.ntmps185
 go_wp2_with fail
 refine TT.out.mono ?_
 rintro e w1 ⟨rfl, hb⟩
 go_wp2_with fail
 refine (PL.out w1 hb).mono ?_
 rintro e w2 ⟨rfl, hb⟩
 go_wp2_with fail
 refine (SG.out w2).mono ?_
 rintro e w3 ⟨rfl, rfl⟩
 generalize decide (x < 0) = g
 have f2 := (s1.below hb).c6
 have l2 := (s1.below hb).lt
 have IX := Lib.hid (IX.out w2 hb)
 generalize (x.natAbs : Int) = a at *
 clear TT PL SG
 go_wp2_with fail
 refine IX.out.mono ?_
 rintro e w3 ⟨⟨q, f, rfl, hq⟩, rfl⟩
 have R0 := Lib.hid (AD.out w2 true q hb hq)
 have R1 := Lib.hid (AD.out w2 false q hb hq)
 have ZR := Lib.hid (ZR.out w2 hb)
 clear IX AD s1 l1 hb hq
 cases f
 ·clear R0 R1
  go_wp2
  go_ret
  exact .inr ⟨C0.out, rfl, ZR.out⟩
 clear ZR
 cases g
 all_goals
  go_wp2_with fail
  first | refine R0.out.mono ?_ | refine R1.out.mono ?_
  rintro e w4 ⟨rfl, r⟩
  have r := Lib.hid r
  go_wp2
  go_ret
  exact .inr ⟨C0.out, rfl, r.out⟩
end
end Go.Proofs.YtlbnlmhcpephbaaGreatDoor

namespace Go.Proofs.YtlbnlmhcpephbaaGreatDoor
open Go.RowKit
set_option maxRecDepth 100000
theorem as_m : (∀ (b : Nat) (w : World), (Instr.typeAssert (.iface (lkU true) (.pointer (some ⟨b, 0, none⟩))) 204 (lkU true) true).run Tryz.prog w = .ok (.tuple #[.pointer (some ⟨b, 0, none⟩), .bool true]) w) ∧ (∀ (b : Nat) (w : World), (Instr.typeAssert (.iface (lkU true) (.pointer (some ⟨b, 0, none⟩))) 204 (lkU true) false).run Tryz.prog w = .ok (.pointer (some ⟨b, 0, none⟩)) w) ∧
  (∀ (b : Nat) (w : World), (Instr.typeAssert (.iface (lkU false) (.pointer (some ⟨b, 0, none⟩))) 204 (lkU true) true).run Tryz.prog w = .ok (.tuple #[.pointer none, .bool false]) w) ∧ (∀ (b : Nat) (w : World), (Instr.typeAssert (.iface (lkU false) (.pointer (some ⟨b, 0, none⟩))) 204 (lkU false) true).run Tryz.prog w = .ok (.tuple #[.pointer (some ⟨b, 0, none⟩), .bool true]) w) ∧
  ∀ (b : Nat) (w : World), (Instr.typeAssert (.iface (lkU false) (.pointer (some ⟨b, 0, none⟩))) 204 (lkU false) false).run Tryz.prog w = .ok (.pointer (some ⟨b, 0, none⟩)) w := by
 refine ⟨?_, ?_, ?_, ?_, ?_⟩ <;> intro b w <;> kernel_rfl
section
variable {s i : Bool} {w w' W : World} {b o t t2 : Nat} {K K2 : Bool → Nat} {S S2 : Bool → List Nat} {TS TS2 T U : List Nat} {most z z2 x y : Int} {n n2 : Bool → Int}
theorem lmg_w (h : Lw s w b T most x) (k : Lw s w o U most y) (ap : Apart T U) (hs : x + y ≤ 16000) : Calls Tryz.prog 208 #[.iface (lkU s) (.pointer (some ⟨b, 0, none⟩)), .iface (lkU s) (.pointer (some ⟨o, 0, none⟩))] w fun e w' => e = .returned (.tuple #[]) ∧ ∃ S', Lw s w' b S' most (x + y) ∧ Mv T S' w w' := by
 have M : Hid (Calls Tryz.prog (lk s).M #[.pointer (some ⟨b, 0, none⟩), .pointer (some ⟨o, 0, none⟩)] w fun e w' => e = .returned (.int .i64 0) ∧ ∃ S', Lw s w' b S' most (x + y) ∧ Mv T S' w w') := by
  obtain ⟨k1, T1, ps, l, rfl, h, rfl⟩ := h
  obtain ⟨k2, T2, qs, l2, rfl, k, rfl⟩ := k
  refine (lmerge_w h k ap hs).mono ?_
  rintro e w' ⟨rfl, T', ps', l', h', m, e⟩
  exact ⟨rfl, _, ⟨_, T', ps', l', rfl, h', e.symm⟩, m⟩
 obtain ⟨a1, a2, a3, a4, a5⟩ := as_m
 clear h k ap hs
 cases s
 all_goals
  dsimp only [lkU] at *
  go_enter Tryz.func208, Tryz.ntmps208
  go_wp2_with fail
  refine M.out.mono ?_
  rintro e w1 ⟨rfl, r⟩
  have r := Lib.hid r
  clear M
  go_wp2
  exact bodyPost_end (results_none rfl _ _ _) rfl ⟨rfl, r.out⟩
theorem blike_w (h : BnC w b t TS s K S most n z) (k : BnC w o t2 TS2 s K2 S2 most n2 z2) : Calls Tryz.prog 207 #[.pointer (some ⟨b, 0, none⟩), .pointer (some ⟨o, 0, none⟩)] w fun e w' => e = .returned (.bool true) ∧ Below w.heap.size w w' := by
 have f1 := h.at'.c6
 have f2 := k.at'.c6
 clear h k
 go_enter Tryz.func207, Tryz.ntmps207
 go_wp2
 go_quiet (fail)
 go_wp2
 go_ret
 exact ⟨by first | rfl | simp, (Below.refl _ _).drewN _⟩
set_option maxHeartbeats 1000000 in
theorem bmerge_w (h : BnC w b t TS s K S most n z) (k : BnC w o t2 TS2 s K2 S2 most n2 z2) (ap : Apart (bS b TS S) (bS o TS2 S2)) (hs : bN n z + bN n2 z2 ≤ 16000) : Calls Tryz.prog 205 #[.pointer (some ⟨b, 0, none⟩), .pointer (some ⟨o, 0, none⟩)] w fun e w' => e = .returned (.int .i64 0) ∧ BwR b t TS s K S most (bN n z + bN n2 z2) w w' := by
 have bd := h.bd
 have bd2 := k.bd
 have LK := Lib.hid (blike_w h k)
 have H := Lib.hid (And.intro h (And.intro k (And.intro ap (And.intro hs (And.intro bd bd2)))))
 have PL := Lib.hid fun W (hb : Below w.heap.size w W) => plus2_new (a := bN n z) (b := bN n2 z2) hb (by omega) (by omega) (by omega)
 have sub : Hid (∀ i, Apart (S i) (S2 i)) := fun i k hk m => ap k (by cases i <;> simp [bS, hk]) (by cases i <;> simp [bS, m])
 clear h k ap hs bd bd2
 go_enter Tryz.func205, Tryz.ntmps205
 go_wp2_with fail
 refine LK.out.mono ?_
 rintro e w1 ⟨rfl, hb⟩
 go_wp2_with fail
 refine (btot_w (H.out.1.below hb) (by have := H.out; omega)).mono ?_
 rintro e w2 ⟨rfl, hb2⟩
 replace hb := keep1 hb hb2
 go_wp2_with fail
 refine (btot_w (H.out.2.1.below hb) (by have := H.out; omega)).mono ?_
 rintro e w3 ⟨rfl, hb3⟩
 replace hb := keep1 hb hb3
 go_wp2_with fail
 refine (PL.out w3 hb).mono ?_
 rintro e w4 ⟨rfl, hb⟩
 have f4 := (H.out.1.below hb).at'.c6
 have g4 := (H.out.2.1.below hb).at'.c6
 have l4 := (H.out.1.below hb).at'.lt
 have k4 := (H.out.2.1.below hb).at'.lt
 replace hb := hb.drew
 clear hb2 hb3 LK PL
 go_upto_region 8 with fail
 go_still_tail 8, (by kernel_rfl)
 change wpList _ _ _ _ _ w4.drew
 clear f4 g4 l4 k4
 generalize w4.drew = W at hb ⊢
 go_wp2_with fail
 refine (lmg_w ((H.out.1.below hb).st true) ((H.out.2.1.below hb).st true) (sub.out true) (by have := H.out.2.2.2.2.1.2.2.2.2 true; have := H.out.2.2.2.2.2.2.2.2.2 true; have := H.out.2.2.2.1; omega)).mono ?_
 rintro e w5 ⟨rfl, T1, a1, m1⟩
 obtain ⟨h5, M5⟩ := (H.out.1.below hb).put m1 a1
 replace M5 := (Mv.of _ hb).trans M5
 have k5 := H.out.2.1.frame M5.f H.out.2.2.1.symm
 have d5 := (h5.below (Below.refl _ _).drew)
 replace k5 := (k5.below (Below.refl _ _).drew)
 replace M5 := M5.trans (Mv.of _ (Below.refl w5.heap.size w5).drew)
 have f4 := h5.at'.c6
 have g4 := k5.at'.c6
 have l4 := h5.at'.lt
 have k4 := k5.at'.lt
 have e1 : upd n true (n true + n2 true) false = n false := rfl
 have e2 : upd S true T1 false = S false := rfl
 clear a1 m1 hb h5
 go_upto_region 9 with fail
 go_still_tail 8, (by kernel_rfl)
 change wpList _ _ _ _ _ w5.drew
 clear f4 g4 l4 k4
 generalize w5.drew = W at *
 go_wp2_with fail
 refine (lmg_w (d5.st false) (k5.st false) (fun q hq => sub.out false q (by rw [e2] at hq; exact hq)) (by rw [e1]; have := H.out.2.2.2.2.1.2.2.2.2 false; have := H.out.2.2.2.2.2.2.2.2.2 false; have := H.out.2.2.2.1; omega)).mono ?_
 rintro e w6 ⟨rfl, T2, a1, m1⟩
 obtain ⟨h6, M6⟩ := d5.put m1 a1
 replace M6 := M5.trans M6
 have k6 := H.out.2.1.frame M6.f H.out.2.2.1.symm
 have f6 := h6.at'.c6
 have g6 := k6.at'.c6
 have l6 := h6.at'.lt
 have m6 := k6.at'.lt
 have wz : IntKind.u64.wrap (z + z2) = z + z2 := by have := H.out; simp only [IntKind.wrap_u64]; omega
 obtain ⟨h7, M7⟩ := h6.set (y := z + z2) (by have := H.out; omega)
 have R : Hid (BwR b t TS s K S most (bN n z + bN n2 z2) w (w6.setCell ⟨b, 5, none⟩ (.int .u64 (z + z2))).drew) := ⟨_, _, _, h7.below (Below.refl _ _).drew, (M6.trans M7).trans (Mv.of _ (Below.refl _ _).drew), by simp [bN, upd]; omega⟩
 clear d5 k5 M5 a1 m1 h6 M6 k6 h7 M7 e1 e2 sub
 go_wp2
 go_region
 clear f6 g6 l6 m6
 go_wp2
 go_ret
 exact ⟨rfl, R.out⟩
end
end Go.Proofs.YtlbnlmhcpephbaaGreatDoor
