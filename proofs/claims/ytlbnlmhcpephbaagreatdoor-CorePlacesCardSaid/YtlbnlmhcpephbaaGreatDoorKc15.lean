/- Texts of this claim, joined, indents halved: GkS, AppRow, TupAll, TupFind, Tup1. -/
import Derived.Test.YtlbnlmhcpephbaaGreatDoorProg
import Derived.Laws.AppendOwnNone
import Derived.Maps.AppendAt
import Derived.OwnWalk
import Derived.Below
import Derived.Lib.Overlaps
import Derived.Laws.Externs
import Derived.Lib.SliceRun
import Derived.Test.YtlbnlmhcpephbaaGreatDoorKc14
namespace Go.Proofs.YtlbnlmhcpephbaaGreatDoor
structure BdS (ps : List Tu) : Prop where
 pos : ∀ t ∈ ps, 1 ≤ t.2.1 ∧ 0 ≤ t.2.2
 lt : ∀ t ∈ ps, sg ps + t.2.2 < 18446744073709551616
structure Sqz (L : Int) (ps qs : List Tu) : Prop where
 gk : ∀ V, Gk ps V → Gk qs V
 lim : ∀ M, L ≤ M → Lim ps M → Lim qs M
 bd : BdS ps → BdS qs
 len : qs.length ≤ ps.length
theorem Sqz.refl (L : Int) (ps : List Tu) : Sqz L ps ps := ⟨fun _ h => h, fun _ _ h => h, id, Nat.le_refl _⟩
theorem sg_join (A B : List Tu) (p q : Tu) : sg (A ++ (q.1, p.2.1 + q.2.1, q.2.2) :: B) = sg (A ++ p :: q :: B) := by
 rw [sg_append, sg_append, sg_cons, sg_cons, sg_cons]
 dsimp only
 omega
theorem BdS.two {A B : List Tu} {p q : Tu} (h : BdS (A ++ p :: q :: B)) : p.2.1 + q.2.1 + q.2.2 < 18446744073709551616 ∧ 1 ≤ p.2.1 ∧ 1 ≤ q.2.1 ∧ 0 ≤ q.2.2 := by
 have h1 := h.lt q (by simp)
 have hp := h.pos p (by simp)
 have hq := h.pos q (by simp)
 have hA := sg_nn (row := A) fun t ht => h.pos t (by simp [ht])
 have hB := sg_nn (row := B) fun t ht => h.pos t (by simp [ht])
 rw [sg_append, sg_cons, sg_cons] at h1
 omega
theorem Sqz.step {L : Int} {ps A B : List Tu} {p q : Tu} (h : Sqz L ps (A ++ p :: q :: B)) (hA : A ≠ []) (hl : p.2.1 + q.2.1 + q.2.2 ≤ L) : Sqz L ps (A ++ (q.1, p.2.1 + q.2.1, q.2.2) :: B) := by
 refine ⟨fun V hV => (h.gk V hV).join hA, fun M hM hp t ht => ?_, fun hb => ?_, ?_⟩
 ·have h0 := h.lim M hM hp
  rcases List.mem_append.1 ht with h1 | h1
  ·exact h0 t (by simp [h1])
  ·rcases List.mem_cons.1 h1 with rfl | h1
   ·show p.2.1 + q.2.1 + q.2.2 ≤ M
    omega
   ·exact h0 t (by simp [h1])
 ·have h0 := h.bd hb
  have h2 := h0.two
  refine ⟨fun t ht => ?_, fun t ht => ?_⟩
  ·rcases List.mem_append.1 ht with h1 | h1
   ·exact h0.pos t (by simp [h1])
   ·rcases List.mem_cons.1 h1 with rfl | h1
    ·show 1 ≤ p.2.1 + q.2.1 ∧ 0 ≤ q.2.2
     omega
    ·exact h0.pos t (by simp [h1])
  ·rw [sg_join]
   rcases List.mem_append.1 ht with h1 | h1
   ·exact h0.lt t (by simp [h1])
   ·rcases List.mem_cons.1 h1 with rfl | h1
    ·exact h0.lt q (by simp)
    ·exact h0.lt t (by simp [h1])
 ·have := h.len
  simp only [List.length_append, List.length_cons] at this ⊢
  omega
theorem two_split {α : Type} (qs : List α) (d : α) (i : Nat) (h : i + 1 < qs.length) : qs = qs.take i ++ qs.getD i d :: qs.getD (i + 1) d :: qs.drop (i + 2) := by
 rw [List.getD_eq_getElem?_getD, List.getD_eq_getElem?_getD, List.getElem?_eq_getElem (by omega), List.getElem?_eq_getElem h]
 simp only [Option.getD_some]
 rw [List.getElem_cons_drop, List.getElem_cons_drop, List.take_append_drop]
theorem two_join {α : Type} (qs : List α) (i : Nat) (v : α) (h : i + 1 < qs.length) : (qs.set (i + 1) v).take i ++ (qs.set (i + 1) v).drop (i + 1) = qs.take i ++ v :: qs.drop (i + 2) := by
  have e1 : (qs.set (i + 1) v).take i = qs.take i := by
    apply List.ext_getElem?
    intro j
    simp only [List.getElem?_take, List.getElem?_set]
    by_cases e : j < i
    · rw [if_pos e, if_pos e, if_neg (by omega)]
    · rw [if_neg e, if_neg e]
  have e2 : (qs.set (i + 1) v).drop (i + 1) = v :: qs.drop (i + 2) := by
    apply List.ext_getElem?
    intro j
    rw [List.getElem?_drop, List.getElem?_set]
    cases j with
    | zero => simp [h]
    | succ j =>
      rw [if_neg (by omega), List.getElem?_cons_succ, List.getElem?_drop]
      congr 1
      omega
  rw [e1, e2]
end Go.Proofs.YtlbnlmhcpephbaaGreatDoor

namespace Go.Proofs.YtlbnlmhcpephbaaGreatDoor
open Go.RowKit
end Go.Proofs.YtlbnlmhcpephbaaGreatDoor

namespace Go.Proofs.YtlbnlmhcpephbaaGreatDoor.Tt
open Go.RowKit
def tget (ls : List Tu) (i : Nat) : Tu := ls.getD i (0, 0, 0)
def flatT (ls : List Tu) : List Value := ls.flatMap fun x => [.int .i64 x.1, .int .u64 x.2.1, .int .u64 x.2.2]
theorem flatT_len (ls : List Tu) : (flatT ls).length = ls.length * 3 := flat3_len ls
theorem flatT_append (ls ks : List Tu) : flatT (ls ++ ks) = flatT ls ++ flatT ks := by simp [flatT]
theorem flatT_one' {ls : List Tu} : ∀ u ∈ flatT ls, u.oneCell' = true := by
 intro u hu
 simp only [flatT, List.mem_flatMap, List.mem_cons, List.not_mem_nil, or_false] at hu
 obtain ⟨x, _, rfl | rfl | rfl⟩ := hu <;> rfl
def RdT (w : World) (A : Option Addr) (ls : List Tu) : Prop := Rd w A (flatT ls)
theorem RdT.below {w w' : World} {A : Option Addr} {ls : List Tu} (h : RdT w A ls) (hb : Below w.heap.size w w') : RdT w' A ls := Rd.below h hb
theorem RdT.nil (w : World) (A : Option Addr) : RdT w A [] := Rd.nil w A
theorem RdT.at {w : World} {A : Option Addr} {ls : List Tu} (h : RdT w A ls) (j : Nat) (hj : j < ls.length) :
  ∃ g o, A = some ⟨g, o, none⟩ ∧ g < w.heap.size ∧ w.cell? ⟨g, o + j * 3, none⟩ = some (.int .i64 (ls[j]'hj).1) ∧ w.cell? ⟨g, o + j * 3 + 1, none⟩ = some (.int .u64 (ls[j]'hj).2.1) ∧ w.cell? ⟨g, o + j * 3 + 2, none⟩ = some (.int .u64 (ls[j]'hj).2.2) := by
 obtain ⟨q0, q1, q2⟩ := flat3 (f := fun x : Tu => Value.int .i64 x.1) (g := fun x => Value.int .u64 x.2.1) (k := fun x => Value.int .u64 x.2.2) ls j hj
 obtain ⟨g, o, rfl, hg, h0⟩ := h _ _ q0
 obtain ⟨g', o', e, _, h1⟩ := h _ _ q1
 simp only [Option.some.injEq, Addr.mk.injEq, and_true] at e
 obtain ⟨rfl, rfl⟩ := e
 obtain ⟨g', o', e, _, h2⟩ := h _ _ q2
 simp only [Option.some.injEq, Addr.mk.injEq, and_true] at e
 obtain ⟨rfl, rfl⟩ := e
 exact ⟨g, o, rfl, hg, h0, by rw [Nat.add_assoc]; exact h1, by rw [Nat.add_assoc]; exact h2⟩
theorem RdT.at' {w : World} {A : Option Addr} {ls : List Tu} (h : RdT w A ls) (j : Nat) (hj : j < ls.length) :
  ∃ g o, A = some ⟨g, o, none⟩ ∧ g < w.heap.size ∧ w.cell? ⟨g, o + j * 3, none⟩ = some (.int .i64 (tget ls j).1) ∧ w.cell? ⟨g, o + j * 3 + 1, none⟩ = some (.int .u64 (tget ls j).2.1) ∧ w.cell? ⟨g, o + j * 3 + 2, none⟩ = some (.int .u64 (tget ls j).2.2) := by
 have := h.at j hj
 unfold tget
 rw [List.getD_eq_getElem?_getD, List.getElem?_eq_getElem hj]
 exact this
def okT (ls : List Tu) : Prop := ∀ x ∈ ls, (-9223372036854775808 ≤ x.1 ∧ x.1 ≤ 9223372036854775807) ∧ (0 ≤ x.2.1 ∧ x.2.1 < 18446744073709551616) ∧ (0 ≤ x.2.2 ∧ x.2.2 < 18446744073709551616)
theorem new_three0 {w : World} {b : Nat} {u0 u1 u2 : Value} {T : TypeId} (hb : b = w.heap.size) : (w.alloc (.cells #[u0, u1, u2] T)).cell? ((⟨b, 0, none⟩ : Addr).add 0) = some u0 := by
 rw [Addr.add_lit]; exact (At.new' w #[u0, u1, u2] T hb).cell (i := 0) rfl
theorem new_three1 {w : World} {b : Nat} {u0 u1 u2 : Value} {T : TypeId} (hb : b = w.heap.size) : (w.alloc (.cells #[u0, u1, u2] T)).cell? ((⟨b, 0, none⟩ : Addr).add 1) = some u1 := by
 rw [Addr.add_lit]; exact (At.new' w #[u0, u1, u2] T hb).cell (i := 1) rfl
theorem new_three2 {w : World} {b : Nat} {u0 u1 u2 : Value} {T : TypeId} (hb : b = w.heap.size) : (w.alloc (.cells #[u0, u1, u2] T)).cell? ((⟨b, 0, none⟩ : Addr).add 2) = some u2 := by
 rw [Addr.add_lit]; exact (At.new' w #[u0, u1, u2] T hb).cell (i := 2) rfl
def OwnT (base : Nat) (w : World) (A : Option Addr) (cap : Nat) (ls : List Tu) : Prop := w.ownsRow base 230 3 (.slice A ls.length cap) ls.length (flatT ls)
theorem OwnT.nil (base : Nat) (w : World) : OwnT base w none 0 [] := World.ownsRow_nil w base _ 3
theorem OwnT.below {base cap : Nat} {w w' : World} {A : Option Addr} {ls : List Tu} (h : OwnT base w A cap ls) (hb : Below w.heap.size w w') : OwnT base w' A cap ls := by
 obtain ⟨h1, h2⟩ := h
 refine ⟨h1, ?_⟩
 rcases h2 with h2 | ⟨g, c, cur, e, hg, hc, r⟩
 ·exact .inl h2
 ·exact .inr ⟨g, c, cur, e, hg, (hb.block g (Array.getElem?_eq_some_iff.1 hc).1).trans hc, r⟩
theorem OwnT.rd {base cap : Nat} {w : World} {A : Option Addr} {ls : List Tu} (h : OwnT base w A cap ls) : RdT w A ls := by
 intro j u hj
 rcases h.2 with ⟨e, hn⟩ | ⟨g, c, cur, e, hg, hc, r⟩
 ·have : ls = [] := List.eq_nil_of_length_eq_zero hn
  subst this
  simp [flatT] at hj
 ·injection e with e1 e2 e3
  subst e1
  have hl := (Array.getElem?_eq_some_iff.1 hc).1
  refine ⟨g, 0, rfl, hl, ?_⟩
  have := World.ownsRow.cells h (g := g) rfl j u hj
  rwa [Addr.add_lit] at this
theorem OwnT.base_le {base cap : Nat} {w : World} {A : Option Addr} {ls : List Tu} (h : OwnT base w A cap ls) : ∀ g, A = some g → base ≤ g.block ∧ g.block < w.heap.size := by
 rintro g rfl
 exact World.ownsRow.lt h g.block rfl
theorem OwnT.mono {base base' cap : Nat} {w : World} {A : Option Addr} {ls : List Tu} (h : OwnT base w A cap ls) (hb : base' ≤ base) : OwnT base' w A cap ls := by
 obtain ⟨h1, h2⟩ := h
 refine ⟨h1, ?_⟩
 rcases h2 with h2 | ⟨g, c, cur, e, hg, r⟩
 ·exact .inl h2
 ·exact .inr ⟨g, c, cur, e, Nat.le_trans hb hg, r⟩
theorem OwnT.empty (w : World) (base : Nat) (hb : base ≤ w.heap.size) : OwnT base (w.alloc (.cells #[] 230)) (some ⟨w.heap.size, 0, none⟩) 0 [] :=
 World.ownsRow_lit w #[] 0 hb (by simp [maxLen]) rfl
theorem Tryz.underlyingTups : Tryz.prog.underlying 170 = some (.slice 230) := by kernel_rfl
theorem Tryz.infoTup0 : (Tryz.prog.info? 230).map (fun i => (i.zero, i.size, i.bytes)) = some (some (.agg #[.int .i64 0, .int .u64 0, .int .u64 0]), 3, 24) := by kernel_rfl
theorem Tryz.infoTups : ∃ i, Tryz.prog.info? 230 = some i ∧ i.zero = some (.agg #[.int .i64 0, .int .u64 0, .int .u64 0]) ∧ i.size = 3 ∧ i.bytes = 24 := by
  have := Tryz.infoTup0
  cases hh : Tryz.prog.info? 230 with
  | none => rw [hh] at this; cases this
  | some i =>
    rw [hh] at this
    simp only [Option.map_some, Option.some.injEq, Prod.mk.injEq] at this
    exact ⟨i, rfl, this.1, this.2.1, this.2.2⟩
theorem wpList_append_tup {ops : Array Oper} {rest : List Oper} {o : Oper} {a : Act} {Q : Exit → Act → World → Prop} {w : World} (hgd : o.guard = none) (s x : Operand)
  (ho : o.op = .call { callee := .builtin .append, args := #[s, x], argTypes := #[170, 170] })
  (base : Nat) (A : Option Addr) (cap n : Nat) (ls : List Tu) (hs : a.eval s = .slice A n cap) (hn : ls.length = n) (hown : OwnT base w A cap ls)
  (ad : Addr) (c : Nat) (p : Tu) (hx : a.eval x = .slice (some ad) 1 c) (h0 : w.cell? (ad.add 0) = some (.int .i64 p.1)) (h1 : w.cell? (ad.add 1) = some (.int .u64 p.2.1)) (h2 : w.cell? (ad.add 2) = some (.int .u64 p.2.2))
  (hlen : n ≤ 1099511627775) (W0 : World) (hB : Below base W0 w) (hbase : base ≤ w.heap.size)
  (h : ∀ A' cap' w', Hid (OwnT base w' A' cap' (ls ++ [p])) → Below base W0 w' → wpList Tryz.prog ops Q rest (a.put o.dst (.slice A' (n + 1) cap')) w') :
  wpList Tryz.prog ops Q (o :: rest) a w := by
 subst hn
 obtain ⟨i, hi, hz, hsz, hby⟩ := Tryz.infoTups
 refine wpList_append_own_at w hgd s x _ ho base _ i _ 3 24 Tryz.underlyingTups hi hz hsz hby rfl (by decide) _ ls.length (flatT ls) hs hown ad 1 c (flatT [p]) hx (flatT_len _) ?_ flatT_one' (by simp only [maxLen]; omega) (by omega) hbase ?_
 ·intro j u hj
  match j, hj with
  | 0, hj => simp [flatT] at hj; subst hj; exact h0
  | 1, hj => simp [flatT] at hj; subst hj; exact h1
  | 2, hj => simp [flatT] at hj; subst hj; exact h2
 ·intro v' w' hown' hg _ _
  have hB' : Below base W0 w' := hB.grown hg hbase (fun k hk => (World.ownsRow.lt hown k hk).1)
  rw [← flatT_append] at hown'
  have hl : (ls ++ [p]).length = ls.length + 1 := by simp
  rcases hown'.2 with ⟨e, hn⟩ | ⟨g, cp, cur, rfl, r⟩
  ·omega
  ·exact h _ _ _ (by show OwnT _ _ _ _ _; unfold OwnT; rw [hl]; exact hown') hB'
end Go.Proofs.YtlbnlmhcpephbaaGreatDoor.Tt
namespace Go.Proofs.YtlbnlmhcpephbaaGreatDoor.Tt
open Go.RowKit
theorem Tryz.sizeTups : (Tryz.prog.info? 230).map (·.size) = some 3 := by
 obtain ⟨i, hi, _, h2, _⟩ := Tryz.infoTups
 rw [hi]; simp [h2]
theorem flatT_one {ps : List Tu} : ∀ u ∈ flatT ps, u.oneCell' = true := by
 intro u hu
 simp only [flatT, List.mem_flatMap, List.mem_cons, List.not_mem_nil, or_false] at hu
 obtain ⟨x, _, rfl | rfl | rfl⟩ := hu <;> rfl
theorem flatT_take (ps : List Tu) (i : Nat) : (flatT ps).take (i * 3) = flatT (ps.take i) := by
 have h : flatT ps = flatT (ps.take i) ++ flatT (ps.drop i) := by rw [← flatT_append, List.take_append_drop]
 by_cases hi : i ≤ ps.length
 ·rw [h, ← show (flatT (ps.take i)).length = i * 3 by rw [flatT_len, List.length_take]; omega]
  exact List.take_left
 ·rw [List.take_of_length_le (by rw [flatT_len]; omega), List.take_of_length_le (by omega)]
theorem flatT_drop (ps : List Tu) (i : Nat) : (flatT ps).drop (i * 3) = flatT (ps.drop i) := by
 have h : flatT ps = flatT (ps.take i) ++ flatT (ps.drop i) := by rw [← flatT_append, List.take_append_drop]
 by_cases hi : i ≤ ps.length
 ·rw [h, ← show (flatT (ps.take i)).length = i * 3 by rw [flatT_len, List.length_take]; omega]
  exact List.drop_left
 ·rw [List.drop_of_length_le (by rw [flatT_len]; omega), List.drop_of_length_le (by omega)]; rfl
theorem flatT_cons (x : Tu) (ps : List Tu) : flatT (x :: ps) = [.int .i64 x.1, .int .u64 x.2.1, .int .u64 x.2.2] ++ flatT ps := by simp [flatT]
theorem OwnT.from {base cap n : Nat} {w : World} {g : Nat} {ps : List Tu} (h : w.ownsRow base 230 3 (.slice (some ⟨g, 0, none⟩) n cap) n (flatT ps)) (i : Nat) : ∀ j u, (flatT (ps.drop i))[j]? = some u → w.cell? ((⟨g, i * 3, none⟩ : Addr).add j) = some u := by
 intro j u hj
 rw [← flatT_drop, List.getElem?_drop] at hj
 have := World.ownsRow.cells h (g := g) rfl (i * 3 + j) u hj
 rw [Addr.add_lit, Nat.zero_add] at this
 rw [Addr.add_lit]
 exact this
theorem run_app (base : Nat) (A : Option Addr) (cap : Nat) (ps qs : List Tu) (w : World) (hown : OwnT base w A cap ps) (ad : Addr) (c : Nat) (hsrc : ∀ j u, (flatT qs)[j]? = some u → w.cell? (ad.add j) = some u)
  (hlen : ps.length + qs.length ≤ 1099511627776) (hb : base ≤ w.heap.size) :
  ∃ A' cap' w', (Builtin.append_ #[170, 170] 170 #[.slice A ps.length cap, .slice (some ad) qs.length c]).run Tryz.prog w = .ok (.slice A' (ps.length + qs.length) cap') w' ∧
   OwnT base w' A' cap' (ps ++ qs) ∧ Frame (blk A) w w' ∧ ∀ k ∈ blk A', k ∈ blk A ∨ w.heap.size ≤ k := by
 obtain ⟨i, hi, hz, hsz, hby⟩ := Tryz.infoTups
 obtain ⟨v', w', hr, hown', hg, hnil, hblk⟩ := run_append_own_at (P := Tryz.prog) w base 170 170 _ i _ 3 24 Tryz.underlyingTups hi hz hsz hby rfl (by decide) _ ps.length (flatT ps) hown ad qs.length c (flatT qs) (flatT_len _) hsrc
  flatT_one (by simp only [maxLen]; omega) (by omega) hb
 rw [← flatT_append] at hown'
 have hl : (ps ++ qs).length = ps.length + qs.length := List.length_append
 rcases hown'.2 with ⟨rfl, hn⟩ | ⟨g, cp, cur, rfl, r⟩
 ·refine ⟨none, 0, w', ?_, ?_, frame_grown hg, fun k hk => by simp [blk] at hk⟩
  ·rw [hr, hn]
  ·unfold OwnT; rw [hl, hn]; rw [hn] at hown'; exact hown'
 ·refine ⟨some ⟨g, 0, none⟩, cp, w', hr, ?_, frame_grown hg, ?_⟩
  ·unfold OwnT; rw [hl]; exact hown'
  ·intro k hk
   simp only [blk, List.mem_singleton] at hk
   subst hk
   simp only [Value.ownBlock] at hblk
   rcases hblk with hblk | hblk
   ·cases A with
    | none => simp at hblk
    | some a => simp only [Option.some.injEq] at hblk; exact .inl (by simp [blk, hblk])
   ·simp only [Option.some.injEq] at hblk
    exact .inr (by omega)
theorem insert_list (ps : List Tu) (i : Nat) (p : Tu) : flatT (ps.take i) ++ [.int .i64 p.1, .int .u64 p.2.1, .int .u64 p.2.2] ++ flatT (ps.drop i) = flatT (ps.take i ++ p :: ps.drop i) := by
 rw [flatT_append, flatT_cons, List.append_assoc]
def InsR (base : Nat) (A : Option Addr) (ps : List Tu) (i : Nat) (p : Tu) (w : World) (e : Ending) (w' : World) : Prop :=
 ∃ A' c', e = .returned (.slice A' (ps.length + 1) c') ∧ OwnT base w' A' c' (ps.take i ++ p :: ps.drop i) ∧ Frame (blk A) w w' ∧ ∀ k ∈ blk A', k ∈ blk A ∨ w.heap.size ≤ k
set_option maxRecDepth 100000 in
set_option maxHeartbeats 2000000 in
theorem insert_end (base : Nat) (A : Option Addr) (c : Nat) (ps : List Tu) (p : Tu) (vb : Nat) (w : World) (hown : OwnT base w A c ps) (hlen : ps.length ≤ 1048576) (hv : At w vb #[.int .i64 p.1, .int .u64 p.2.1, .int .u64 p.2.2] 230) (hb : base ≤ w.heap.size) :
    Calls Tryz.prog 282 #[.slice A ps.length c, .int .i64 ps.length, .slice (some ⟨vb, 0, none⟩) 1 1] w fun e w' => InsR base A ps ps.length p w e w' := by
  have hsrc : ∀ j u, (flatT [p])[j]? = some u → w.cell? ((⟨vb, 0, none⟩ : Addr).add j) = some u := by
    intro j u hj
    rw [Addr.add_lit, Nat.zero_add]
    match j, hj with
    | 0, hj => simp [flatT] at hj; subst hj; exact hv.cell rfl
    | 1, hj => simp [flatT] at hj; subst hj; exact hv.cell rfl
    | 2, hj => simp [flatT] at hj; subst hj; exact hv.cell rfl
  obtain ⟨A', c', w', hr, ho, hf, hk⟩ := run_app base A c ps [p] w hown ⟨vb, 0, none⟩ 1 hsrc (by simp; omega) hb
  have HR : Hid (InsR base A ps ps.length p w (.returned (.slice A' (ps.length + 1) c')) w') := ⟨A', c', rfl, by rw [List.take_length, List.drop_length]; exact ho, hf, hk⟩
  have hcap : ps.length ≤ c := by
    rcases hown.2 with ⟨h, h0⟩ | ⟨g, cp, cur, h, _, _, h1, _⟩
    · omega
    · simp only [Value.slice.injEq] at h; omega
  have hnil : A = none → ps.length = 0 ∧ c = 0 := fun hA => by
    rcases hown.2 with ⟨h, h0⟩ | ⟨g, cp, cur, h, _⟩
    · simp only [Value.slice.injEq] at h; exact ⟨h0, h.2.2⟩
    · rw [hA] at h; simp at h
  obtain ⟨n, hn⟩ : ∃ n, ps.length = n := ⟨_, rfl⟩
  rw [hn] at hr HR hcap hlen hnil ⊢
  replace hr := Lib.hid hr
  clear ho hf hk hown hsrc hn
  cases A with
  | none =>
    obtain ⟨rfl, rfl⟩ := hnil rfl
    clear hnil hcap
    go_enter Tryz.func282, Tryz.ntmps282
    go_wp2_with (at_builtin; refine Lib.wpList_append_run _ rfl _ _ _ _ rfl _ _ rfl rfl _ _ hr.out ?_)
    go_ret
    exact HR.out
  | some a =>
    clear hnil
    by_cases hc : c = n
    · subst hc
      go_enter Tryz.func282, Tryz.ntmps282
      go_wp2_with (at_builtin; refine Lib.wpList_append_run _ rfl _ _ _ _ rfl _ _ rfl rfl _ _ hr.out ?_)
      go_ret
      exact HR.out
    · go_enter Tryz.func282, Tryz.ntmps282
      go_wp2_with (at_builtin; refine Lib.wpList_append_run _ rfl _ _ _ _ rfl _ _ rfl rfl _ _ hr.out ?_)
      go_ret
      exact HR.out
set_option maxRecDepth 100000 in
set_option maxHeartbeats 4000000 in
theorem insert_room (base g : Nat) (c i : Nat) (ps : List Tu) (p : Tu) (vb : Nat) (w : World) (hown : OwnT base w (some ⟨g, 0, none⟩) c ps) (hi : i < ps.length) (hroom : ps.length + 1 ≤ c) (hlen : ps.length ≤ 1048576)
  (hv : At w vb #[.int .i64 p.1, .int .u64 p.2.1, .int .u64 p.2.2] 230) (hvb : vb ≠ g) :
  Calls Tryz.prog 282 #[.slice (some ⟨g, 0, none⟩) ps.length c, .int .i64 i, .slice (some ⟨vb, 0, none⟩) 1 1] w fun e w' => InsR base (some ⟨g, 0, none⟩) ps i p w e w' := by
 obtain ⟨n, hn⟩ : ∃ n, ps.length = n := ⟨_, rfl⟩
 rw [hn] at hi hroom hlen ⊢
 have hown0 : w.ownsRow base 230 3 (.slice (some ⟨g, 0, none⟩) n c) n (flatT ps) := by rw [← hn]; exact hown
 obtain ⟨ys, hys, hown1⟩ := own_longer hown0 (show n ≤ n + 1 by omega) hroom
 have hd : (flatT (ps.drop i)).length = (n - i) * 3 := by rw [flatT_len, List.length_drop, hn]
 have ht : (flatT (ps.take i)).length = i * 3 := by rw [flatT_len, List.length_take, hn]; omega
 have hxs : flatT ps = flatT (ps.take i) ++ flatT (ps.drop i) := by rw [← flatT_append, List.take_append_drop]
 obtain ⟨w1, hr1, ho1, hg1⟩ := run_copy_in (P := Tryz.prog) w.drew base 170 170 3 230 3 Tryz.underlyingTups Tryz.sizeTups g (n + 1) c _ hown1.drew ((i + 1) * 3) (n - i) (c - (i + 1)) ⟨g, i * 3, none⟩ (n + 1 - i) (c - i) (n - i) (flatT (ps.drop i))
  (by simp only [Nat.min_def]; split <;> omega) hd (OwnT.from hown0 i) (by rw [hd]; omega) flatT_one
 have hv1 : At w1 vb #[.int .i64 p.1, .int .u64 p.2.1, .int .u64 p.2.2] 230 := (hg1.block vb hv.lt (fun e => by cases e; exact hvb rfl)).trans hv
 have hsrc : ∀ j u, [Value.int .i64 p.1, .int .u64 p.2.1, .int .u64 p.2.2][j]? = some u → w1.cell? ((⟨vb, 0, none⟩ : Addr).add j) = some u := by
  intro j u hj
  rw [Addr.add_lit, Nat.zero_add]
  match j, hj with
  | 0, hj => simp at hj; subst hj; exact hv1.cell rfl
  | 1, hj => simp at hj; subst hj; exact hv1.cell rfl
  | 2, hj => simp at hj; subst hj; exact hv1.cell rfl
 obtain ⟨w2, hr2, ho2, hg2⟩ := run_copy_in (P := Tryz.prog) w1 base 170 170 3 230 3 Tryz.underlyingTups Tryz.sizeTups g (n + 1) c _ ho1 (i * 3) (n + 1 - i) (c - i) ⟨vb, 0, none⟩ 1 1 1 [.int .i64 p.1, .int .u64 p.2.1, .int .u64 p.2.2]
  (by simp only [Nat.min_def]; split <;> omega) rfl hsrc (by simp; omega) (by intro u hu; simp only [List.mem_cons, List.not_mem_nil, or_false] at hu; rcases hu with rfl | rfl | rfl <;> rfl)
 rw [hxs, sp1 (flatT (ps.take i)) (flatT (ps.drop i)) ys [.int .i64 p.1, .int .u64 p.2.1, .int .u64 p.2.2] (by rw [hys]; simp) (i * 3) ((i + 1) * 3) ht (by simp; omega), insert_list] at ho2
 have hlr : (ps.take i ++ p :: ps.drop i).length = n + 1 := by rw [List.length_append, List.length_cons, List.length_take, List.length_drop, hn]; omega
 have HR : Hid (InsR base (some ⟨g, 0, none⟩) ps i p w (.returned (.slice (some ⟨g, 0, none⟩) (n + 1) c)) w2) := by
  refine ⟨_, _, by rw [hn], ?_, (frame_some hg1).of_drew.trans (frame_some hg2), fun k hk => .inl hk⟩
  unfold OwnT
  rw [hlr]
  exact ho2
 have hsh : w.shape? vb = some (230, 3) := by unfold World.shape?; rw [show w.heap[vb]? = _ from hv]; rfl
 obtain ⟨cur, hcg, hcs, _⟩ := own_setRow w hown0
 have hsg : w.shape? g = some (230, c * 3) := by unfold World.shape?; rw [hcg]; simp [hcs]
 have hzE : ∀ w, (Go.sizeOf 230).run Tryz.prog w = .ok 3 w := fun w => by
  obtain ⟨i0, h0, _, h2, _⟩ := Tryz.infoTups
  simp [sizeOf, typeInfo, h0, h2]
 have hov : ∀ lb cb, (callFunc 296 #[.slice (some ⟨vb, 0, none⟩) 1 1, .slice (some ⟨g, (i + 1) * 3, none⟩) lb cb]).run Tryz.prog w = .ok (.value (.bool false)) w := fun lb cb => by
  rw [run_callFunc_extern Tryz.func296 (by kernel_rfl) (by kernel_rfl) (by kernel_rfl) (e := Extern.SlicesOverlaps.overlaps #[170, 170] #[4]) (by kernel_rfl),
   Lib.run_overlaps_apart w 170 4 230 Tryz.underlyingTups 3 hzE ⟨vb, 0, none⟩ ⟨g, (i + 1) * 3, none⟩ 1 1 lb cb hvb _ _ _ _ hsh hsg (by omega) (hv.frozen 0) (hv.frozen 3)]
  rfl
 have hb2 : ¬ (c = i + 1) := by omega
 have hb4 : ¬ (c = i) := by omega
 have w1' : IntKind.i64.wrap ((i : Int) + 1) = ((i + 1 : Nat) : Int) := by rw [IntKind.wrap_i64]; omega
 have w2' : IntKind.i64.wrap ((n : Int) + 1) = ((n + 1 : Nat) : Int) := by rw [IntKind.wrap_i64]; omega
 have n1 : ¬ ((i : Int) = n) := by omega
 have n1' : ((i : Int) == (n : Int)) = false := beq_eq_false_iff_ne.2 n1
 have n2 : ¬ ((c : Int) < n + 1) := by omega
 have n3 : (i : Int) ≤ n := by omega
 have n4 : n + 1 ≤ c := hroom
 have n5 : i + 1 ≤ n + 1 := by omega
 replace hr1 := Lib.hid hr1
 replace hr2 := Lib.hid hr2
 clear hown hown0 hown1 ho1 ho2 hd ht hxs hys hsrc hg1 hg2 hlr hsh hcg hcs hsg hzE hv1 hn
 go_enter Tryz.func282, Tryz.ntmps282
 go_wp2_with (simp only [hov])
 refine wp_region_noPanic ?_
 refine wp_region_until (S := fun _ => True) 9 (by kernel_rfl) ?_
 have hHeld : (fun _ : World => True) w.drew := trivial
 have hneF : Nonempty (Held fun _ => True) := ⟨⟨w, trivial⟩⟩
 refine wpAnyU_run0F [true, true, true, true, true, true, true, true] 1 (by kernel_rfl) (by kernel_rfl) (fun _ _ _ _ h => h) (by kernel_rfl) hHeld ?_
 simp only [runOps_true, runOps_false, runOps_nil]
 repeat (first | go_big_quiet_skip | (go_big_quiet_want; go_big_quiet_op; go_big_quiet_on))
 refine wpQuiet_nil ?_
 refine wpAnyU_ready (rs := [8]) (by kernel_rfl) (by simp) ?_
 refine AllReadyU.cons rfl (fun K hK => ?_) (AllReadyU.nil)
 refine ite_of rfl ?_
 refine wp_copy_run _ _ _ _ _ rfl _ _ rfl rfl hr1.out ?_
 refine hK.out _ _ (fun _ => trivial) ?_
 clear hK K
 refine wpAnyU_done (by kernel_rfl) ?_ _
 refine NoPanic.normal ?_
 simp only [Act.put, List.setIfInBounds_toArray, List.set_cons_zero, List.set_cons_succ]
 clear hneF hHeld
 have hr2' := hr2.out
 go_wp2
 go_ret
 exact HR.out
set_option maxRecDepth 100000 in
set_option maxHeartbeats 4000000 in
theorem insert_grow (base g : Nat) (c i : Nat) (ps : List Tu) (p : Tu) (vb : Nat) (w : World) (hown : OwnT base w (some ⟨g, 0, none⟩) c ps) (hi : i < ps.length) (hroom : c < ps.length + 1) (hlen : ps.length ≤ 1048576)
  (hv : At w vb #[.int .i64 p.1, .int .u64 p.2.1, .int .u64 p.2.2] 230) (hb : base ≤ w.heap.size) :
  Calls Tryz.prog 282 #[.slice (some ⟨g, 0, none⟩) ps.length c, .int .i64 i, .slice (some ⟨vb, 0, none⟩) 1 1] w fun e w' => InsR base (some ⟨g, 0, none⟩) ps i p w e w' := by
 obtain ⟨n, hn⟩ : ∃ n, ps.length = n := ⟨_, rfl⟩
 rw [hn] at hi hroom hlen ⊢
 have hown0 : w.ownsRow base 230 3 (.slice (some ⟨g, 0, none⟩) n c) n (flatT ps) := by rw [← hn]; exact hown
 obtain ⟨cur, hcg, hcs, hnc, _⟩ := own_setRow w hown0
 obtain ⟨M, hM⟩ : ∃ M, n + 1 - i = M := ⟨_, rfl⟩
 have hd : (flatT (ps.drop i)).length = (n - i) * 3 := by rw [flatT_len, List.length_drop, hn]
 have ht : (flatT (ps.take i)).length = i * 3 := by rw [flatT_len, List.length_take, hn]; omega
 obtain ⟨i0, hi0, hz, hsz, hby⟩ := Tryz.infoTups
 have hold : (Builtin.firstCells 3 i (.slice (some ⟨g, 0, none⟩) i c)).run Tryz.prog w.drew = .ok (flatT (ps.take i)).toArray w.drew :=
  run_firstCells_some (P := Tryz.prog) w.drew 3 i ⟨g, 0, none⟩ i c (flatT (ps.take i)) ht (fun j u hj => by
   have h0 := OwnT.from hown0.drew 0 j u
   rw [List.drop_zero, Nat.zero_mul] at h0
   refine h0 ?_
   rw [← flatT_take, List.getElem?_take] at hj
   split at hj
   ·exact hj
   ·cases hj)
 obtain ⟨cap', w1, hr1, ho1, hg1⟩ := run_append_zeros_grow (P := Tryz.prog) w base 170 3 170 230 i0 _ 3 24 .i64 .i64 Tryz.underlyingTups (by kernel_rfl) hi0 hz hsz hby rfl (by decide) (some ⟨g, 0, none⟩) i c M (flatT (ps.take i)) hold ht
  (by omega) (by omega) (by omega) (by simp only [maxLen]; omega) hb (by decide)
 obtain ⟨G, hG⟩ : ∃ G, w.heap.size = G := ⟨_, rfl⟩
 rw [hG] at hr1 ho1
 have hgG : g < G := by rw [← hG]; exact (Array.getElem?_eq_some_iff.1 hcg).1
 have hv1 : At w1 vb #[.int .i64 p.1, .int .u64 p.2.1, .int .u64 p.2.2] 230 := (hg1.block vb hv.lt (fun e => by cases e)).trans hv
 have hvG : vb < G := by rw [← hG]; exact hv.lt
 have hown1 : w1.ownsRow base 230 3 (.slice (some ⟨g, 0, none⟩) n c) n (flatT ps) := hown0.kept hg1 (.inr (by simp [Value.ownBlock]))
 have hcap : i + M ≤ cap' := by
  obtain ⟨_, _, _, h, _⟩ := own_setRow w1 ho1
  exact h
 have hsrc : ∀ j u, [Value.int .i64 p.1, .int .u64 p.2.1, .int .u64 p.2.2][j]? = some u → w1.cell? ((⟨vb, 0, none⟩ : Addr).add j) = some u := by
  intro j u hj
  rw [Addr.add_lit, Nat.zero_add]
  match j, hj with
  | 0, hj => simp at hj; subst hj; exact hv1.cell rfl
  | 1, hj => simp at hj; subst hj; exact hv1.cell rfl
  | 2, hj => simp at hj; subst hj; exact hv1.cell rfl
 obtain ⟨w2, hr2, ho2, hg2⟩ := run_copy_in (P := Tryz.prog) w1 base 170 170 3 230 3 Tryz.underlyingTups Tryz.sizeTups G (i + M) cap' _ ho1 (i * 3) M (cap' - i) ⟨vb, 0, none⟩ 1 1 1 [.int .i64 p.1, .int .u64 p.2.1, .int .u64 p.2.2]
  (by simp only [Nat.min_def]; split <;> omega) rfl hsrc (by simp; omega) (by intro u hu; simp only [List.mem_cons, List.not_mem_nil, or_false] at hu; rcases hu with rfl | rfl | rfl <;> rfl)
 have hown2 : w2.ownsRow base 230 3 (.slice (some ⟨g, 0, none⟩) n c) n (flatT ps) := hown1.kept hg2 (.inr (by simp [Value.ownBlock]; omega))
 obtain ⟨w3, hr3, ho3, hg3⟩ := run_copy_in (P := Tryz.prog) w2.drew base 170 170 3 230 3 Tryz.underlyingTups Tryz.sizeTups G (i + M) cap' _ ho2.drew ((i + 1) * 3) (i + M - (i + 1)) (cap' - (i + 1)) ⟨g, i * 3, none⟩ (n - i) (c - i) (n - i) (flatT (ps.drop i))
  (by simp only [Nat.min_def]; split <;> omega) hd (OwnT.from hown2.drew i) (by rw [hd]; omega) flatT_one
 rw [sp2 (flatT (ps.take i)) _ [.int .i64 p.1, .int .u64 p.2.1, .int .u64 p.2.2] (flatT (ps.drop i)) (by rw [Array.length_toList, zeroCells_length, hd]; simp [Value.cells]; omega) (i * 3) ((i + 1) * 3) ht (by simp; omega), insert_list] at ho3
 have hlr : (ps.take i ++ p :: ps.drop i).length = n + 1 := by rw [List.length_append, List.length_cons, List.length_take, List.length_drop, hn]; omega
 have hiM : i + M = n + 1 := by omega
 have HR : Hid (InsR base (some ⟨g, 0, none⟩) ps i p w (.returned (.slice (some ⟨G, 0, none⟩) (i + M) cap')) w3) := by
  refine ⟨some ⟨G, 0, none⟩, cap', by rw [hn, hiM], ?_, ?_, fun k hk => .inr (by simp only [blk, List.mem_singleton] at hk; omega)⟩
  ·unfold OwnT
   rw [hlr, ← hiM]
   exact ho3
  ·have B1 : Below w.heap.size w w1 := (frame_none hg1).below (Below.refl _ _) (Nat.le_refl _) (fun k hk => by simp at hk)
   have B2 : Below w.heap.size w w2 := (frame_some hg2).below B1 B1.size (fun k hk => by simp at hk; omega)
   have B3 : Below w.heap.size w w3 := (frame_some hg3).of_drew.below B2 B2.size (fun k hk => by simp at hk; omega)
   exact Frame.of_below B3
 have hM2 : (n : Int) + 1 - i = (M : Int) := by omega
 have n1 : ¬ ((i : Int) = n) := by omega
 have n1' : ((i : Int) == (n : Int)) = false := beq_eq_false_iff_ne.2 n1
 have n2 : (c : Int) < n + 1 := by omega
 have n3 : (i : Int) ≤ n := by omega
 have n4 : i ≤ n := by omega
 have hb2 : ¬ (cap' = i + 1) := by omega
 have hb4 : ¬ (cap' = i) := by omega
 have hb5 : ¬ (c = i) := by omega
 have w1' : IntKind.i64.wrap ((i : Int) + 1) = ((i + 1 : Nat) : Int) := by rw [IntKind.wrap_i64]; omega
 have m1 : i + 1 ≤ i + M := by omega
 have m2 : (1 : Int) ≤ M := by omega
 have m3 : 1 ≤ M := by omega
 have e1 : i + M - i = M := by omega
 have hic : i ≤ c := by omega
 replace hr1 := Lib.hid hr1
 clear hown hown0 hown1 hown2 ho1 ho2 ho3 hd ht hsrc hg1 hg2 hg3 hlr hcg hcs hv1 hn hold hG hM hiM hi0 hz hsz hby
 go_enter Tryz.func282, Tryz.ntmps282
 go_wp2_with (at_builtin; refine Lib.wpList_append_run _ rfl _ _ _ _ rfl _ _ rfl rfl _ _ hr1.out ?_)
 clear hr1 hr2
 replace hr3 := Lib.hid hr3
 refine wp_region_noPanic ?_
 refine wp_region_until (S := fun _ => True) 9 (by kernel_rfl) ?_
 have hHeld : (fun _ : World => True) w2.drew := trivial
 have hneF : Nonempty (Held fun _ => True) := ⟨⟨w2, trivial⟩⟩
 refine wpAnyU_run0F [true, true, true, true, true, true, true, true] 1 (by kernel_rfl) (by kernel_rfl) (fun _ _ _ _ h => h) (by kernel_rfl) hHeld ?_
 simp only [runOps_true, runOps_false, runOps_nil]
 repeat (first | go_big_quiet_skip | (go_big_quiet_want; go_big_quiet_op; go_big_quiet_on))
 refine wpQuiet_nil ?_
 refine wpAnyU_ready (rs := [8]) (by kernel_rfl) (by simp) ?_
 refine AllReadyU.cons rfl (fun K hK => ?_) (AllReadyU.nil)
 refine ite_of rfl ?_
 refine wp_copy_run _ _ _ _ _ rfl _ _ rfl rfl hr3.out ?_
 refine hK.out _ _ (fun _ => trivial) ?_
 clear hK K
 refine wpAnyU_done (by kernel_rfl) ?_ _
 refine NoPanic.normal ?_
 simp only [Act.put, List.setIfInBounds_toArray, List.set_cons_zero, List.set_cons_succ]
 clear hneF hHeld
 go_wp2
 go_ret
 exact HR.out
theorem insert_any (base : Nat) (A : Option Addr) (c i : Nat) (ps : List Tu) (p : Tu) (vb : Nat) (w : World) (hown : OwnT base w A c ps) (hi : i ≤ ps.length) (hlen : ps.length ≤ 1048576)
  (hv : At w vb #[.int .i64 p.1, .int .u64 p.2.1, .int .u64 p.2.2] 230) (hvb : ∀ k ∈ blk A, k ≠ vb) (hb : base ≤ w.heap.size) :
  Calls Tryz.prog 282 #[.slice A ps.length c, .int .i64 i, .slice (some ⟨vb, 0, none⟩) 1 1] w fun e w' => InsR base A ps i p w e w' := by
 by_cases h : i = ps.length
 ·subst h
  exact insert_end base A c ps p vb w hown hlen hv hb
 ·have hlt : i < ps.length := by omega
  obtain ⟨g, rfl⟩ : ∃ g, A = some ⟨g, 0, none⟩ := by
   rcases hown.2 with ⟨_, h0⟩ | ⟨g, cp, cur, h, _⟩
   ·omega
   ·simp only [Value.slice.injEq] at h; exact ⟨g, h.1⟩
  by_cases hr : ps.length + 1 ≤ c
  ·exact insert_room base g c i ps p vb w hown hlt hr hlen hv (fun e => hvb g (by simp [blk]) e.symm)
  ·exact insert_grow base g c i ps p vb w hown hlt (by omega) hlen hv hb
end Go.Proofs.YtlbnlmhcpephbaaGreatDoor.Tt
namespace Go.Proofs.YtlbnlmhcpephbaaGreatDoor.Tt
open Go.RowKit
def DelR (base g c : Nat) (ps : List Tu) (i : Nat) (w : World) (e : Ending) (w' : World) : Prop :=
 e = .returned (.slice (some ⟨g, 0, none⟩) (ps.length - 1) c) ∧ OwnT base w' (some ⟨g, 0, none⟩) c (ps.take i ++ ps.drop (i + 1)) ∧ Frame [g] w w'
set_option maxRecDepth 100000 in
set_option maxHeartbeats 4000000 in
theorem delete_any (base g c i : Nat) (ps : List Tu) (w : World) (hown : OwnT base w (some ⟨g, 0, none⟩) c ps) (hi : i < ps.length) (hlen : ps.length ≤ 1048576) :
  Calls Tryz.prog 283 #[.slice (some ⟨g, 0, none⟩) ps.length c, .int .i64 i, .int .i64 (i + 1 : Nat)] w fun e w' => DelR base g c ps i w e w' := by
 obtain ⟨n, hn⟩ : ∃ n, ps.length = n := ⟨_, rfl⟩
 rw [hn] at hi hlen ⊢
 have hown0 : w.ownsRow base 230 3 (.slice (some ⟨g, 0, none⟩) n c) n (flatT ps) := by rw [← hn]; exact hown
 obtain ⟨_, _, _, hnc, _⟩ := own_setRow w hown0
 obtain ⟨i0, hi0, hz, hsz, hby⟩ := Tryz.infoTups
 obtain ⟨D, hD⟩ : ∃ D, n - (i + 1) = D := ⟨_, rfl⟩
 have hiK : i + D + 1 = n := by omega
 have hd : (flatT (ps.drop (i + 1))).length = D * 3 := by rw [flatT_len, List.length_drop, hn, hD]
 have hpre := own_shorter hown0 (show i ≤ n by omega)
 rw [flatT_take] at hpre
 obtain ⟨ad, cp, had, hsrc⟩ : ∃ (ad : Addr) (cp : Nat), ((c = i + 1 ∧ ad = ⟨g, 0, none⟩ ∧ cp = 0) ∨ (c ≠ i + 1 ∧ ad = ⟨g, (i + 1) * 3, none⟩ ∧ cp = c - (i + 1))) ∧ ∀ j u, (flatT (ps.drop (i + 1)))[j]? = some u → w.drew.cell? (ad.add j) = some u := by
  by_cases h : c = i + 1
  ·refine ⟨_, _, .inl ⟨h, rfl, rfl⟩, fun j u hj => ?_⟩
   have h0 : flatT (ps.drop (i + 1)) = [] := List.eq_nil_of_length_eq_zero (by rw [hd]; omega)
   rw [h0] at hj
   cases hj
  ·exact ⟨_, _, .inr ⟨h, rfl, rfl⟩, OwnT.from hown0.drew (i + 1)⟩
 obtain ⟨w1, hr1, ho1, hg1⟩ := run_append_fits (P := Tryz.prog) w.drew base 170 170 230 i0 3 Tryz.underlyingTups hi0 hsz g i c _ hpre.drew ad D cp (flatT (ps.drop (i + 1))) hd hsrc flatT_one (by omega)
 rw [← flatT_append] at ho1
 have hzv : ∀ w, (zeroValue 230).run Tryz.prog w = .ok (.agg #[.int .i64 0, .int .u64 0, .int .u64 0]) w := fun w => by simp [zeroValue, typeInfo, hi0, hz]
 obtain ⟨w2, hr2, ho2, hg2⟩ := run_clear_spare (P := Tryz.prog) w1 base 170 0 230 3 _ Tryz.underlyingTups hzv rfl (by intro u hu; simp [Value.cells] at hu; rcases hu with rfl | rfl | rfl <;> rfl) g (i + D) c _ ho1 ((i + D) * 3) 1 (c - (i + D)) rfl (by omega) (by decide)
 have hlr : (ps.take i ++ ps.drop (i + 1)).length = i + D := by rw [List.length_append, List.length_take, List.length_drop, hn]; omega
 have HR : Hid (DelR base g c ps i w (.returned (.slice (some ⟨g, 0, none⟩) (i + D) c)) w2) := by
  refine ⟨by rw [hn, ← hiK, Nat.add_sub_cancel], ?_, (frame_some hg1).of_drew.trans (frame_some hg2)⟩
  unfold OwnT
  rw [hlr]
  exact ho2
 have b1 : (i : Int) ≤ ((i + 1 : Nat) : Int) := by omega
 have b2 : ((i + 1 : Nat) : Int) ≤ n := by omega
 have b3 : i + 1 ≤ n := by omega
 have b4 : i ≤ n := by omega
 have b5 : i ≤ c := by omega
 have b6 : ¬ ((i : Int) = ((i + 1 : Nat) : Int)) := by omega
 have b7 : ((i : Int) == ((i + 1 : Nat) : Int)) = false := beq_eq_false_iff_ne.2 b6
 have b8 : i + 1 ≤ c := by omega
 replace hr1 := Lib.hid hr1
 replace hr2 := Lib.hid hr2
 have HK := Lib.hid hD
 clear hown hown0 hpre ho1 ho2 hd hsrc hg1 hg2 hlr hi0 hz hsz hby hzv hn
 go_enter Tryz.func283, Tryz.ntmps283
 go_wp2_with fail
 refine wp_region_noPanic ?_
 refine wp_region_until (S := fun _ => True) 8 (by kernel_rfl) ?_
 have hHeld : (fun _ : World => True) w.drew := trivial
 have hneF : Nonempty (Held fun _ => True) := ⟨⟨w, trivial⟩⟩
 have n1 : n - (i + D) = 1 := by omega
 have n2 : i + D ≤ n := by omega
 have n3 : ¬ (c = i + D) := by omega
 have n4 : n ≤ c := hnc
 have hD2 := HK.out
 rcases had with ⟨rfl, rfl, rfl⟩ | ⟨hc, rfl, rfl⟩
 ·skip
  refine wpAnyU_run0F [true, true, true, true, true, true] 2 (by kernel_rfl) (by kernel_rfl) (fun _ _ _ _ h => h) (by kernel_rfl) hHeld ?_
  simp only [runOps_true, runOps_false, runOps_nil]
  repeat (first | go_big_quiet_skip | (go_big_quiet_want; go_big_quiet_op; go_big_quiet_on))
  refine wpQuiet_nil ?_
  refine wpAnyU_ready (rs := [6]) (by kernel_rfl) (by simp) ?_
  refine AllReadyU.cons rfl (fun K hK => ?_) (AllReadyU.nil)
  refine ite_of rfl ?_
  refine Lib.wp_append_run _ _ _ _ _ rfl _ _ rfl rfl _ _ hr1.out ?_
  refine hK.out _ _ (fun _ => trivial) ?_
  clear hK K hD2
  simp only [Act.put, List.setIfInBounds_toArray, List.set_cons_zero, List.set_cons_succ]
  refine wpAnyU_ready (rs := [7]) (by kernel_rfl) (by simp) ?_
  refine AllReadyU.cons rfl (fun K hK => ?_) (AllReadyU.nil)
  go_simp
  go_wp2
  refine hK.out _ _ (fun _ => trivial) ?_
  clear hK K
  refine wpAnyU_done (by kernel_rfl) ?_ _
  refine NoPanic.normal ?_
  clear hneF hHeld
  have hr2' := hr2.out
  go_wp2
  go_ret
  exact HR.out
 ·skip
  refine wpAnyU_run0F [true, true, true, true, true, true] 2 (by kernel_rfl) (by kernel_rfl) (fun _ _ _ _ h => h) (by kernel_rfl) hHeld ?_
  simp only [runOps_true, runOps_false, runOps_nil]
  repeat (first | go_big_quiet_skip | (go_big_quiet_want; go_big_quiet_op; go_big_quiet_on))
  refine wpQuiet_nil ?_
  refine wpAnyU_ready (rs := [6]) (by kernel_rfl) (by simp) ?_
  refine AllReadyU.cons rfl (fun K hK => ?_) (AllReadyU.nil)
  refine ite_of rfl ?_
  refine Lib.wp_append_run _ _ _ _ _ rfl _ _ rfl rfl _ _ hr1.out ?_
  refine hK.out _ _ (fun _ => trivial) ?_
  clear hK K hD2
  simp only [Act.put, List.setIfInBounds_toArray, List.set_cons_zero, List.set_cons_succ]
  refine wpAnyU_ready (rs := [7]) (by kernel_rfl) (by simp) ?_
  refine AllReadyU.cons rfl (fun K hK => ?_) (AllReadyU.nil)
  go_simp
  go_wp2
  refine hK.out _ _ (fun _ => trivial) ?_
  clear hK K
  refine wpAnyU_done (by kernel_rfl) ?_ _
  refine NoPanic.normal ?_
  clear hneF hHeld
  have hr2' := hr2.out
  go_wp2
  go_ret
  exact HR.out
end Go.Proofs.YtlbnlmhcpephbaaGreatDoor.Tt
namespace Go.Proofs.YtlbnlmhcpephbaaGreatDoor.Tt
open Go.RowKit
def CloR (ps : List Tu) (w : World) (e : Ending) (w' : World) : Prop := ∃ A' c', e = .returned (.slice A' ps.length c') ∧ OwnT w.heap.size w' A' c' ps ∧ Below w.heap.size w w'
set_option maxRecDepth 100000 in
set_option maxHeartbeats 2000000 in
theorem clone_any (base : Nat) (A : Option Addr) (c : Nat) (ps : List Tu) (w : World) (hown : OwnT base w A c ps) (hlen : ps.length ≤ 1048576) :
    Calls Tryz.prog 116 #[.slice A ps.length c] w fun e w' => CloR ps w e w' := by
  have q22 : ∀ (w : World) (a : Option Addr) (n c n' c' : Nat), (binOp .eql 170 (.slice a n c) (.slice none n' c')).run Tryz.prog w = .ok (.bool a.isNone) w := fun w a n c n' c' => Lib.run_eql_slice_nil w _ _ a n c n' c' Tryz.underlyingTups
  cases A with
  | none =>
    have h0 : ps = [] ∧ c = 0 := by
      rcases hown.2 with ⟨h, h0⟩ | ⟨g, cp, cur, h, _⟩
      · simp only [Value.slice.injEq] at h; exact ⟨List.eq_nil_of_length_eq_zero h0, h.2.2⟩
      · simp at h
    obtain ⟨rfl, rfl⟩ := h0
    clear hown
    go_enter Tryz.func116, Tryz.ntmps116
    go_wp2
    go_ret
    exact ⟨none, 0, rfl, OwnT.nil _ _, Below.refl _ _⟩
  | some a =>
    obtain ⟨g, rfl⟩ : ∃ g, a = ⟨g, 0, none⟩ := by
      rcases hown.2 with ⟨h, _⟩ | ⟨g, cp, cur, h, _⟩
      · simp at h
      · simp only [Value.slice.injEq, Option.some.injEq] at h; exact ⟨g, h.1⟩
    obtain ⟨n, hn⟩ : ∃ n, ps.length = n := ⟨_, rfl⟩
    have hown1 : OwnT w.heap.size (w.alloc (.cells #[] 230)) (some ⟨w.heap.size, 0, none⟩) 0 [] := World.ownsRow_made w #[] 0 (Nat.le_refl _) (Nat.zero_le _) rfl
    have hsrc : ∀ j u, (flatT ps)[j]? = some u → (w.alloc (.cells #[] 230)).cell? ((⟨g, 0, none⟩ : Addr).add j) = some u := fun j u hj => World.ownsRow.cells (hown.alloc (.cells #[] 230)) (g := g) rfl j u hj
    obtain ⟨A', c', w', hr, ho, hf, hk⟩ := run_app w.heap.size (some ⟨w.heap.size, 0, none⟩) 0 [] ps _ hown1 ⟨g, 0, none⟩ c hsrc (by simp; omega) (by simp)
    simp only [List.length_nil, Nat.zero_add] at hr
    have HR : Hid (CloR ps w (.returned (.slice A' ps.length c')) w') := ⟨A', c', rfl, ho, hf.below ((Below.refl _ w).alloc (Nat.le_refl _) _) (by simp) (fun k hk => by simp [blk] at hk; omega)⟩
    replace hr := Lib.hid hr
    clear ho hf hk hown hown1 hsrc
    rw [hn] at hr HR ⊢
    clear hn
    go_enter Tryz.func116, Tryz.ntmps116
    go_wp2_with (at_builtin; refine Lib.wpList_append_run _ rfl _ _ _ _ rfl _ _ rfl rfl _ _ hr.out ?_)
    go_ret
    exact HR.out
end Go.Proofs.YtlbnlmhcpephbaaGreatDoor.Tt

namespace Go.Proofs.YtlbnlmhcpephbaaGreatDoor
open Go.RowKit Tt
theorem tget_le {ps : List Tu} (hg : ps.Pairwise fun a b => a.1 ≤ b.1) {x y : Nat} (h : x ≤ y) (hy : y < ps.length) : (tget ps x).1 ≤ (tget ps y).1 := by
 unfold tget
 rw [List.getD_eq_getElem?_getD, List.getD_eq_getElem?_getD, List.getElem?_eq_getElem (by omega), List.getElem?_eq_getElem hy]
 by_cases e : x = y
 ·subst e; exact Int.le_refl _
 ·exact List.pairwise_iff_getElem.1 hg x y (by omega) hy (by omega)
theorem bsa_clo (x s l q : Int) (w : World) :
  Calls Tryz.prog 295 #[.agg #[.int .i64 x, .int .u64 s, .int .u64 l], .int .i64 q] w fun e w' => e = .returned (.int .i64 (if q < x then 1 else -1)) ∧ Below w.heap.size w w' := by
 by_cases h1 : q < x
 ·rw [if_pos h1]
  go_enter Tryz.func295, Tryz.ntmps295
  go_wp2
  go_ret
  exact ⟨rfl, (by repeat (first | with_reducible assumption | with_reducible exact Below.refl _ _ | with_reducible refine Below.drew ?_ | with_reducible refine Below.drewN ?_ _ | with_reducible refine Below.setCell ?_ (by first | omega | (simp; done) | (simp; omega)) _ | with_reducible refine Below.alloc ?_ (by first | omega | (simp; done) | (simp; omega) | (simp [World.setCell]; omega)) _))⟩
 ·rw [if_neg h1]
  go_enter Tryz.func295, Tryz.ntmps295
  go_wp2
  go_ret
  exact ⟨rfl, (by repeat (first | with_reducible assumption | with_reducible exact Below.refl _ _ | with_reducible refine Below.drew ?_ | with_reducible refine Below.drewN ?_ _ | with_reducible refine Below.setCell ?_ (by first | omega | (simp; done) | (simp; omega)) _ | with_reducible refine Below.alloc ?_ (by first | omega | (simp; done) | (simp; omega) | (simp [World.setCell]; omega)) _))⟩
structure PosA (ps : List Tu) (q : Int) (k : Nat) : Prop where
 le : k ≤ ps.length
 under : ∀ j, j < k → (tget ps j).1 ≤ q
 over : ∀ j, k ≤ j → j < ps.length → q < (tget ps j).1
set_option maxRecDepth 100000 in
set_option maxHeartbeats 2000000 in
theorem bsa_any (A : Option Addr) (c len : Nat) (ps : List Tu) (q : Int) (w : World) (hlen : ps.length = len) (h : RdT w A ps) (hg : ps.Pairwise fun a b => a.1 ≤ b.1) (hl : len ≤ 1099511627776) :
  Calls Tryz.prog 294 #[.slice A len c, .int .i64 q, .func (.func 295) #[] #[]] w fun e w' => (∃ k : Nat, e = .returned (.tuple #[.int .i64 k, .bool false]) ∧ PosA ps q k) ∧ Below w.heap.size w w' := by
 have HA := Lib.hid (fun j (hj : j < ps.length) => h.at' j hj)
 have HS := Lib.hid (fun (x y : Nat) (h : x ≤ y) (hy : y < ps.length) => tget_le hg h hy)
 rw [hlen] at HA HS
 replace hlen := Lib.hid hlen
 clear h hg
 obtain ⟨n, hn⟩ : ∃ n, len = n := ⟨_, rfl⟩
 subst hn
 go_enter Tryz.func294, Tryz.ntmps294
 go_wp2
 go_loopw [9, 10] (fun I J wr => ∃ i j : Nat, i ≤ j ∧ j ≤ len ∧ I = .int .i64 i ∧ J = .int .i64 j ∧ Hid (∀ x, x < i → (tget ps x).1 ≤ q) ∧ Hid (∀ x, j ≤ x → x < len → q < (tget ps x).1) ∧ Below w.heap.size w wr) (fun I J _ => (intOf J).toNat - (intOf I).toNat)
 case atStart => exact ⟨0, len, by omega, by omega, rfl, rfl, Lib.hid (fun x hx => by omega), Lib.hid (fun x h1 h2 => by omega), Below.refl _ _⟩
 case round =>
  obtain ⟨i, j, hij, hjn, rfl, rfl, Hlo, Hhi, hB⟩ := hrel
  by_cases hlt : i < j
  ·have hlt' : (i : Int) < j := by omega
   obtain ⟨H, hH⟩ : ∃ H, (i + j) / 2 = H := ⟨_, rfl⟩
   obtain ⟨g, o, rfl, hg, hc1, hc2, hc3⟩ := HA.out H (by omega)
   have v1 : ((i : Int) + j) / 2 = (H : Int) := by omega
   have hHj : i ≤ H ∧ H < j := by omega
   obtain ⟨⟨y, z, u⟩, hy⟩ : ∃ y, tget ps H = y := ⟨_, rfl⟩
   rw [hy] at hc1 hc2 hc3
   dsimp only at hc1 hc2 hc3
   replace hc1 := cellB hB hg hc1
   replace hc2 := cellB hB hg hc2
   replace hc3 := cellB hB hg hc3
   replace hy := Lib.hid hy
   have k0 : (0 : Int) ≤ H := by omega
   have k1 : (H : Int) < len := by omega
   have v2 : IntKind.i64.wrap ((H : Int) + 1) = H + 1 := by simp only [IntKind.wrap_i64]; omega
   clear hH
   go_wp2_with fail
   refine (bsa_clo y z u q _).mono ?_
   rintro e w1 ⟨rfl, hb⟩
   replace hB := keep1 hB hb
   by_cases hym : q < y
   ·rw [if_pos hym]
    have Hhi2 : Hid (∀ x, H ≤ x → x < len → q < (tget ps x).1) := fun x h1 h2 => by
     have := HS.out H x h1 h2
     rw [hy.out] at this
     dsimp only at this
     omega
    clear Hhi hb hym
    go_wp2
    go_roundw
    case rel => exact ⟨i, H, by omega, by omega, rfl, rfl, Hlo, Hhi2, hB⟩
    case measure => simp [intOf]; omega
   ·rw [if_neg hym]
    have Hlo2 : Hid (∀ x, x < H + 1 → (tget ps x).1 ≤ q) := fun x hx => by
     have := HS.out x H (by omega) (by omega)
     rw [hy.out] at this
     dsimp only at this
     omega
    clear Hlo hb hym
    go_wp2
    go_roundw
    case rel => exact ⟨H + 1, j, by omega, hjn, by go_num, rfl, Hlo2, Hhi, hB⟩
    case measure => simp [intOf]; omega
  ·obtain rfl : i = j := by omega
   have HAt : Hid (PosA ps q i) := ⟨by rw [hlen.out]; omega, Hlo.out, fun j h1 h2 => Hhi.out j h1 (by rw [← hlen.out]; exact h2)⟩
   clear Hlo Hhi HS
   by_cases hin : i < len
   ·obtain ⟨g, o, rfl, hg, hc1, hc2, hc3⟩ := HA.out i hin
    obtain ⟨⟨y, z, u⟩, hy⟩ : ∃ y, tget ps i = y := ⟨_, rfl⟩
    rw [hy] at hc1 hc2 hc3
    dsimp only at hc1 hc2 hc3
    replace hc1 := cellB hB hg hc1
    replace hc2 := cellB hB hg hc2
    replace hc3 := cellB hB hg hc3
    have k0 : (0 : Int) ≤ i := by omega
    have k1 : (i : Int) < len := by omega
    clear hy
    go_wp2_with fail
    refine (bsa_clo y z u q _).mono ?_
    rintro e w1 ⟨rfl, hb⟩
    replace hB := keep1 hB hb
    by_cases e : q < y
    ·rw [if_pos e]
     clear e hb
     go_wp2
     go_ret2
     exact ⟨⟨i, rfl, HAt.out⟩, hB⟩
    ·rw [if_neg e]
     clear e hb
     go_wp2
     go_ret2
     exact ⟨⟨i, rfl, HAt.out⟩, hB⟩
   ·obtain rfl : i = len := by omega
    clear HA
    go_wp2
    go_ret2
    exact ⟨⟨i, rfl, HAt.out⟩, hB⟩
theorem bsm_clo (x s l q : Int) (w : World) :
  Calls Tryz.prog 316 #[.agg #[.int .i64 x, .int .u64 s, .int .u64 l], .int .i64 q] w fun e w' => e = .returned (.int .i64 (if q ≤ x then 1 else -1)) ∧ Below w.heap.size w w' := by
 by_cases h1 : q ≤ x
 ·rw [if_pos h1]
  go_enter Tryz.func316, Tryz.ntmps316
  go_wp2
  go_ret
  exact ⟨rfl, (by repeat (first | with_reducible assumption | with_reducible exact Below.refl _ _ | with_reducible refine Below.drew ?_ | with_reducible refine Below.drewN ?_ _ | with_reducible refine Below.setCell ?_ (by first | omega | (simp; done) | (simp; omega)) _ | with_reducible refine Below.alloc ?_ (by first | omega | (simp; done) | (simp; omega) | (simp [World.setCell]; omega)) _))⟩
 ·rw [if_neg h1]
  go_enter Tryz.func316, Tryz.ntmps316
  go_wp2
  go_ret
  exact ⟨rfl, (by repeat (first | with_reducible assumption | with_reducible exact Below.refl _ _ | with_reducible refine Below.drew ?_ | with_reducible refine Below.drewN ?_ _ | with_reducible refine Below.setCell ?_ (by first | omega | (simp; done) | (simp; omega)) _ | with_reducible refine Below.alloc ?_ (by first | omega | (simp; done) | (simp; omega) | (simp [World.setCell]; omega)) _))⟩
structure PosM (ps : List Tu) (q : Int) (k : Nat) : Prop where
 le : k ≤ ps.length
 under : ∀ j, j < k → (tget ps j).1 < q
 over : ∀ j, k ≤ j → j < ps.length → q ≤ (tget ps j).1
set_option maxRecDepth 100000 in
set_option maxHeartbeats 2000000 in
theorem bsm_any (A : Option Addr) (c len : Nat) (ps : List Tu) (q : Int) (w : World) (hlen : ps.length = len) (h : RdT w A ps) (hg : ps.Pairwise fun a b => a.1 ≤ b.1) (hl : len ≤ 1099511627776) :
  Calls Tryz.prog 294 #[.slice A len c, .int .i64 q, .func (.func 316) #[] #[]] w fun e w' => (∃ k : Nat, e = .returned (.tuple #[.int .i64 k, .bool false]) ∧ PosM ps q k) ∧ Below w.heap.size w w' := by
 have HA := Lib.hid (fun j (hj : j < ps.length) => h.at' j hj)
 have HS := Lib.hid (fun (x y : Nat) (h : x ≤ y) (hy : y < ps.length) => tget_le hg h hy)
 rw [hlen] at HA HS
 replace hlen := Lib.hid hlen
 clear h hg
 obtain ⟨n, hn⟩ : ∃ n, len = n := ⟨_, rfl⟩
 subst hn
 go_enter Tryz.func294, Tryz.ntmps294
 go_wp2
 go_loopw [9, 10] (fun I J wr => ∃ i j : Nat, i ≤ j ∧ j ≤ len ∧ I = .int .i64 i ∧ J = .int .i64 j ∧ Hid (∀ x, x < i → (tget ps x).1 < q) ∧ Hid (∀ x, j ≤ x → x < len → q ≤ (tget ps x).1) ∧ Below w.heap.size w wr) (fun I J _ => (intOf J).toNat - (intOf I).toNat)
 case atStart => exact ⟨0, len, by omega, by omega, rfl, rfl, Lib.hid (fun x hx => by omega), Lib.hid (fun x h1 h2 => by omega), Below.refl _ _⟩
 case round =>
  obtain ⟨i, j, hij, hjn, rfl, rfl, Hlo, Hhi, hB⟩ := hrel
  by_cases hlt : i < j
  ·have hlt' : (i : Int) < j := by omega
   obtain ⟨H, hH⟩ : ∃ H, (i + j) / 2 = H := ⟨_, rfl⟩
   obtain ⟨g, o, rfl, hg, hc1, hc2, hc3⟩ := HA.out H (by omega)
   have v1 : ((i : Int) + j) / 2 = (H : Int) := by omega
   have hHj : i ≤ H ∧ H < j := by omega
   obtain ⟨⟨y, z, u⟩, hy⟩ : ∃ y, tget ps H = y := ⟨_, rfl⟩
   rw [hy] at hc1 hc2 hc3
   dsimp only at hc1 hc2 hc3
   replace hc1 := cellB hB hg hc1
   replace hc2 := cellB hB hg hc2
   replace hc3 := cellB hB hg hc3
   replace hy := Lib.hid hy
   have k0 : (0 : Int) ≤ H := by omega
   have k1 : (H : Int) < len := by omega
   have v2 : IntKind.i64.wrap ((H : Int) + 1) = H + 1 := by simp only [IntKind.wrap_i64]; omega
   clear hH
   go_wp2_with fail
   refine (bsm_clo y z u q _).mono ?_
   rintro e w1 ⟨rfl, hb⟩
   replace hB := keep1 hB hb
   by_cases hym : q ≤ y
   ·rw [if_pos hym]
    have Hhi2 : Hid (∀ x, H ≤ x → x < len → q ≤ (tget ps x).1) := fun x h1 h2 => by
     have := HS.out H x h1 h2
     rw [hy.out] at this
     dsimp only at this
     omega
    clear Hhi hb hym
    go_wp2
    go_roundw
    case rel => exact ⟨i, H, by omega, by omega, rfl, rfl, Hlo, Hhi2, hB⟩
    case measure => simp [intOf]; omega
   ·rw [if_neg hym]
    have Hlo2 : Hid (∀ x, x < H + 1 → (tget ps x).1 < q) := fun x hx => by
     have := HS.out x H (by omega) (by omega)
     rw [hy.out] at this
     dsimp only at this
     omega
    clear Hlo hb hym
    go_wp2
    go_roundw
    case rel => exact ⟨H + 1, j, by omega, hjn, by go_num, rfl, Hlo2, Hhi, hB⟩
    case measure => simp [intOf]; omega
  ·obtain rfl : i = j := by omega
   have HAt : Hid (PosM ps q i) := ⟨by rw [hlen.out]; omega, Hlo.out, fun j h1 h2 => Hhi.out j h1 (by rw [← hlen.out]; exact h2)⟩
   clear Hlo Hhi HS
   by_cases hin : i < len
   ·obtain ⟨g, o, rfl, hg, hc1, hc2, hc3⟩ := HA.out i hin
    obtain ⟨⟨y, z, u⟩, hy⟩ : ∃ y, tget ps i = y := ⟨_, rfl⟩
    rw [hy] at hc1 hc2 hc3
    dsimp only at hc1 hc2 hc3
    replace hc1 := cellB hB hg hc1
    replace hc2 := cellB hB hg hc2
    replace hc3 := cellB hB hg hc3
    have k0 : (0 : Int) ≤ i := by omega
    have k1 : (i : Int) < len := by omega
    clear hy
    go_wp2_with fail
    refine (bsm_clo y z u q _).mono ?_
    rintro e w1 ⟨rfl, hb⟩
    replace hB := keep1 hB hb
    by_cases e : q ≤ y
    ·rw [if_pos e]
     clear e hb
     go_wp2
     go_ret2
     exact ⟨⟨i, rfl, HAt.out⟩, hB⟩
    ·rw [if_neg e]
     clear e hb
     go_wp2
     go_ret2
     exact ⟨⟨i, rfl, HAt.out⟩, hB⟩
   ·obtain rfl : i = len := by omega
    clear HA
    go_wp2
    go_ret2
    exact ⟨⟨i, rfl, HAt.out⟩, hB⟩
end Go.Proofs.YtlbnlmhcpephbaaGreatDoor

namespace Go.Proofs.YtlbnlmhcpephbaaGreatDoor
open Go.RowKit Tt
theorem after_any (A : Option Addr) (c len : Nat) (ps : List Tu) (q : Int) (w : World) (hlen : ps.length = len) (h : RdT w A ps) (hg : ps.Pairwise fun a b => a.1 ≤ b.1) (hl : len ≤ 1099511627776) :
  Calls Tryz.prog 281 #[.slice A len c, .int .i64 q] w fun e w' => (∃ k : Nat, e = .returned (.int .i64 k) ∧ PosA ps q k) ∧ Below w.heap.size w w' := by
 have HC := Lib.hid (bsa_any A c len ps q w hlen h hg hl)
 clear h hg
 go_enter Tryz.func281, Tryz.ntmps281
 go_wp2_with fail
 refine HC.out.mono ?_
 rintro e w1 ⟨⟨k, rfl, hp⟩, hB⟩
 have HP := Lib.hid hp
 clear HC hp
 go_wp2
 go_ret
 exact ⟨⟨k, rfl, HP.out⟩, hB⟩
theorem off_any (t a b : Int) (w : World) (h1 : 0 ≤ t ∧ t < 18446744073709551616) (h2 : 0 ≤ a ∧ a < 18446744073709551616) (h3 : 0 ≤ b ∧ b < 18446744073709551616) :
  Calls Tryz.prog 284 #[.int .u64 t, .int .u64 a, .int .u64 b] w fun e w' => e = .returned (.int .u64 (offT t a b)) ∧ Below w.heap.size w w' := by
 by_cases c1 : t > a
 ·have v1 : IntKind.u64.wrap (t - a) = t - a := by simp only [IntKind.wrap_u64]; omega
  by_cases c2 : b > t
  ·have v2 : IntKind.u64.wrap (b - t) = b - t := by simp only [IntKind.wrap_u64]; omega
   have HG : Hid (offT t a b = max (t - a) (b - t)) := by show _ = _; unfold offT; omega
   rw [HG.out]
   go_enter Tryz.func284, Tryz.ntmps284
   go_wp2
   go_ret
   exact ⟨rfl, (by repeat (first | with_reducible assumption | with_reducible exact Below.refl _ _ | with_reducible refine Below.drew ?_ | with_reducible refine Below.drewN ?_ _ | with_reducible refine Below.setCell ?_ (by first | omega | (simp; done) | (simp; omega)) _ | with_reducible refine Below.alloc ?_ (by first | omega | (simp; done) | (simp; omega) | (simp [World.setCell]; omega)) _))⟩
  ·skip
   have HG : Hid (offT t a b = max (t - a) 0) := by show _ = _; unfold offT; omega
   rw [HG.out]
   go_enter Tryz.func284, Tryz.ntmps284
   go_wp2
   go_ret
   exact ⟨rfl, (by repeat (first | with_reducible assumption | with_reducible exact Below.refl _ _ | with_reducible refine Below.drew ?_ | with_reducible refine Below.drewN ?_ _ | with_reducible refine Below.setCell ?_ (by first | omega | (simp; done) | (simp; omega)) _ | with_reducible refine Below.alloc ?_ (by first | omega | (simp; done) | (simp; omega) | (simp [World.setCell]; omega)) _))⟩
 ·by_cases c2 : b > t
  ·have v2 : IntKind.u64.wrap (b - t) = b - t := by simp only [IntKind.wrap_u64]; omega
   have HG : Hid (offT t a b = max 0 (b - t)) := by show _ = _; unfold offT; omega
   rw [HG.out]
   go_enter Tryz.func284, Tryz.ntmps284
   go_wp2
   go_ret
   exact ⟨rfl, (by repeat (first | with_reducible assumption | with_reducible exact Below.refl _ _ | with_reducible refine Below.drew ?_ | with_reducible refine Below.drewN ?_ _ | with_reducible refine Below.setCell ?_ (by first | omega | (simp; done) | (simp; omega)) _ | with_reducible refine Below.alloc ?_ (by first | omega | (simp; done) | (simp; omega) | (simp [World.setCell]; omega)) _))⟩
  ·skip
   have HG : Hid (offT t a b = max 0 0) := by show _ = _; unfold offT; omega
   rw [HG.out]
   go_enter Tryz.func284, Tryz.ntmps284
   go_wp2
   go_ret
   exact ⟨rfl, (by repeat (first | with_reducible assumption | with_reducible exact Below.refl _ _ | with_reducible refine Below.drew ?_ | with_reducible refine Below.drewN ?_ _ | with_reducible refine Below.setCell ?_ (by first | omega | (simp; done) | (simp; omega)) _ | with_reducible refine Below.alloc ?_ (by first | omega | (simp; done) | (simp; omega) | (simp [World.setCell]; omega)) _))⟩
def limT (u v n : Int) : Int := if overOk (2 * u * n) v then max (overQ (2 * u * n) v) 1 else n
theorem limit_any (u v n : Int) (w : World) (hu : 0 ≤ u ∧ u < 9223372036854775808) (hv : 0 ≤ v ∧ v < 18446744073709551616) (hn : 0 ≤ n ∧ n < 18446744073709551616) :
    Calls Tryz.prog 115 #[.agg #[.int .u64 u, .int .u64 v], .int .u64 n] w fun e w' => e = .returned (.int .u64 (limT u v n)) ∧ Below w.heap.size w w' := by
  have v1 : IntKind.u64.wrap (2 * u) = 2 * u := by simp only [IntKind.wrap_u64]; omega
  have HC := fun w => Lib.hid (floor_any (2 * u) n v w (by omega) (by omega) hn.1 hn.2 hv.1 hv.2)
  obtain ⟨q, hq⟩ : ∃ q, overQ (2 * u * n) v = q := ⟨_, rfl⟩
  obtain ⟨ok, hok⟩ : ∃ ok, overOk (2 * u * n) v = ok := ⟨_, rfl⟩
  rw [hq, hok] at HC
  have HE : Hid (limT u v n = if ok then max q 1 else n) := by show _ = _; unfold limT; rw [hq, hok]
  rw [HE.out]
  clear hq hok HE
  cases ok with
  | false =>
    rw [if_neg (by simp)]
    go_enter Tryz.func115, Tryz.ntmps115
    go_wp2_with (go_at_call 97; refine (HC _).out.mono ?_)
    rintro e w1 ⟨rfl, hB⟩
    clear HC
    go_wp2
    go_ret
    exact ⟨rfl, ((Below.refl _ _).alloc (Nat.le_refl _) _).trans (hB.mono (by simp))⟩
  | true =>
    rw [if_pos rfl]
    go_enter Tryz.func115, Tryz.ntmps115
    go_wp2_with (go_at_call 97; refine (HC _).out.mono ?_)
    rintro e w1 ⟨rfl, hB⟩
    clear HC
    go_wp2
    go_ret
    exact ⟨rfl, ((Below.refl _ _).alloc (Nat.le_refl _) _).trans (hB.mono (by simp))⟩
end Go.Proofs.YtlbnlmhcpephbaaGreatDoor
