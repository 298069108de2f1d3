/- Texts of this claim, joined, indents halved: AppW, Gr2, Gr3, Gr4, Sort64, CloneW, SortW, Build13, LsSame, Gr5. -/
import Derived.Test.YtlbnlmhcpephbaaGreatDoorProg
import Derived.Maps.AppendAt
import Derived.OwnWalk
import Derived.Below
import Derived.Shelf.SortG.Plain
import Derived.Shelf.SortG.SortNone
import Derived.Ground.SlgnProg
import Derived.Lib.SliceRun
import Derived.Sort.OwnSortedInts
import Derived.Test.YtlbnlmhcpephbaaGreatDoorKc17
namespace Go.Proofs.YtlbnlmhcpephbaaGreatDoor
open Go.RowKit
def OwnW (base : Nat) (w : World) (A : Option Addr) (cap : Nat) (xs : List Int) : Prop := w.ownsRow base 2 1 (.slice A xs.length cap) xs.length (xs.map (Value.int .i64))
def RdW (w : World) (A : Option Addr) (xs : List Int) : Prop := Rd w A (xs.map (Value.int .i64))
theorem RdW.at {w : World} {A : Option Addr} {xs : List Int} (h : RdW w A xs) (j : Nat) (hj : j < xs.length) : ∃ g o, A = some ⟨g, o, none⟩ ∧ g < w.heap.size ∧ w.cell? ⟨g, o + j, none⟩ = some (.int .i64 (xs[j]'hj)) := by
 obtain ⟨g, o, e, hg, hc⟩ := h j (.int .i64 (xs[j]'hj)) (by rw [List.getElem?_map, List.getElem?_eq_getElem hj]; rfl)
 exact ⟨g, o, e, hg, hc⟩
theorem OwnW.nil (base : Nat) (w : World) : OwnW base w none 0 [] := World.ownsRow_nil w base _ 1
theorem OwnW.below {base cap : Nat} {w w' : World} {A : Option Addr} {xs : List Int} (h : OwnW base w A cap xs) (hb : Below w.heap.size w w') : OwnW base w' A cap xs := by
 obtain ⟨h1, h2⟩ := h
 refine ⟨h1, ?_⟩
 rcases h2 with h2 | ⟨g, c, cur, e, hg, hc, r⟩
 ·exact .inl h2
 ·exact .inr ⟨g, c, cur, e, hg, (hb.block g (Array.getElem?_eq_some_iff.1 hc).1).trans hc, r⟩
theorem OwnW.rd {base cap : Nat} {w : World} {A : Option Addr} {xs : List Int} (h : OwnW base w A cap xs) : RdW w A xs := by
 intro j u hj
 rcases h.2 with ⟨e, hn⟩ | ⟨g, c, cur, e, hg, hc, r⟩
 ·have : xs = [] := List.eq_nil_of_length_eq_zero hn
  subst this
  simp at hj
 ·injection e with e1 e2 e3
  subst e1
  have hl := (Array.getElem?_eq_some_iff.1 hc).1
  refine ⟨g, 0, rfl, hl, ?_⟩
  have := World.ownsRow.cells h (g := g) rfl j u hj
  rwa [Addr.add_lit] at this
theorem OwnW.base_le {base cap : Nat} {w : World} {A : Option Addr} {xs : List Int} (h : OwnW base w A cap xs) : ∀ g, A = some g → base ≤ g.block ∧ g.block < w.heap.size := by
 rintro g rfl
 exact World.ownsRow.lt h g.block rfl
theorem Tryz.underlyingW : Tryz.prog.underlying 171 = some (.slice 2) := by kernel_rfl
theorem Tryz.infoW : (Tryz.prog.info? 2).map (fun i => (i.zero, i.size, i.bytes)) = some (some (.int .i64 0), 1, 8) := by kernel_rfl
theorem wpList_append_i64 {ops : Array Oper} {rest : List Oper} {o : Oper} {a : Act} {Q : Exit → Act → World → Prop} {w : World} (hgd : o.guard = none) (s x : Operand)
    (ho : o.op = .call { callee := .builtin .append, args := #[s, x], argTypes := #[171, 171] })
    (base : Nat) (A : Option Addr) (cap n : Nat) (xs : List Int) (hs : a.eval s = .slice A n cap) (hn : xs.length = n) (hown : OwnW base w A cap xs)
    (ad : Addr) (c : Nat) (p : Int) (hx : a.eval x = .slice (some ad) 1 c) (h0 : w.cell? (ad.add 0) = some (.int .i64 p))
    (hlen : n ≤ 1099511627776) (hbase : base ≤ w.heap.size)
    (h : ∀ A' cap' w', Hid (OwnW base w' A' cap' (xs ++ [p])) → Hid (w.grownBy w' (Value.slice A n cap).ownBlock) → Hid (∀ B : Option Addr, SepA A B → (∀ b, B = some b → b.block < w.heap.size) → SepA A' B) → wpList Tryz.prog ops Q rest (a.put o.dst (.slice A' (n + 1) cap')) w') :
    wpList Tryz.prog ops Q (o :: rest) a w := by
  subst hn
  obtain ⟨i, hi, hz, hsz, hby⟩ : ∃ i, Tryz.prog.info? 2 = some i ∧ i.zero = some (.int .i64 0) ∧ i.size = 1 ∧ i.bytes = 8 := by
    have := Tryz.infoW
    cases hh : Tryz.prog.info? 2 with
    | none => rw [hh] at this; cases this
    | some i =>
      rw [hh] at this
      simp only [Option.map_some, Option.some.injEq, Prod.mk.injEq] at this
      exact ⟨i, rfl, this.1, this.2.1, this.2.2⟩
  refine wpList_append_own_at w hgd s x _ ho base _ i _ 1 8 Tryz.underlyingW hi hz hsz hby rfl (by decide) _ xs.length (xs.map (Value.int .i64)) hs hown ad 1 c [.int .i64 p] hx rfl ?_ ?_ (by simp only [maxLen]; omega) (by omega) hbase ?_
  · intro j u hj
    match j, hj with
    | 0, hj => simp only [List.getElem?_cons_zero, Option.some.injEq] at hj; subst hj; exact h0
  · intro u hu
    simp only [List.mem_singleton] at hu
    subst hu; rfl
  · intro v' w' hown' hg _ hblk
    have hl : (xs ++ [p]).length = xs.length + 1 := by simp
    have hm : (xs ++ [p]).map (Value.int .i64) = xs.map (Value.int .i64) ++ [.int .i64 p] := by simp
    rw [← hm] at hown'
    rcases hown'.2 with ⟨e, hn⟩ | ⟨g, cp, cur, rfl, r⟩
    · omega
    · refine h _ _ _ (by show OwnW _ _ _ _ _; unfold OwnW; rw [hl]; exact hown') hg ?_
      intro B hs hB a' b' ha hb e
      cases ha
      simp only [Value.ownBlock] at hblk
      rcases hblk with hblk | hblk
      · cases A with
        | none => simp at hblk
        | some a =>
          simp only [Option.some.injEq] at hblk
          exact hs a b' rfl hb (hblk.symm.trans e)
      · simp only [Option.some.injEq] at hblk
        have := hB b' hb
        have e' : g = b'.block := e
        omega
end Go.Proofs.YtlbnlmhcpephbaaGreatDoor

namespace Go.Proofs.YtlbnlmhcpephbaaGreatDoor
open Go.RowKit Tt
structure GrAt (w : World) (b : Nat) (u v : Int) (row : List Tu) (waits : List Int) (R W : Option Addr) (rc wc : Nat) (T : Int) : Prop where
 box : At w b #[.int .u64 u, .int .u64 v, .slice R row.length rc, .slice W waits.length wc, .int .u64 T] 173
 own : OwnT 0 w R rc row
 wai : OwnW 0 w W wc waits
 sep : SepA R W
 nb : b ∉ blk R ∧ b ∉ blk W
end Go.Proofs.YtlbnlmhcpephbaaGreatDoor

namespace Go.Proofs.YtlbnlmhcpephbaaGreatDoor
open Go.RowKit Tt
theorem posA_take {ps : List Tu} {x : Int} {k : Nat} (h : PosA ps x k) : ∀ t ∈ ps.take k, t.1 ≤ x := by
 intro t ht
 obtain ⟨j, hj, rfl⟩ := List.mem_iff_getElem.1 ht
 have hj' : j < k := by rw [List.length_take] at hj; omega
 have hjl : j < ps.length := by rw [List.length_take] at hj; omega
 have := h.under j hj'
 unfold tget at this
 rw [List.getD_eq_getElem?_getD, List.getElem?_eq_getElem hjl] at this
 rw [List.getElem_take]
 exact this
theorem posA_drop {ps : List Tu} {x : Int} {k : Nat} (h : PosA ps x k) : ∀ t ∈ ps.drop k, x < t.1 := by
 intro t ht
 obtain ⟨j, hj, rfl⟩ := List.mem_iff_getElem.1 ht
 rw [List.length_drop] at hj
 have := h.over (k + j) (by omega) (by omega)
 unfold tget at this
 rw [List.getD_eq_getElem?_getD, List.getElem?_eq_getElem (by omega)] at this
 rw [List.getElem_drop]
 exact this
theorem gk_insert {ps : List Tu} {V : List Int} {x : Int} {k : Nat} (h : Gk ps V) (hp : PosA ps x k) : Gk (ps.take k ++ (x, 1, slkT ps k) :: ps.drop k) (V ++ [x]) := by
 refine Gk.ins (by rw [List.take_append_drop]; exact h) (posA_take hp) (posA_drop hp) _ ?_
 unfold slkT
 have hk := hp.le
 by_cases h1 : 0 < k ∧ k < ps.length
 ·rw [if_pos h1]
  refine .inr ⟨fun e => ?_, tget ps k, ps.drop (k + 1), ?_, rfl⟩
  ·have := congrArg List.length e
   rw [List.length_take, List.length_nil] at this
   omega
  ·unfold tget
   rw [List.getD_eq_getElem?_getD, List.getElem?_eq_getElem h1.2]
   exact List.drop_eq_getElem_cons h1.2
 ·rw [if_neg h1]
  refine .inl ⟨?_, rfl⟩
  by_cases h0 : k = 0
  ·exact .inl (by rw [h0]; rfl)
  ·exact .inr (List.drop_of_length_le (by omega))
theorem lim_insert {ps : List Tu} {L x : Int} {k : Nat} (h : Lim ps L) (hL : 1 ≤ L) : Lim (ps.take k ++ (x, 1, slkT ps k) :: ps.drop k) L := by
 intro t ht
 rcases List.mem_append.1 ht with h1 | h1
 ·exact h t (List.mem_of_mem_take h1)
 ·rcases List.mem_cons.1 h1 with rfl | h1
  ·show 1 + slkT ps k ≤ L
   unfold slkT
   split
   ·next hk => have := h _ (tget_mem hk.2); omega
   ·omega
  ·exact h t (List.mem_of_mem_drop h1)
theorem bdT_of {ps : List Tu} {V : List Int} {L : Int} (h : Gk ps V) (hl : Lim ps L) (hL : L < 18446744073709551616) : BdT ps := fun t ht => ⟨h.pos t ht, by have := hl t ht; omega⟩
theorem bdS_of {ps : List Tu} {V : List Int} {L : Int} (h : Gk ps V) (hl : Lim ps L) (hL : V.length + L < 18446744073709551616) : BdS ps :=
 ⟨h.pos, fun t ht => by have h1 := hl t ht; have h2 := h.pos t ht; rw [h.sum]; omega⟩
theorem bdM_of {ps qs : List Tu} {V U : List Int} {L M : Int} (h : Gk ps V) (hl : Lim ps L) (h' : Gk qs U) (hl' : Lim qs M) (hL : L + M < 18446744073709551616) :
  ∀ p ∈ ps, ∀ q ∈ qs, 0 ≤ p.2.2 ∧ 1 ≤ q.2.1 ∧ 0 ≤ q.2.2 ∧ p.2.2 + q.2.1 + q.2.2 < 18446744073709551616 := fun p hp q hq => by
 have h1 := hl p hp
 have h2 := h.pos p hp
 have h3 := hl' q hq
 have h4 := h'.pos q hq
 omega
end Go.Proofs.YtlbnlmhcpephbaaGreatDoor

namespace Go.Proofs.YtlbnlmhcpephbaaGreatDoor
open Go.RowKit Tt
theorem gwOk_bd {u v : Int} (h : gwOk u v = true) : 0 < u ∧ v ≤ 2147483648 ∧ 2 * u ≤ v := by
 unfold gwOk at h
 have := of_decide_eq_true h
 omega
theorem limT_is {u v n : Int} (h : gwOk u v = true) (h0 : 0 ≤ n) (hn : n ≤ 1000000) : limT u v n = max (2 * u * n / v) 1 := by
 obtain ⟨h1, h2, h3⟩ := gwOk_bd h
 have h4 : 2 * u * n ≤ v * n := Int.mul_le_mul_of_nonneg_right h3 h0
 have h5 : v * n < v * 18446744073709551616 := Int.mul_lt_mul_of_pos_left (by omega) (by omega)
 obtain ⟨a, _, c⟩ := over_yes (2 * u * n) v (by omega)
 unfold limT
 rw [a, c, if_pos rfl]
theorem limT_div {u v n : Int} (h : gwOk u v = true) (h0 : 0 ≤ n) : 0 ≤ 2 * u * n / v ∧ 2 * u * n / v ≤ n := by
 obtain ⟨h1, h2, h3⟩ := gwOk_bd h
 have h4 : 2 * u * n ≤ v * n := Int.mul_le_mul_of_nonneg_right h3 h0
 refine ⟨Int.ediv_nonneg (Int.mul_nonneg (by omega) h0) (by omega), ?_⟩
 have h6 := Int.ediv_le_ediv (c := v) (by omega) h4
 rw [Int.mul_ediv_cancel_left _ (by omega)] at h6
 exact h6
theorem limT_bd {u v n : Int} (h : gwOk u v = true) (h0 : 0 ≤ n) (hn : n ≤ 1000000) : 1 ≤ limT u v n ∧ limT u v n ≤ 1000001 := by
 have := limT_div h h0
 rw [limT_is h h0 hn]
 omega
theorem limT_mono {u v n m : Int} (h : gwOk u v = true) (h0 : 0 ≤ n) (hnm : n ≤ m) (hm : m ≤ 1000000) : limT u v n ≤ limT u v m := by
 obtain ⟨h1, h2, h3⟩ := gwOk_bd h
 rw [limT_is h h0 (by omega), limT_is h (by omega) hm]
 have := Int.ediv_le_ediv (c := v) (by omega) (Int.mul_le_mul_of_nonneg_left hnm (show 0 ≤ 2 * u by omega))
 omega
theorem limT_add {u v n m : Int} (h : gwOk u v = true) (h0 : 0 ≤ n) (h0' : 0 ≤ m) (hm : n + m ≤ 1000000) : limT u v n + limT u v m - 1 ≤ limT u v (n + m) := by
 obtain ⟨h1, h2, h3⟩ := gwOk_bd h
 rw [limT_is h h0 (by omega), limT_is h h0' (by omega), limT_is h (by omega) hm]
 have a := limT_div h h0
 have b := limT_div h h0'
 have c : 2 * u * n / v + 2 * u * m / v ≤ 2 * u * (n + m) / v := by
  rw [Int.le_ediv_iff_mul_le (by omega), Int.add_mul, Int.mul_add (2 * u)]
  have := Int.ediv_mul_le (2 * u * n) (b := v) (by omega)
  have := Int.ediv_mul_le (2 * u * m) (b := v) (by omega)
  omega
 omega
theorem limT_close {u v n : Int} (h : gwOk u v = true) (h0 : 0 ≤ n) (hn : n ≤ 1000000) : 0 ≤ u * n / v ∧ limT u v n ≤ 2 * (u * n / v) + 1 := by
 obtain ⟨h1, h2, h3⟩ := gwOk_bd h
 have h4 : 0 ≤ u * n := Int.mul_nonneg (by omega) h0
 have h5 : 0 ≤ u * n / v := Int.ediv_nonneg h4 (by omega)
 refine ⟨h5, ?_⟩
 rw [limT_is h h0 hn]
 have h6 : 2 * u * n / v < 2 * (u * n / v) + 2 := by
  rw [Int.ediv_lt_iff_lt_mul (by omega)]
  have h7 := Int.lt_ediv_add_one_mul_self (u * n) (b := v) (by omega)
  have e1 : 2 * u * n = 2 * (u * n) := by rw [Int.mul_assoc]
  have e2 : (2 * (u * n / v) + 2) * v = 2 * ((u * n / v + 1) * v) := by rw [show 2 * (u * n / v) + 2 = 2 * (u * n / v + 1) by omega, Int.mul_assoc]
  omega
 omega
theorem lim_mono {row : List Tu} {L M : Int} (h : Lim row L) (hLM : L ≤ M) : Lim row M := fun t ht => Int.le_trans (h t ht) hLM
structure GrP (u v : Int) (row : List Tu) (waits : List Int) (l : List (Int × Int)) : Prop where
 ex : ∃ V : List Int, Gk row V ∧ Lim row (limT u v V.length) ∧ (V.length : Int) + waits.length = sumP l ∧ (∀ x, upC V x + upC waits x = upV l x) ∧ ∀ x ∈ V, -9223372036854775808 ≤ x ∧ x ≤ 9223372036854775807
 wr : ∀ x ∈ waits, -9223372036854775808 ≤ x ∧ x ≤ 9223372036854775807
theorem GrP.nil (u v : Int) : GrP u v [] [] [] := ⟨⟨[], Gk.nil, fun t h => by simp at h, rfl, fun x => rfl, fun x h => by simp at h⟩, fun x h => by simp at h⟩
section
variable {u v : Int} {row row' : List Tu} {waits : List Int} {l : List (Int × Int)}
theorem GrP.len (h : GrP u v row waits l) (hs : sumP l ≤ 1000000) : row.length ≤ 1000000 ∧ (row.length : Int) + waits.length ≤ sumP l ∧ (waits = [] → sg row = sumP l) ∧ 0 ≤ sumP l := by
 obtain ⟨V, hg, hl, hlen, hup, hr⟩ := h.ex
 have := sg_nn hg.pos
 have := hg.sum
 refine ⟨by omega, by omega, fun e => ?_, by omega⟩
 rw [e] at hlen
 simp at hlen
 omega
theorem GrP.rng (h : GrP u v row waits l) : ∀ t ∈ row, -9223372036854775808 ≤ t.1 ∧ t.1 ≤ 9223372036854775807 := by
 obtain ⟨V, hg, hl, hlen, hup, hr⟩ := h.ex
 intro t ht
 obtain ⟨A, B, e⟩ := List.append_of_mem ht
 obtain ⟨r, _, _, h3, h4⟩ := hg.plc A t B e
 exact hr t.1 (upC_mem (by omega))
theorem GrP.bdS (h : GrP u v row waits l) (ho : gwOk u v = true) (hs : sumP l ≤ 1000000) : BdS row := by
 obtain ⟨V, hg, hl, hlen, hup, hr⟩ := h.ex
 have := limT_bd (n := V.length) ho (by omega) (by omega)
 exact bdS_of hg hl (by omega)
theorem GrP.okT (h : GrP u v row waits l) (ho : gwOk u v = true) (hs : sumP l ≤ 1000000) : okT row := by
 have hb := h.bdS ho hs
 have hr := h.rng
 intro t ht
 have h1 := hb.pos t ht
 have h2 := hb.lt t ht
 have h3 := hr t ht
 obtain ⟨A, B, e⟩ := List.append_of_mem ht
 have h4 := sg_nn (row := A) fun z hz => hb.pos z (by rw [e]; simp [hz])
 have h5 := sg_nn (row := B) fun z hz => hb.pos z (by rw [e]; simp [hz])
 rw [e, sg_append, sg_cons] at h2
 exact ⟨h3, by omega, by omega⟩
theorem GrP.wait {x n : Int} (h : GrP u v row waits (l ++ [(x, n)])) (hx : -9223372036854775808 ≤ x ∧ x ≤ 9223372036854775807) : GrP u v row (waits ++ [x]) (l ++ [(x, n + 1)]) := by
 obtain ⟨V, hg, hl, hlen, hup, hr⟩ := h.ex
 refine ⟨⟨V, hg, hl, ?_, fun z => ?_, hr⟩, fun z hz => ?_⟩
 ·rw [sumP_append, sumP_cons, sumP_nil] at hlen ⊢
  rw [List.length_append]
  simp only [List.length_cons, List.length_nil]
  dsimp only at hlen ⊢
  omega
 ·have := hup z
  have e : ∀ n, upV (l ++ [(x, n)]) z = upV l z + if x ≤ z then n else 0 := fun n => by
   unfold upV
   rw [List.filter_append, sumP_append]
   by_cases hh : x ≤ z
   ·simp [hh, sumP]
   ·simp [hh, sumP]
  rw [e] at this ⊢
  rw [upC_append, upC_one]
  split <;> split at this <;> omega
 ·rcases List.mem_append.1 hz with h1 | h1
  ·exact h.wr z h1
  ·rw [List.mem_singleton] at h1; subst h1; exact hx
theorem GrP.zero {x : Int} (h : GrP u v row waits l) : GrP u v row waits (l ++ [(x, 0)]) := by
 obtain ⟨V, hg, hl, hlen, hup, hr⟩ := h.ex
 refine ⟨⟨V, hg, hl, ?_, fun z => ?_, hr⟩, h.wr⟩
 ·rw [sumP_append, sumP_cons, sumP_nil]; dsimp only; omega
 ·rw [hup z]
  unfold upV
  rw [List.filter_append, sumP_append]
  by_cases hh : x ≤ z
  ·simp [hh, sumP]
  ·simp [hh, sumP]
end
structure InsJ (L : Int) (xs : List Int) (V : List Int) (k : Nat) (row : List Tu) : Prop where
 gk : Gk row (V ++ xs.take k)
 lim : Lim row L
theorem InsJ.step {L : Int} {xs V : List Int} {k : Nat} {row : List Tu} {p : Nat} (h : InsJ L xs V k row) (hL : 1 ≤ L) (hk : k < xs.length) (hp : PosA row (xs[k]'hk) p) :
  InsJ L xs V (k + 1) (row.take p ++ ((xs[k]'hk), 1, slkT row p) :: row.drop p) := by
 refine ⟨?_, lim_insert h.lim hL⟩
 have := gk_insert h.gk hp
 rwa [List.append_assoc, ← List.take_succ_eq_append_getElem hk] at this
theorem InsJ.bd {L : Int} {xs V : List Int} {k : Nat} {row : List Tu} (h : InsJ L xs V k row) (hL : L < 18446744073709551616) : BdT row := bdT_of h.gk h.lim hL
theorem InsJ.len {L : Int} {xs V : List Int} {k : Nat} {row : List Tu} (h : InsJ L xs V k row) (hk : k ≤ xs.length) : (row.length : Int) ≤ V.length + k := by
 have h1 := sg_nn h.gk.pos
 have h2 := h.gk.sum
 rw [List.length_append, List.length_take] at h2
 omega
section
variable {u v : Int} {row row' row2 : List Tu} {waits xs : List Int} {l : List (Int × Int)}
theorem GrP.flush (h : GrP u v row waits l) (ho : gwOk u v = true) (hs : sumP l ≤ 1000000) (hx : xs.Perm waits) :
  ∃ V : List Int, InsJ (limT u v V.length) xs V 0 row ∧ 1 ≤ limT u v V.length ∧ limT u v V.length ≤ 1000001 ∧ (V.length : Int) + xs.length ≤ 1000000 ∧
   ∀ row', InsJ (limT u v V.length) xs V xs.length row' → BdS row' ∧ ∀ row2, Sqz (limT u v (sumP l)) row' row2 → GrP u v row2 [] l := by
 obtain ⟨V, hg, hl, hlen, hup, hr⟩ := h.ex
 have hxl : xs.length = waits.length := hx.length_eq
 have hb := limT_bd (n := V.length) ho (by omega) (by omega)
 refine ⟨V, ⟨by simpa using hg, hl⟩, hb.1, hb.2, by omega, fun row' hj => ?_⟩
 have hg' := hj.gk
 rw [List.take_of_length_le (Nat.le_refl _)] at hg'
 have hVl : (((V ++ xs).length : Nat) : Int) = sumP l := by rw [List.length_append]; omega
 refine ⟨bdS_of hg' hj.lim (by rw [hVl]; omega), fun row2 hq => ?_⟩
 refine ⟨⟨V ++ xs, hq.gk _ hg', ?_, ?_, fun x => ?_, fun x hxm => ?_⟩, fun x hxm => by simp at hxm⟩
 ·rw [hVl]
  exact hq.lim _ (Int.le_refl _) (lim_mono hj.lim (limT_mono ho (by omega) (by omega) hs))
 ·simp only [List.length_nil]; omega
 ·rw [upC_append, ← hup x, show upC xs x = upC waits x from by unfold upC; rw [hx.countP_eq], upC_nil]
  omega
 ·rcases List.mem_append.1 hxm with h1 | h1
  ·exact hr x h1
  ·exact h.wr x (hx.mem_iff.1 h1)
theorem GrP.merge {qs : List Tu} {l' : List (Int × Int)} (h : GrP u v row [] l) (h' : GrP u v qs [] l') (ho : gwOk u v = true) (hs : sumP l + sumP l' ≤ 1000000) :
  (∀ p ∈ row, ∀ q ∈ qs, 0 ≤ p.2.2 ∧ 1 ≤ q.2.1 ∧ 0 ≤ q.2.2 ∧ p.2.2 + q.2.1 + q.2.2 < 18446744073709551616) ∧ (∀ p ∈ qs, ∀ q ∈ row, 0 ≤ p.2.2 ∧ 1 ≤ q.2.1 ∧ 0 ≤ q.2.2 ∧ p.2.2 + q.2.1 + q.2.2 < 18446744073709551616) ∧
   (row.Pairwise fun a b => a.1 ≤ b.1) ∧ (qs.Pairwise fun a b => a.1 ≤ b.1) ∧ BdS (mergeR (partA row qs) (partB qs row)) ∧ (mergeR (partA row qs) (partB qs row)).length = row.length + qs.length ∧
   ∀ row2, Sqz (limT u v (sumP l + sumP l')) (mergeR (partA row qs) (partB qs row)) row2 → GrP u v row2 [] (l ++ l') := by
 obtain ⟨V, hg, hl, hlen, hup, hr⟩ := h.ex
 obtain ⟨V', hg', hl', hlen', hup', hr'⟩ := h'.ex
 simp only [List.length_nil] at hlen hlen'
 have hb := limT_bd (n := V.length) ho (by omega) (by omega)
 have hb' := limT_bd (n := V'.length) ho (by omega) (by omega)
 have hL : Lim (mergeR (partA row qs) (partB qs row)) (limT u v (sumP l + sumP l')) := by
  have e : sumP l + sumP l' = (V.length : Int) + V'.length := by omega
  rw [e]
  have := limT_add (u := u) (v := v) (n := V.length) (m := V'.length) ho (by omega) (by omega) (by omega)
  exact Lim.merge hg hg' hl hl' (by omega) (by omega) fun _ _ => this
 have hG := Gk.merge hg hg'
 have hbb := limT_bd (n := sumP l + sumP l') ho (by omega) (by omega)
 have hVl : (((V ++ V').length : Nat) : Int) = sumP l + sumP l' := by rw [List.length_append]; omega
 refine ⟨bdM_of hg hl hg' hl' (by omega), bdM_of hg' hl' hg hl (by omega), hg.srt, hg'.srt, bdS_of hG hL (by rw [hVl]; omega), ?_, fun row2 hq => ?_⟩
 ·rw [mergeR_len _ _ _ (Nat.le_refl _)]
  unfold partA partB
  rw [List.length_map, List.length_map]
 ·refine ⟨⟨V ++ V', hq.gk _ hG, ?_, ?_, fun x => ?_, fun x hxm => ?_⟩, fun x hxm => by simp at hxm⟩
  ·rw [hVl]; exact hq.lim _ (Int.le_refl _) hL
  ·rw [sumP_append]; simp only [List.length_nil]; omega
  ·have h1 := hup x
   have h2 := hup' x
   rw [upC_nil] at h1 h2 ⊢
   rw [upC_append]
   have e : upV (l ++ l') x = upV l x + upV l' x := by unfold upV; rw [List.filter_append, sumP_append]
   omega
  ·rcases List.mem_append.1 hxm with h1 | h1
   ·exact hr x h1
   ·exact hr' x h1
theorem GrP.find {t best x at' : Int} (h : GrP u v row [] l) (ho : gwOk u v = true) (hs : sumP l ≤ 1000000) (ht : 1 ≤ t ∧ t ≤ sumP l) (hf : FindJ row t row.length best x at') :
  (-9223372036854775808 ≤ x ∧ x ≤ 9223372036854775807) ∧ upV l (x - 1) < upV l x ∧ 0 ≤ (if t < upV l (x - 1) + 1 then upV l (x - 1) + 1 - t else if upV l x < t then t - upV l x else 0) ∧
   (if t < upV l (x - 1) + 1 then upV l (x - 1) + 1 - t else if upV l x < t then t - upV l x else 0) * v ≤ u * sumP l := by
 obtain ⟨V, hg, hl, hlen, hup, hr⟩ := h.ex
 simp only [List.length_nil] at hlen
 have hV : (V.length : Int) = sumP l := by omega
 obtain ⟨c1, c2⟩ := limT_close (n := V.length) ho (by omega) (by omega)
 obtain ⟨h1, h2, h3⟩ := hf.done rfl hg hl c1 c2 ht.1 (by omega)
 have hup' : ∀ z, upC V z = upV l z := fun z => by have := hup z; rw [upC_nil] at this; omega
 have hxm := hr x (upC_mem h1)
 unfold gapT at h2 h3
 rw [hup', hup'] at h1 h2 h3
 refine ⟨hxm, h1, h2, ?_⟩
 have hv := gwOk_bd ho
 rw [hV] at h3
 have := Int.mul_le_mul_of_nonneg_right h3 (show 0 ≤ v by omega)
 have h6 := Int.ediv_mul_le (u * sumP l) (b := v) (by omega)
 omega
end
end Go.Proofs.YtlbnlmhcpephbaaGreatDoor

namespace Go.Proofs
open Go.Shelf
def Tryz.sort64_ren : Go.Shelf.Ren := ⟨fun | 53 => 276 | 64 => 246 | 63 => 280 | 78 => 255 | 79 => 146 | 70 => 285 | 71 => 286 | 72 => 287 | 73 => 288 | 74 => 289 | 75 => 290 | 59 => 291 | 76 => 292 | 77 => 293 | 88 => 298 | 89 => 257 | 90 => 258 | 91 => 299 | 92 => 300 | 68 => 301 | 96 => 303 | n => n, fun | 22 => 171 | 23 => 2 | 3 => 3 | 51 => 73 | 0 => 0 | 67 => 185 | 69 => 23 | 4 => 4 | 61 => 343 | 60 => 342 | 44 => 254 | 5 => 5 | 9 => 9 | 75 => 349 | 79 => 352 | 83 => 354 | 84 => 355 | n => n, fun | n => n⟩
theorem Tryz.sort64 : Go.Proofs.SlLaysN.n53 Tryz.prog Tryz.sort64_ren := {
 mixed := by kernel_rfl
 f53 := ⟨Tryz.f276.name, by decide, Tryz.func276.trans (congrArg some (by kernel_rfl))⟩
 f59 := ⟨Tryz.f291.name, by decide, Tryz.func291.trans (congrArg some (by kernel_rfl))⟩
 f63 := ⟨Tryz.f280.name, by decide, Tryz.func280.trans (congrArg some (by kernel_rfl))⟩
 f64 := Tryz.func246.trans (congrArg some (by kernel_rfl))
 f68 := ⟨Tryz.f301.name, by decide, Tryz.func301.trans (congrArg some (by kernel_rfl))⟩
 f70 := ⟨Tryz.f285.name, by decide, Tryz.func285.trans (congrArg some (by kernel_rfl))⟩
 f71 := ⟨Tryz.f286.name, by decide, Tryz.func286.trans (congrArg some (by kernel_rfl))⟩
 f72 := ⟨Tryz.f287.name, by decide, Tryz.func287.trans (congrArg some (by kernel_rfl))⟩
 f73 := ⟨Tryz.f288.name, by decide, Tryz.func288.trans (congrArg some (by kernel_rfl))⟩
 f74 := ⟨Tryz.f289.name, by decide, Tryz.func289.trans (congrArg some (by kernel_rfl))⟩
 f75 := ⟨Tryz.f290.name, by decide, Tryz.func290.trans (congrArg some (by kernel_rfl))⟩
 f76 := ⟨Tryz.f292.name, by decide, Tryz.func292.trans (congrArg some (by kernel_rfl))⟩
 f77 := ⟨Tryz.f293.name, by decide, Tryz.func293.trans (congrArg some (by kernel_rfl))⟩
 f78 := Tryz.func255.trans (congrArg some (by kernel_rfl))
 f79 := Tryz.func146.trans (congrArg some (by kernel_rfl))
 f88 := ⟨Tryz.f298.name, by decide, Tryz.func298.trans (congrArg some (by kernel_rfl))⟩
 f89 := Tryz.func257.trans (congrArg some (by kernel_rfl))
 f90 := Tryz.func258.trans (congrArg some (by kernel_rfl))
 f91 := ⟨Tryz.f299.name, by decide, Tryz.func299.trans (congrArg some (by kernel_rfl))⟩
 f92 := ⟨Tryz.f300.name, by decide, Tryz.func300.trans (congrArg some (by kernel_rfl))⟩
 f96 := ⟨Tryz.f303.name, by decide, Tryz.func303.trans (congrArg some (by kernel_rfl))⟩
 t0 := Tryz.underlying0
 a0 := Tryz.isAgg0
 z0 := Tryz.sizeOf0
 v0 := Tryz.zeroValue0
 t3 := Tryz.underlying3
 a3 := Tryz.isAgg3
 z3 := Tryz.sizeOf3
 v3 := Tryz.zeroValue3
 t4 := Tryz.underlying4
 a4 := Tryz.isAgg4
 z4 := Tryz.sizeOf4
 v4 := Tryz.zeroValue4
 t5 := Tryz.underlying5
 a5 := Tryz.isAgg5
 z5 := Tryz.sizeOf5
 v5 := Tryz.zeroValue5
 t9 := Tryz.underlying9
 a9 := Tryz.isAgg9
 z9 := Tryz.sizeOf9
 v9 := Tryz.zeroValue9
 t22 := Tryz.underlying171
 a22 := Tryz.isAgg171
 z22 := Tryz.sizeOf171
 v22 := Tryz.zeroValue171
 t23 := Tryz.underlying2
 a23 := Tryz.isAgg2
 z23 := Tryz.sizeOf2
 v23 := Tryz.zeroValue2
 t44 := Tryz.underlying254
 a44 := Tryz.isAgg254
 z44 := Tryz.sizeOf254
 v44 := Tryz.zeroValue254
 t51 := Tryz.underlying73
 a51 := Tryz.isAgg73
 z51 := Tryz.sizeOf73
 v51 := Tryz.zeroValue73
 t60 := Tryz.underlying342
 a60 := Tryz.isAgg342
 z60 := Tryz.sizeOf342
 v60 := Tryz.zeroValue342
 t61 := Tryz.underlying343
 a61 := Tryz.isAgg343
 z61 := Tryz.sizeOf343
 v61 := Tryz.zeroValue343
 t67 := Tryz.underlying185
 a67 := Tryz.isAgg185
 z67 := Tryz.sizeOf185
 v67 := Tryz.zeroValue185
 t69 := Tryz.underlying23
 a69 := Tryz.isAgg23
 z69 := Tryz.sizeOf23
 v69 := Tryz.zeroValue23
 t75 := Tryz.underlying349
 a75 := Tryz.isAgg349
 z75 := Tryz.sizeOf349
 v75 := Tryz.zeroValue349
 t79 := Tryz.underlying352
 a79 := Tryz.isAgg352
 z79 := Tryz.sizeOf352
 v79 := Tryz.zeroValue352
 t83 := Tryz.underlying354
 a83 := Tryz.isAgg354
 z83 := Tryz.sizeOf354
 v83 := Tryz.zeroValue354
 t84 := Tryz.underlying355
 a84 := Tryz.isAgg355
 z84 := Tryz.sizeOf355
 v84 := Tryz.zeroValue355 }
end Go.Proofs

namespace Go.Proofs.YtlbnlmhcpephbaaGreatDoor
open Go.RowKit
theorem Tryz.infoWs : ∃ i, Tryz.prog.info? 2 = some i ∧ i.zero = some (.int .i64 0) ∧ i.size = 1 ∧ i.bytes = 8 := by
  have := Tryz.infoW
  cases hh : Tryz.prog.info? 2 with
  | none => rw [hh] at this; cases this
  | some i =>
    rw [hh] at this
    simp only [Option.map_some, Option.some.injEq, Prod.mk.injEq] at this
    exact ⟨i, rfl, this.1, this.2.1, this.2.2⟩
theorem run_appW (base : Nat) (A : Option Addr) (cap : Nat) (ps qs : List Int) (w : World) (hown : OwnW base w A cap ps) (ad : Addr) (c : Nat) (hsrc : ∀ j u, (qs.map (Value.int .i64))[j]? = some u → w.cell? (ad.add j) = some u)
  (hlen : ps.length + qs.length ≤ 1099511627776) (hb : base ≤ w.heap.size) :
  ∃ A' cap' w', (Builtin.append_ #[171, 171] 171 #[.slice A ps.length cap, .slice (some ad) qs.length c]).run Tryz.prog w = .ok (.slice A' (ps.length + qs.length) cap') w' ∧
   OwnW base w' A' cap' (ps ++ qs) ∧ Frame (blk A) w w' ∧ ∀ k ∈ blk A', k ∈ blk A ∨ w.heap.size ≤ k := by
 obtain ⟨i, hi, hz, hsz, hby⟩ := Tryz.infoWs
 obtain ⟨v', w', hr, hown', hg, hnil, hblk⟩ := run_append_own_at (P := Tryz.prog) w base 171 171 _ i _ 1 8 Tryz.underlyingW hi hz hsz hby rfl (by decide) _ ps.length (ps.map (Value.int .i64)) hown ad qs.length c (qs.map (Value.int .i64)) (by simp) hsrc
  (by intro u hu; obtain ⟨x, _, rfl⟩ := List.mem_map.1 hu; rfl) (by simp only [maxLen]; omega) (by omega) hb
 rw [← List.map_append] at hown'
 have hl : (ps ++ qs).length = ps.length + qs.length := List.length_append
 rcases hown'.2 with ⟨rfl, hn⟩ | ⟨g, cp, cur, rfl, r⟩
 ·refine ⟨none, 0, w', ?_, ?_, frame_grown hg, fun k hk => by simp [blk] at hk⟩
  ·rw [hr, hn]
  ·unfold OwnW; rw [hl, hn]; rw [hn] at hown'; exact hown'
 ·refine ⟨some ⟨g, 0, none⟩, cp, w', hr, ?_, frame_grown hg, ?_⟩
  ·unfold OwnW; rw [hl]; exact hown'
  ·intro k hk
   simp only [blk, List.mem_singleton] at hk
   subst hk
   simp only [Value.ownBlock] at hblk
   rcases hblk with hblk | hblk
   ·cases A with
    | none => simp at hblk
    | some a => simp only [Option.some.injEq] at hblk; exact .inl (by simp [blk, hblk])
   ·simp only [Option.some.injEq] at hblk
    exact .inr (by omega)
def CloW (ps : List Int) (w : World) (e : Ending) (w' : World) : Prop := ∃ A' c', e = .returned (.slice A' ps.length c') ∧ OwnW w.heap.size w' A' c' ps ∧ Below w.heap.size w w'
set_option maxRecDepth 100000 in
set_option maxHeartbeats 2000000 in
theorem cloneW_any (base : Nat) (A : Option Addr) (c : Nat) (ps : List Int) (w : World) (hown : OwnW base w A c ps) (hlen : ps.length ≤ 1048576) :
    Calls Tryz.prog 117 #[.slice A ps.length c] w fun e w' => CloW ps w e w' := by
  have q22 : ∀ (w : World) (a : Option Addr) (n c n' c' : Nat), (binOp .eql 171 (.slice a n c) (.slice none n' c')).run Tryz.prog w = .ok (.bool a.isNone) w := fun w a n c n' c' => Lib.run_eql_slice_nil w _ _ a n c n' c' Tryz.underlyingW
  cases A with
  | none =>
    have h0 : ps = [] ∧ c = 0 := by
      rcases hown.2 with ⟨h, h0⟩ | ⟨g, cp, cur, h, _⟩
      · simp only [Value.slice.injEq] at h; exact ⟨List.eq_nil_of_length_eq_zero h0, h.2.2⟩
      · simp at h
    obtain ⟨rfl, rfl⟩ := h0
    clear hown
    go_enter Tryz.func117, Tryz.ntmps117
    go_wp2
    go_ret
    exact ⟨none, 0, rfl, OwnW.nil _ _, Below.refl _ _⟩
  | some a =>
    obtain ⟨g, rfl⟩ : ∃ g, a = ⟨g, 0, none⟩ := by
      rcases hown.2 with ⟨h, _⟩ | ⟨g, cp, cur, h, _⟩
      · simp at h
      · simp only [Value.slice.injEq, Option.some.injEq] at h; exact ⟨g, h.1⟩
    obtain ⟨n, hn⟩ : ∃ n, ps.length = n := ⟨_, rfl⟩
    have hown1 : OwnW w.heap.size (w.alloc (.cells #[] 2)) (some ⟨w.heap.size, 0, none⟩) 0 [] := World.ownsRow_made w #[] 0 (Nat.le_refl _) (Nat.zero_le _) rfl
    have hsrc : ∀ j u, (ps.map (Value.int .i64))[j]? = some u → (w.alloc (.cells #[] 2)).cell? ((⟨g, 0, none⟩ : Addr).add j) = some u := fun j u hj => World.ownsRow.cells (hown.alloc (.cells #[] 2)) (g := g) rfl j u hj
    obtain ⟨A', c', w', hr, ho, hf, hk⟩ := run_appW w.heap.size (some ⟨w.heap.size, 0, none⟩) 0 [] ps _ hown1 ⟨g, 0, none⟩ c hsrc (by simp; omega) (by simp)
    simp only [List.length_nil, Nat.zero_add] at hr
    have HR : Hid (CloW ps w (.returned (.slice A' ps.length c')) w') := ⟨A', c', rfl, ho, hf.below ((Below.refl _ w).alloc (Nat.le_refl _) _) (by simp) (fun k hk => by simp [blk] at hk; omega)⟩
    replace hr := Lib.hid hr
    clear ho hf hk hown hown1 hsrc
    rw [hn] at hr HR ⊢
    clear hn
    go_enter Tryz.func117, Tryz.ntmps117
    go_wp2_with (at_builtin; refine Lib.wpList_append_run _ rfl _ _ _ _ rfl _ _ rfl rfl _ _ hr.out ?_)
    go_ret
    exact HR.out
end Go.Proofs.YtlbnlmhcpephbaaGreatDoor

namespace Go.Proofs.YtlbnlmhcpephbaaGreatDoor
open Go.RowKit
theorem sortW_any (base : Nat) (A : Option Addr) (c : Nat) (xs : List Int) (w : World) (hown : OwnW base w A c xs) (hlen : xs.length ≤ 1048576) :
  Calls Tryz.prog 276 #[.slice A xs.length c] w fun e w' => e = .returned (.tuple #[]) ∧ OwnW base w' A c (xs.mergeSort fun x y => decide (x ≤ y)) ∧ Frame (blk A) w w' := by
 have hl : (xs.mergeSort fun x y => decide (x ≤ y)).length = xs.length := List.length_mergeSort _
 rcases hown.2 with ⟨e, hn⟩ | ⟨g, cp, cur, e, hg, hc, h1, h2, h3, h4⟩
 ·simp only [Value.slice.injEq] at e
  obtain ⟨rfl, _, rfl⟩ := e
  obtain rfl : xs = [] := List.eq_nil_of_length_eq_zero hn
  refine (AnyG.slices_Sort_int_none Tryz.sort64 none 0 w).mono ?_
  rintro e w' ⟨rfl, rfl⟩
  exact ⟨rfl, by rw [List.mergeSort_nil]; exact OwnW.nil _ _, Frame.refl _ _⟩
 ·simp only [Value.slice.injEq] at e
  obtain ⟨rfl, _, rfl⟩ := e
  refine (AnyG.slices_Sort_int Tryz.sort64 g 0 c xs w (holds_of_blockI hc (by simpa using h4)) (Array.getElem?_eq_some_iff.1 hc).1 (by omega)).mono ?_
  rintro e w' ⟨rfl, n, os, rfl⟩
  have ho := ownsRow_sortedI (w := w) (n := n) (os := os) hl hg hc h1 h2 h3
  refine ⟨rfl, ?_, frame_grown (A := some ⟨g, 0, none⟩) (n := xs.length) (c := c) (grownBy_sortedI _)⟩
  unfold OwnW
  rw [hl]
  exact ho
end Go.Proofs.YtlbnlmhcpephbaaGreatDoor

namespace Go.Proofs.YtlbnlmhcpephbaaGreatDoor
open Go.RowKit
structure PlayB (most : Int) (l : List (Int × Int)) : Prop where
 n : l.length ≤ 60
 m : 1 ≤ most ∧ most ≤ 4096
 c : ∀ x ∈ l, 0 < x.2 ∧ x.2 ≤ 1125899906842624
section
variable {most : Int} {l : List (Int × Int)}
end
def BothB (B : Nat) (w wr : World) (b m : Nat) (S TB : List Nat) (k s : Bool) (part : Nat → Int) (rep : Int → Int) (u v d most : Int) (A : Option Addr) (len cap : Nat) (l : List (Int × Int)) : Prop :=
 Two B w wr S TB (BnV wr b S k part rep s most l) (DocAt wr m TB u v d (sideZ s) most A len cap)
section
variable {B : Nat} {w wr w' : World} {b m cb : Nat} {S TB T : List Nat} {k s : Bool} {part : Nat → Int} {rep : Int → Int} {u v d z most : Int} {A A' : Option Addr} {len cap len' cap' : Nat} {l l' : List (Int × Int)} {cv : Array Value} {ct : TypeId}
end
def BuildB (u v d side most : Int) (A : Option Addr) (len cap : Nat) (l : List (Int × Int)) (w : World) (e : Ending) (w' : World) : Prop :=
 (e = .returned (.tuple #[.pointer none, .pointer none, .bool false]) ∧ Below w.heap.size w w') ∨
 (PlayB most l ∧ ∃ k s part rep stand b m S TB, side = sideZ s ∧ Cs u v d k part rep stand ∧ e = .returned (.tuple #[.pointer (some ⟨b, 0, none⟩), .pointer (some ⟨m, 0, none⟩), .bool true]) ∧ BothB w.heap.size w w' b m S TB k s part rep u v d most A len cap l)
end Go.Proofs.YtlbnlmhcpephbaaGreatDoor

namespace Go.Proofs.YtlbnlmhcpephbaaGreatDoor
open Go.RowKit
theorem At.five {w : World} {b : Nat} {T : TypeId} {v0 v1 v2 v3 v4 : Value} (h : At w b #[v0, v1, v2, v3, v4] T) : (w.cell? ⟨b, 0, none⟩ = some v0 ∧ w.cell? ⟨b, 1, none⟩ = some v1 ∧ w.cell? ⟨b, 2, none⟩ = some v2 ∧ w.cell? ⟨b, 3, none⟩ = some v3 ∧ w.cell? ⟨b, 4, none⟩ = some v4) ∧
  w.frozen? ⟨b, 0, none⟩ = false ∧ w.frozen? ⟨b, 1, none⟩ = false ∧ w.frozen? ⟨b, 2, none⟩ = false ∧ w.frozen? ⟨b, 3, none⟩ = false ∧ w.frozen? ⟨b, 4, none⟩ = false :=
 ⟨⟨h.cell rfl, h.cell rfl, h.cell rfl, h.cell rfl, h.cell rfl⟩, h.frozen 0, h.frozen 1, h.frozen 2, h.frozen 3, h.frozen 4⟩
end Go.Proofs.YtlbnlmhcpephbaaGreatDoor

namespace Go.Proofs.YtlbnlmhcpephbaaGreatDoor
open Go.RowKit Tt
theorem ownT_frame {base cap : Nat} {w w' : World} {A : Option Addr} {ls : List Tu} {S : List Nat} (h : OwnT base w A cap ls) (hF : Frame S w w') (hn : ∀ k ∈ blk A, k ∉ S) : OwnT base w' A cap ls := by
 obtain ⟨h1, h2⟩ := h
 refine ⟨h1, ?_⟩
 rcases h2 with h2 | ⟨g, c, cur, e, hg, hc, r⟩
 ·exact .inl h2
 ·have e' := e
  simp only [Value.slice.injEq] at e'
  exact .inr ⟨g, c, cur, e, hg, (hF.block g (Array.getElem?_eq_some_iff.1 hc).1 (hn g (by simp [blk, e'.1]))).trans hc, r⟩
theorem ownW_frame {base cap : Nat} {w w' : World} {A : Option Addr} {xs : List Int} {S : List Nat} (h : OwnW base w A cap xs) (hF : Frame S w w') (hn : ∀ k ∈ blk A, k ∉ S) : OwnW base w' A cap xs := by
 obtain ⟨h1, h2⟩ := h
 refine ⟨h1, ?_⟩
 rcases h2 with h2 | ⟨g, c, cur, e, hg, hc, r⟩
 ·exact .inl h2
 ·have e' := e
  simp only [Value.slice.injEq] at e'
  exact .inr ⟨g, c, cur, e, hg, (hF.block g (Array.getElem?_eq_some_iff.1 hc).1 (hn g (by simp [blk, e'.1]))).trans hc, r⟩
theorem blk_mem {A : Option Addr} {k : Nat} (h : k ∈ blk A) : ∃ a, A = some a ∧ k = a.block := by
 cases A with
 | none => simp [blk] at h
 | some a => exact ⟨a, rfl, by simpa [blk] using h⟩
theorem mem_blk {A : Option Addr} {a : Addr} (h : A = some a) : a.block ∈ blk A := by subst h; simp [blk]
theorem SepA.of {A B : Option Addr} (h : ∀ k ∈ blk A, k ∉ blk B) : SepA A B := fun _ _ ha hb e => h _ (mem_blk ha) (by rw [e]; exact mem_blk hb)
theorem SepA.no {A B : Option Addr} (h : SepA A B) : ∀ k ∈ blk A, k ∉ blk B := fun k ha hb => by
 obtain ⟨a, ha', rfl⟩ := blk_mem ha
 obtain ⟨c, hc, e⟩ := blk_mem hb
 exact h a c ha' hc e
section
variable {w w' : World} {b : Nat} {u v T : Int} {row row' : List Tu} {waits xs : List Int} {R R' W W' : Option Addr} {rc rc' wc wc' : Nat} {S : List Nat}
theorem GrAt.ge (h : GrAt w b u v row waits R W rc wc T) : (∀ k ∈ blk R, k < w.heap.size) ∧ (∀ k ∈ blk W, k < w.heap.size) ∧ b < w.heap.size :=
 ⟨fun k hk => by obtain ⟨a, ha, rfl⟩ := blk_mem hk; exact (h.own.base_le a ha).2, fun k hk => by obtain ⟨a, ha, rfl⟩ := blk_mem hk; exact (h.wai.base_le a ha).2, h.box.lt⟩
theorem GrAt.frame (h : GrAt w b u v row waits R W rc wc T) (hF : Frame S w w') (hn : ∀ k ∈ b :: (blk R ++ blk W), k ∉ S) : GrAt w' b u v row waits R W rc wc T :=
 ⟨hF.at h.box (hn b (by simp)), ownT_frame h.own hF fun k hk => hn k (by simp [hk]), ownW_frame h.wai hF fun k hk => hn k (by simp [hk]), h.sep, h.nb⟩
theorem GrAt.below (h : GrAt w b u v row waits R W rc wc T) (hb : Below w.heap.size w w') : GrAt w' b u v row waits R W rc wc T := h.frame (S := []) (Frame.of_below hb) fun _ _ => by simp
theorem GrAt.setRow {X : Value} (hb : At w b #[.int .u64 u, .int .u64 v, X, .slice W waits.length wc, .int .u64 T] 173) (hw : OwnW 0 w W wc waits) (ho : OwnT 0 w R rc row) (hs : SepA R W) (nb : b ∉ blk R ∧ b ∉ blk W) :
  GrAt (w.setCell ⟨b, 2, none⟩ (.slice R row.length rc)) b u v row waits R W rc wc T := by
 have hF : Frame [b] w (w.setCell ⟨b, 2, none⟩ (.slice R row.length rc)) := Frame.set [b] w b 2 _ (by simp)
 refine ⟨hb.set_any 2 _ rfl, ownT_frame ho hF fun k hk hm => ?_, ownW_frame hw hF fun k hk hm => ?_, hs, nb⟩
 ·rw [List.mem_singleton] at hm; subst hm; exact nb.1 hk
 ·rw [List.mem_singleton] at hm; subst hm; exact nb.2 hk
theorem GrAt.setW {X : Value} (hb : At w b #[.int .u64 u, .int .u64 v, .slice R row.length rc, X, .int .u64 T] 173) (hw : OwnW 0 w W wc waits) (ho : OwnT 0 w R rc row) (hs : SepA R W) (nb : b ∉ blk R ∧ b ∉ blk W) :
  GrAt (w.setCell ⟨b, 3, none⟩ (.slice W waits.length wc)) b u v row waits R W rc wc T := by
 have hF : Frame [b] w (w.setCell ⟨b, 3, none⟩ (.slice W waits.length wc)) := Frame.set [b] w b 3 _ (by simp)
 refine ⟨hb.set_any 3 _ rfl, ownT_frame ho hF fun k hk hm => ?_, ownW_frame hw hF fun k hk hm => ?_, hs, nb⟩
 ·rw [List.mem_singleton] at hm; subst hm; exact nb.1 hk
 ·rw [List.mem_singleton] at hm; subst hm; exact nb.2 hk
theorem GrAt.put (h : GrAt w b u v row waits R W rc wc T) (hF : Frame (blk R) w w') (ho : OwnT 0 w' R' rc' row') (hm : ∀ j ∈ blk R', j ∈ blk R ∨ w.heap.size ≤ j) :
  GrAt (w'.setCell ⟨b, 2, none⟩ (.slice R' row'.length rc')) b u v row' waits R' W rc' wc T ∧ Frame (b :: blk R) w (w'.setCell ⟨b, 2, none⟩ (.slice R' row'.length rc')) := by
 obtain ⟨g1, g2, g3⟩ := h.ge
 have hs := h.sep.no
 refine ⟨GrAt.setRow (hF.at h.box h.nb.1) (ownW_frame h.wai hF fun k hk hk' => hs k hk' hk) ho (SepA.of fun k hk hk' => ?_) ⟨fun hb => ?_, h.nb.2⟩, (hF.mono fun k hk => by simp [hk]).setc (.inl (by simp)) _ _⟩
 ·rcases hm k hk with h1 | h1
  ·exact hs k h1 hk'
  ·have := g2 k hk'; omega
 ·rcases hm b hb with h1 | h1
  ·exact h.nb.1 h1
  ·omega
end
def FluR (b : Nat) (u v T : Int) (R W : Option Addr) (l : List (Int × Int)) (w : World) (e : Ending) (w' : World) : Prop :=
 e = .returned (.tuple #[]) ∧ ∃ row' R' rc' W' wc', GrAt w' b u v row' [] R' W' rc' wc' T ∧ GrP u v row' [] l ∧ Frame (b :: (blk R ++ blk W)) w w' ∧ ∀ j ∈ blk R' ++ blk W', j ∈ blk R ++ blk W ∨ w.heap.size ≤ j
structure FluJ (b : Nat) (u v T : Int) (R0 W : Option Addr) (wc : Nat) (ws V : List Int) (w wr : World) (k : Nat) (row : List Tu) (R : Option Addr) (rc : Nat) : Prop where
 at' : GrAt wr b u v row ws R W rc wc T
 ins : InsJ (limT u v V.length) ws V k row
 fr : Frame (b :: (blk R0 ++ blk W)) w wr
 mem : ∀ j ∈ blk R, j ∈ blk R0 ∨ w.heap.size ≤ j
theorem FluJ.step {b : Nat} {u v T : Int} {R0 W : Option Addr} {wc : Nat} {ws V : List Int} {w wr w' : World} {k p : Nat} {row : List Tu} {R R' : Option Addr} {rc rc' : Nat} (h : FluJ b u v T R0 W wc ws V w wr k row R rc) (hL : 1 ≤ limT u v V.length) (hk : k < ws.length) (hp : PosA row (ws[k]'hk) p)
  (ho : OwnT 0 w' R' rc' (row.take p ++ ((ws[k]'hk), 1, slkT row p) :: row.drop p)) (hF : Frame (blk R) wr w') (hm : ∀ j ∈ blk R', j ∈ blk R ∨ wr.heap.size ≤ j) :
  FluJ b u v T R0 W wc ws V w (w'.setCell ⟨b, 2, none⟩ (.slice R' (row.length + 1) rc')) (k + 1) (row.take p ++ ((ws[k]'hk), 1, slkT row p) :: row.drop p) R' rc' := by
 have hl : (row.take p ++ ((ws[k]'hk), 1, slkT row p) :: row.drop p).length = row.length + 1 := by
  have := hp.le
  rw [List.length_append, List.length_cons, List.length_take, List.length_drop]; omega
 obtain ⟨a, c⟩ := h.at'.put hF ho hm
 rw [hl] at a c
 refine ⟨a, h.ins.step hL hk hp, ?_, fun j hj => ?_⟩
 ·refine ⟨c.os.trans h.fr.os, c.tape.trans h.fr.tape, c.output.trans h.fr.output, Nat.le_trans h.fr.size c.size, fun j hj hn => (c.block j (Nat.lt_of_lt_of_le hj h.fr.size) fun hm' => ?_).trans (h.fr.block j hj hn)⟩
  rcases List.mem_cons.1 hm' with rfl | h1
  ·exact hn (by simp)
  ·rcases h.mem j h1 with h2 | h2
   ·exact hn (by simp [h2])
   ·omega
 ·rcases hm j hj with h1 | h1
  ·exact h.mem j h1
  ·exact .inr (Nat.le_trans h.fr.size h1)
def GrW (b : Nat) (cs : Array Value) (W : World) : Prop := At W b cs 173
theorem GrW.at {b : Nat} {cs : Array Value} {W : World} (h : GrW b cs W) : At W b cs 173 := h
set_option maxRecDepth 100000 in
set_option maxHeartbeats 4000000 in
theorem gflush_any (b : Nat) (u v T : Int) (row : List Tu) (waits : List Int) (R W : Option Addr) (rc wc : Nat) (l : List (Int × Int)) (w : World) (h : GrAt w b u v row waits R W rc wc T) (hp : GrP u v row waits l) (ho : gwOk u v = true) (hT : T = sumP l) (hs : sumP l ≤ 1000000) :
  Calls Tryz.prog 270 #[.pointer (some ⟨b, 0, none⟩)] w fun e w' => FluR b u v T R W l w e w' := by
 by_cases hn : waits = []
 ·subst hn
  have HF : Hid (FluR b u v T R W l w (.returned (.tuple #[])) w) := ⟨rfl, row, R, rc, W, wc, h, hp, Frame.refl _ _, fun j hj => .inl hj⟩
  have f1 := h.box.five
  have l1 := h.box.lt
  rw [List.length_nil] at f1
  clear h hp ho hT hs
  go_enter Tryz.func270, Tryz.ntmps270
  go_wp2
  exact bodyPost_ret (results_none rfl _ _ _) rfl HF.out
 ·obtain ⟨ws, hws⟩ : ∃ ws, (waits.mergeSort fun x y => decide (x ≤ y)) = ws := ⟨_, rfl⟩
  have hper : ws.Perm waits := by rw [← hws]; exact List.mergeSort_perm _ _
  have hwl : ws.length = waits.length := hper.length_eq
  obtain ⟨n, hnl⟩ : ∃ n, waits.length = n := ⟨_, rfl⟩
  have hn0 : 0 < n := by rw [← hnl]; exact List.length_pos_iff.2 hn
  obtain ⟨V, hins, hL1, hL2, hVl, hend⟩ := hp.flush ho hs hper
  have hwm : waits.length ≤ 1000000 := by omega
  have hn9 : n ≤ 1000000 := by omega
  have HSO := Lib.hid (sortW_any 0 W wc waits w h.wai (by omega))
  have HB := Lib.hid (And.intro hL1 (And.intro hL2 hVl))
  have HEND := Lib.hid hend
  have HWL : Hid (ws.length = n) := by show _ = _; omega
  have HGE := Lib.hid h.ge
  have HJ0 : Hid (∀ w1, OwnW 0 w1 W wc ws → Frame (blk W) w w1 → FluJ b u v T R W wc ws V w w1 0 row R rc) := fun w1 ho hF => by
   have hg := h.ge
   have hsn := h.sep.no
   have hb := hF.at h.box h.nb.2
   rw [← hwl] at hb
   exact ⟨⟨hb, ownT_frame h.own hF hsn, ho, h.sep, h.nb⟩, hins, hF.mono fun k hk => by simp [hk], fun j hj => .inl hj⟩
  have HO := Lib.hid ho
  have HUV := Lib.hid (gwOk_bd ho)
  have HTS : Hid (T = sumP l ∧ 0 ≤ sumP l ∧ sumP l ≤ 1000000) := ⟨hT, (hp.len hs).2.2.2, hs⟩
  have f1 := h.box.five
  have l1 := h.box.lt
  have hn1 : ((n : Int) == 0) = false := beq_eq_false_iff_ne.2 (by omega)
  have hn2 : (n == 0) = false := beq_eq_false_iff_ne.2 (by omega)
  rw [hws] at HSO
  rw [hnl] at f1 HSO
  clear h hp ho hT hs hper hwl hins hL1 hL2 hVl hend hwm hn hws hnl
  go_enter Tryz.func270, Tryz.ntmps270
  go_wp2_with (go_at_call 276; refine HSO.out.mono ?_)
  rintro e w1 ⟨rfl, hO, hF⟩
  have H0 := Lib.hid (HJ0.out w1 hO hF)
  have f2 := H0.out.at'.box.five
  have l2 := H0.out.at'.box.lt
  rw [HWL.out] at f2
  clear hO hF f1 l1 HJ0 HSO
  go_wp2
  clear f2 l2
  go_loopw [3, 24] (fun _ i wr => ∃ k : Nat, k ≤ n ∧ i = .int .i64 k ∧ ∃ row R1 rc1, Hid (FluJ b u v T R W wc ws V w wr k row R1 rc1)) (fun _ i _ => n - (intOf i).toNat)
  case atStart => exact ⟨0, by omega, rfl, row, R, rc, H0⟩
  case round =>
   obtain ⟨k, hk, rfl, row1, R1, rc1, H⟩ := hrel
   clear H0
   by_cases hlt : k < n
   ·have HKL : Hid (k < ws.length) := by have := HWL.out; show _ < _; omega
    obtain ⟨g, o, rfl, hg, hc⟩ := H.out.at'.wai.rd.at k HKL.out
    have HST := Lib.hid (fun p w' R' rc' (hp : PosA row1 (ws[k]'HKL.out) p) (ho : OwnT 0 w' R' rc' (row1.take p ++ ((ws[k]'HKL.out), 1, slkT row1 p) :: row1.drop p)) (hF : Frame (blk R1) wr w') (hm : ∀ j ∈ blk R', j ∈ blk R1 ∨ wr.heap.size ≤ j) => H.out.step HB.out.1 HKL.out hp ho hF hm)
    have HLN : Hid (row1.length ≤ 1048576) := by have h1 := H.out.ins.len (by have := HWL.out; omega); have := HB.out; have := HWL.out; show _ ≤ _; omega
    have HTI := Lib.hid (tin_any 0 R1 rc1 row1 (ws[k]'HKL.out) wr H.out.at'.own H.out.ins.gk.srt (H.out.ins.bd (by have := HB.out; omega)) HLN.out (Nat.zero_le _))
    obtain ⟨x, hx⟩ : ∃ x, ws[k]'HKL.out = x := ⟨_, rfl⟩
    rw [hx] at hc HTI
    have f2 := H.out.at'.box.five
    have l2 := H.out.at'.box.lt
    rw [HWL.out] at f2
    obtain ⟨m, hm⟩ : ∃ m, row1.length = m := ⟨_, rfl⟩
    have HM := Lib.hid hm
    have HX : Hid (ws[k]'HKL.out = x) := hx
    rw [hm] at f2 HTI
    clear hm hx
    go_wp2_with (go_at_call 277; refine HTI.out.mono ?_)
    rintro e w3 ⟨p, hpa, A', c', rfl, ho, hF, hm⟩
    rw [HM.out]
    have H3 : Hid (FluJ b u v T R (some ⟨g, o, none⟩) wc ws V w (w3.setCell ⟨b, 2, none⟩ (.slice A' (m + 1) c')) (k + 1) (row1.take p ++ (x, 1, slkT row1 p) :: row1.drop p) A' c') := by
     have := HST.out p w3 A' c' (by rw [HX.out]; exact hpa) (by rw [HX.out]; exact ho) hF hm
     rw [HM.out, HX.out] at this
     exact this
    have f3 := (hF.at H.out.at'.box H.out.at'.nb.1).five
    have l3 := (hF.at H.out.at'.box H.out.at'.nb.1).lt
    clear hpa ho hF hm HST HTI H hc hg f2 l2
    go_wp2
    go_roundw
    case rel => exact ⟨k + 1, by omega, by simp, _, A', c', H3⟩
    case measure => simp [intOf]; omega
   ·obtain rfl : k = n := by omega
    have HIN := H.out.ins
    rw [← HWL.out] at HIN
    obtain ⟨hbs, hq⟩ := HEND.out row1 HIN
    have HQ := Lib.hid hq
    have HLN : Hid (row1.length ≤ 1048576) := by have h1 := H.out.ins.len (by have := HWL.out; omega); have := HB.out; have := HWL.out; show _ ≤ _; omega
    have f2 := H.out.at'.box.five
    have l2 := H.out.at'.box.lt
    have a3 := H.out.at'.box.set_any 3 (.slice none 0 0) rfl
    have h3 : GrAt (wr.setCell ⟨b, 3, none⟩ (.slice none 0 0)) b u v row1 [] R1 none rc1 0 T := GrAt.setW (waits := []) H.out.at'.box (OwnW.nil _ _) H.out.at'.own (fun _ _ _ h => by cases h) ⟨H.out.at'.nb.1, by simp [blk]⟩
    have hF3 : Frame (b :: (blk R ++ blk W)) w (wr.setCell ⟨b, 3, none⟩ (.slice none 0 0)) := H.out.fr.setc (.inl (by simp)) _ _
    have HMEM := Lib.hid H.out.mem
    clear hlt HIN hq H a3
    go_wp2
    obtain ⟨W3, hW3⟩ : ∃ W3, wr.setCell ⟨b, 3, none⟩ (.slice none 0 0) = W3 := ⟨_, rfl⟩
    rw [hW3] at h3 hF3 ⊢
    have H3 := Lib.hid h3
    have HF3 := Lib.hid hF3
    have HBS := Lib.hid hbs
    clear hW3 h3 hF3 f2 l2 hbs
    obtain ⟨m, hm⟩ : ∃ m, row1.length = m := ⟨_, rfl⟩
    have HM := Lib.hid hm
    have hTK : GrW b #[.int .u64 u, .int .u64 v, .slice R1 m rc1, .slice none 0 0, .int .u64 T] W3.drew := by rw [← hm]; exact (H3.out.box).drew
    clear hm
    refine wp_region_noPanic ?_
    refine wp_region_until (S := HeldS (GrW b #[.int .u64 u, .int .u64 v, .slice R1 m rc1, .slice none 0 0, .int .u64 T])) 17 (by kernel_rfl) ?_
    obtain ⟨W4, hW4⟩ : ∃ W4, W3.drew = W4 := ⟨_, rfl⟩
    have hb4 : Below W3.heap.size W3 W4 := by rw [← hW4]; exact (Below.refl _ _).drew
    rw [hW4] at hTK ⊢
    have H4 := Lib.hid (H3.out.below hb4)
    have HF4 := Lib.hid (HF3.out.trans (Frame.of_below hb4))
    have hHeld : HeldS (GrW b #[.int .u64 u, .int .u64 v, .slice R1 m rc1, .slice none 0 0, .int .u64 T]) W4 := HeldS.mk' hTK
    have hne : Nonempty (Held (GrW b #[.int .u64 u, .int .u64 v, .slice R1 m rc1, .slice none 0 0, .int .u64 T])) := ⟨⟨W4, hTK⟩⟩
    have hneF : Nonempty (Held fun _ => True) := ⟨⟨W4, trivial⟩⟩
    have hfar1 := fun z : Held (GrW b #[.int .u64 u, .int .u64 v, .slice R1 m rc1, .slice none 0 0, .int .u64 T]) => z.held.at.five
    clear hW4 hb4 H3 HF3
    refine wpAnyU_run0F [true, true, true, true, false, true, true, true, false, true, true, true] 8 (by kernel_rfl) (by kernel_rfl) (fun _ _ _ _ h => h) (by kernel_rfl) hHeld ?_
    simp only [runOps_true, runOps_false, runOps_nil]
    repeat (first | go_big_quiet_skip | (go_big_quiet_want; go_big_quiet_op; go_big_quiet_on))
    refine wpQuiet_nil ?_
    refine wpAnyU_run0 [false, false, false, false, true, false, false, false, true, false, false, false, true] 5 (by kernel_rfl) (by kernel_rfl) (fun _ _ _ _ h => h) (by kernel_rfl) hHeld ?_
    simp only [runOps_true, runOps_false, runOps_nil]
    repeat (first | go_big_quiet_skip | (go_big_quiet_want; go_big_quiet_op; go_big_quiet_on))
    refine wpQuiet_nil ?_
    clear hfar1
    refine wpAnyU_ready (rs := [13]) (by kernel_rfl) (by simp) ?_
    refine AllReadyU.cons rfl (fun K hK => ?_) (AllReadyU.nil)
    go_simp
    go_wp2_with (go_at_call 115; refine (limit_any u v T W4 (by have := HUV.out; omega) (by have := HUV.out; omega) (by have := HTS.out; omega)).mono ?_)
    rintro e w5 ⟨rfl, hb⟩
    have H5 := Lib.hid (H4.out.below hb)
    have HF5 := Lib.hid (HF4.out.trans (Frame.of_below hb))
    have hTK5 : GrW b #[.int .u64 u, .int .u64 v, .slice R1 m rc1, .slice none 0 0, .int .u64 T] w5 := hTK.at.below hb
    refine hK.out _ _ (fun _ => HeldS.mk' hTK5) ?_
    clear hK K hb hHeld hTK H4 HF4
    have HSQ := Lib.hid (squeeze_any 0 R1 rc1 row1 (limT u v T) w5 H5.out.own HBS.out HLN.out)
    rw [HM.out] at HSQ
    refine wpAnyU_ready (rs := [14]) (by kernel_rfl) (by simp) ?_
    refine AllReadyU.cons rfl (fun K hK => ?_) (AllReadyU.nil)
    go_simp
    go_wp2_with (go_at_call 278; refine HSQ.out.mono ?_)
    rintro e w6 ⟨qs, rfl, hO, hSq, hF⟩
    have HTE : Hid (T = sumP l) := HTS.out.1
    have HGP : Hid (GrP u v qs [] l) := HQ.out qs (by rw [← HTE.out]; exact hSq)
    have hTK6 : GrW b #[.int .u64 u, .int .u64 v, .slice R1 m rc1, .slice none 0 0, .int .u64 T] w6 := hF.at hTK5.at H5.out.nb.1
    have hput := H5.out.put hF hO (fun j hj => .inl hj)
    have HPUT := Lib.hid hput
    refine hK.out _ _ (fun _ => HeldS.mk' hTK6) ?_
    clear hK K hput hSq hO hF HSQ hTK5
    have hHeld : HeldS (GrW b #[.int .u64 u, .int .u64 v, .slice R1 m rc1, .slice none 0 0, .int .u64 T]) w6 := HeldS.mk' hTK6
    refine wpAnyU_run0F [false, false, false, false, false, false, false, false, false, false, false, false, false, false, false, true, true] 1 (by kernel_rfl) (by kernel_rfl) (fun _ _ _ _ h => h) (by kernel_rfl) hHeld ?_
    simp only [runOps_true, runOps_false, runOps_nil]
    repeat (first | go_big_quiet_skip | (go_big_quiet_want; go_big_quiet_op; go_big_quiet_on))
    refine wpQuiet_nil ?_
    have f6 := hTK6.at.five
    have l6 := hTK6.at.lt
    refine wpAnyU_ready (rs := [17]) (by kernel_rfl) (by simp) ?_
    refine AllReadyU.cons rfl (fun K hK => ?_) (AllReadyU.nil)
    go_simp
    go_wp2
    refine hK.out _ _ (fun h => late_no h (by kernel_rfl)) ?_
    clear hK K
    refine wpAnyU_done (by kernel_rfl) ?_ _
    refine NoPanic.normal ?_
    have HR : Hid (FluR b u v T R W l w (.returned (.tuple #[])) (w6.setCell ⟨b, 2, none⟩ (.slice R1 qs.length rc1))) := by
     refine ⟨rfl, qs, R1, rc1, none, 0, HPUT.out.1, HGP.out, ?_, fun j hj => ?_⟩
     ·have c := HPUT.out.2
      have d := HF5.out
      refine ⟨c.os.trans d.os, c.tape.trans d.tape, c.output.trans d.output, Nat.le_trans d.size c.size, fun j hj hn => (c.block j (Nat.lt_of_lt_of_le hj d.size) fun hm' => ?_).trans (d.block j hj hn)⟩
      rcases List.mem_cons.1 hm' with rfl | h1
      ·exact hn (by simp)
      ·rcases HMEM.out j h1 with h2 | h2
       ·exact hn (by simp [h2])
       ·omega
     ·simp only [blk, List.append_nil] at hj
      rcases HMEM.out j hj with h2 | h2
      ·exact .inl (by simp [h2])
      ·exact .inr h2
    clear hne hneF hHeld f6 l6 hTK6
    go_wp2
    exact bodyPost_end (results_none rfl _ _ _) rfl HR.out
end Go.Proofs.YtlbnlmhcpephbaaGreatDoor
