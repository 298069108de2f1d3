/- Texts of this claim, joined, indents halved: CellsAll, Sto, Prt. -/
import Derived.Test.YtlbnlmhcpephbaaGreatDoorProg
import Derived.Maps.AppendAt
import Derived.OwnWalk
import Derived.Below
import Derived.Test.YtlbnlmhcpephbaaGreatDoorKb5
namespace Go.Proofs.YtlbnlmhcpephbaaGreatDoor
def mostN : Nat := 9223372036854775808
def topN : Nat := 9223372036854775807
def repR (u v low : Nat) : Nat := low * (v + u) / v
def repN (u v low : Nat) : Nat := min (repR u v low) topN
def highN (u v low : Nat) : Nat := if mostN < repR u v low then mostN else min (repR u v low * v / (v - u)) mostN
def cellsF (u v : Nat) : Nat → Nat → Option (List Nat)
 | fuel, low => if mostN < low then some [] else match fuel with
  | 0 => none
  | f + 1 => (cellsF u v f (highN u v low + 1)).map (low :: ·)
def Chain (u v : Nat) : Nat → List Nat → Prop
 | low, [] => mostN < low
 | low, x :: L => x = low ∧ low ≤ mostN ∧ Chain u v (highN u v low + 1) L
theorem chain_of : ∀ {fuel low : Nat} {u v : Nat} {L : List Nat}, cellsF u v fuel low = some L → Chain u v low L ∧ L.length ≤ fuel := by
 intro fuel
 induction fuel with
 | zero =>
  intro low u v L h
  unfold cellsF at h
  by_cases hl : mostN < low
  ·rw [if_pos hl] at h; cases h; exact ⟨hl, by simp⟩
  ·rw [if_neg hl] at h; cases h
 | succ f ih =>
  intro low u v L h
  unfold cellsF at h
  by_cases hl : mostN < low
  ·rw [if_pos hl] at h; cases h; exact ⟨hl, by simp⟩
  ·rw [if_neg hl] at h
   dsimp only at h
   cases hc : cellsF u v f (highN u v low + 1) with
   | none => rw [hc] at h; cases h
   | some M =>
    rw [hc] at h
    cases h
    have := ih hc
    exact ⟨⟨rfl, by omega, this.1⟩, by simp; exact this.2⟩
theorem repR_ge {u v low : Nat} (hv : 0 < v) : low ≤ repR u v low := by
 unfold repR
 rw [Nat.le_div_iff_mul_le hv, Nat.mul_add]
 omega
theorem highN_ge {u v low : Nat} (hu : u < v) (hl : low ≤ mostN) : low ≤ highN u v low := by
 unfold highN
 split
 ·exact hl
 ·rw [Nat.le_min]
  refine ⟨?_, hl⟩
  have h1 := repR_ge (u := u) (v := v) (low := low) (by omega)
  rw [Nat.le_div_iff_mul_le (by omega)]
  exact Nat.mul_le_mul h1 (by omega)
theorem highN_le {u v low : Nat} : highN u v low ≤ mostN := by
 unfold highN
 split
 ·exact Nat.le_refl _
 ·exact Nat.min_le_right _ _
theorem chain_at {u v : Nat} (hv : u < v) : ∀ {L : List Nat} {low : Nat}, Chain u v low L → (∀ i (h : i < L.length), low ≤ L[i]'h ∧ L[i]'h ≤ mostN) ∧ (∀ i (h : i + 1 < L.length), L[i + 1]'h = highN u v (L[i]'(by omega)) + 1) ∧ (∀ h : 0 < L.length, L[0]'h = low ∧ highN u v (L[L.length - 1]'(by omega)) = mostN)
 | [], low, hc => ⟨fun i h => by simp at h, fun i h => by simp at h, fun h => by simp at h⟩
 | x :: L, low, ⟨hx, h3, hc⟩ => by
  subst hx
  obtain ⟨a1, a2, a3⟩ := chain_at hv hc
  have hg := highN_ge hv h3
  refine ⟨fun i h => ?_, fun i h => ?_, fun h => ?_⟩
  ·cases i with
   | zero => exact ⟨Nat.le_refl _, h3⟩
   | succ i => have := a1 i (by simpa using h); exact ⟨by simp only [List.getElem_cons_succ]; omega, by simpa using this.2⟩
  ·cases i with
   | zero => simpa using (a3 (by simpa using h)).1
   | succ i => simpa using a2 i (by simpa using h)
  ·refine ⟨rfl, ?_⟩
   cases L with
   | nil =>
    have h4 : mostN < highN u v x + 1 := hc
    have h5 := highN_le (u := u) (v := v) (low := x)
    simp only [List.length_cons, List.length_nil, Nat.zero_add, Nat.sub_self, List.getElem_cons_zero]
    omega
   | cons y L =>
    have := (a3 (by simp)).2
    simpa using this
theorem chain_sorted {u v : Nat} (hv : u < v) {L : List Nat} {low : Nat} (hc : Chain u v low L) : L.Pairwise (· < ·) := by
 induction L generalizing low with
 | nil => exact List.Pairwise.nil
 | cons x L ih =>
  obtain ⟨rfl, h3, hc⟩ := hc
  refine List.pairwise_cons.2 ⟨fun y hy => ?_, ih hc⟩
  obtain ⟨i, hi, rfl⟩ := List.getElem_of_mem hy
  have := ((chain_at hv hc).1 i hi).1
  have := highN_ge hv h3
  omega
structure At' (L : List Nat) (m k : Nat) : Prop where
 le : k ≤ L.length
 under : ∀ j (h : j < L.length), j < k → L[j]'h < m
 over : ∀ h : k < L.length, m ≤ L[k]'h
end Go.Proofs.YtlbnlmhcpephbaaGreatDoor
namespace Go.Proofs.YtlbnlmhcpephbaaGreatDoor
open Go.RowKit
def OwnU (base : Nat) (w : World) (A : Option Addr) (cap : Nat) (xs : List Int) : Prop := w.ownsRow base 23 1 (.slice A xs.length cap) xs.length (xs.map (Value.int .u64))
def RdU (w : World) (A : Option Addr) (xs : List Int) : Prop := Rd w A (xs.map (Value.int .u64))
theorem RdU.below {w w' : World} {A : Option Addr} {xs : List Int} (h : RdU w A xs) (hb : Below w.heap.size w w') : RdU w' A xs := Rd.below h hb
theorem RdU.at {w : World} {A : Option Addr} {xs : List Int} (h : RdU w A xs) (j : Nat) (hj : j < xs.length) : ∃ g o, A = some ⟨g, o, none⟩ ∧ g < w.heap.size ∧ w.cell? ⟨g, o + j, none⟩ = some (.int .u64 (xs[j]'hj)) := by
 obtain ⟨g, o, e, hg, hc⟩ := h j (.int .u64 (xs[j]'hj)) (by rw [List.getElem?_map, List.getElem?_eq_getElem hj]; rfl)
 exact ⟨g, o, e, hg, hc⟩
theorem OwnU.nil (base : Nat) (w : World) : OwnU base w none 0 [] := World.ownsRow_nil w base _ 1
theorem OwnU.below {base cap : Nat} {w w' : World} {A : Option Addr} {xs : List Int} (h : OwnU base w A cap xs) (hb : Below w.heap.size w w') : OwnU base w' A cap xs := by
 obtain ⟨h1, h2⟩ := h
 refine ⟨h1, ?_⟩
 rcases h2 with h2 | ⟨g, c, cur, e, hg, hc, r⟩
 ·exact .inl h2
 ·exact .inr ⟨g, c, cur, e, hg, (hb.block g (Array.getElem?_eq_some_iff.1 hc).1).trans hc, r⟩
theorem OwnU.rd {base cap : Nat} {w : World} {A : Option Addr} {xs : List Int} (h : OwnU base w A cap xs) : RdU w A xs := by
 intro j u hj
 rcases h.2 with ⟨e, hn⟩ | ⟨g, c, cur, e, hg, hc, r⟩
 ·have : xs = [] := List.eq_nil_of_length_eq_zero hn
  subst this
  simp at hj
 ·injection e with e1 e2 e3
  subst e1
  have hl := (Array.getElem?_eq_some_iff.1 hc).1
  refine ⟨g, 0, rfl, hl, ?_⟩
  have := World.ownsRow.cells h (g := g) rfl j u hj
  rwa [Addr.add_lit] at this
theorem OwnU.base_le {base cap : Nat} {w : World} {A : Option Addr} {xs : List Int} (h : OwnU base w A cap xs) : ∀ g, A = some g → base ≤ g.block ∧ g.block < w.heap.size := by
 rintro g rfl
 exact World.ownsRow.lt h g.block rfl
def SepA (A B : Option Addr) : Prop := ∀ a b, A = some a → B = some b → a.block ≠ b.block
theorem OwnU.kept {base cap : Nat} {w w' : World} {A B : Option Addr} {n c : Nat} {xs : List Int} (h : OwnU base w B cap xs) (hg : w.grownBy w' (Value.slice A n c).ownBlock) (hs : SepA A B) : OwnU base w' B cap xs := by
 refine World.ownsRow.kept h hg ?_
 cases B with
 | none => exact .inl rfl
 | some b =>
  refine .inr fun e => ?_
  cases A with
  | none => simp [Value.ownBlock] at e
  | some a => simp only [Value.ownBlock, Option.some.injEq] at e; exact hs a b rfl rfl e.symm
theorem Tryz.underlyingU : Tryz.prog.underlying 81 = some (.slice 23) := by kernel_rfl
theorem Tryz.infoU : (Tryz.prog.info? 23).map (fun i => (i.zero, i.size, i.bytes)) = some (some (.int .u64 0), 1, 8) := by kernel_rfl
theorem wpList_append_u64 {ops : Array Oper} {rest : List Oper} {o : Oper} {a : Act} {Q : Exit → Act → World → Prop} {w : World} (hgd : o.guard = none) (s x : Operand)
  (ho : o.op = .call { callee := .builtin .append, args := #[s, x], argTypes := #[81, 81] })
  (base : Nat) (A : Option Addr) (cap n : Nat) (xs : List Int) (hs : a.eval s = .slice A n cap) (hn : xs.length = n) (hown : OwnU base w A cap xs)
  (ad : Addr) (c : Nat) (p : Int) (hx : a.eval x = .slice (some ad) 1 c) (h0 : w.cell? (ad.add 0) = some (.int .u64 p))
  (hlen : n ≤ 1099511627776) (hbase : base ≤ w.heap.size)
  (h : ∀ A' cap' w', Hid (OwnU base w' A' cap' (xs ++ [p])) → Hid (w.grownBy w' (Value.slice A n cap).ownBlock) → Hid (∀ B : Option Addr, SepA A B → (∀ b, B = some b → b.block < w.heap.size) → SepA A' B) → wpList Tryz.prog ops Q rest (a.put o.dst (.slice A' (n + 1) cap')) w') :
  wpList Tryz.prog ops Q (o :: rest) a w := by
 subst hn
 obtain ⟨i, hi, hz, hsz, hby⟩ : ∃ i, Tryz.prog.info? 23 = some i ∧ i.zero = some (.int .u64 0) ∧ i.size = 1 ∧ i.bytes = 8 := by
  have := Tryz.infoU
  cases hh : Tryz.prog.info? 23 with
  | none => rw [hh] at this; cases this
  | some i =>
   rw [hh] at this
   simp only [Option.map_some, Option.some.injEq, Prod.mk.injEq] at this
   exact ⟨i, rfl, this.1, this.2.1, this.2.2⟩
 refine wpList_append_own_at w hgd s x _ ho base _ i _ 1 8 Tryz.underlyingU hi hz hsz hby rfl (by decide) _ xs.length (xs.map (Value.int .u64)) hs hown ad 1 c [.int .u64 p] hx rfl ?_ ?_ (by simp only [maxLen]; omega) (by omega) hbase ?_
 ·intro j u hj
  match j, hj with
  | 0, hj => simp only [List.getElem?_cons_zero, Option.some.injEq] at hj; subst hj; exact h0
 ·intro u hu
  simp only [List.mem_singleton] at hu
  subst hu; rfl
 ·intro v' w' hown' hg _ hblk
  have hl : (xs ++ [p]).length = xs.length + 1 := by simp
  have hm : (xs ++ [p]).map (Value.int .u64) = xs.map (Value.int .u64) ++ [.int .u64 p] := by simp
  rw [← hm] at hown'
  rcases hown'.2 with ⟨e, hn⟩ | ⟨g, cp, cur, rfl, r⟩
  ·omega
  ·refine h _ _ _ (by show OwnU _ _ _ _ _; unfold OwnU; rw [hl]; exact hown') hg ?_
   intro B hs hB a' b' ha hb e
   cases ha
   simp only [Value.ownBlock] at hblk
   rcases hblk with hblk | hblk
   ·cases A with
    | none => simp at hblk
    | some a =>
     simp only [Option.some.injEq] at hblk
     exact hs a b' rfl hb (hblk.symm.trans e)
   ·simp only [Option.some.injEq] at hblk
    have := hB b' hb
    have e' : g = b'.block := e
    omega
theorem new_one0 {w : World} {b : Nat} {u0 : Value} {T : TypeId} (hb : b = w.heap.size) : (w.alloc (.cells #[u0] T)).cell? ((⟨b, 0, none⟩ : Addr).add 0) = some u0 := by
 rw [Addr.add_lit]; exact (At.new' w #[u0] T hb).cell (i := 0) rfl
end Go.Proofs.YtlbnlmhcpephbaaGreatDoor
namespace Go.Proofs.YtlbnlmhcpephbaaGreatDoor
open Go.RowKit
def goodC (u v : Int) : Bool := decide (0 < u ∧ u < v ∧ v ≤ 2147483648)
theorem goodC_iff {u v : Int} : goodC u v = true ↔ 0 < u ∧ u < v ∧ v ≤ 2147483648 := by unfold goodC; exact decide_eq_true_iff
theorem cgood_any (u v : Int) (w : World) (h1 : 0 ≤ u) (h2 : u < 18446744073709551616) (h3 : 0 ≤ v) (h4 : v < 18446744073709551616) :
  Calls Tryz.prog 75 #[.agg #[.int .u64 u, .int .u64 v]] w fun e w' => e = .returned (.bool (goodC u v)) ∧ Below w.heap.size w w' := by
 have HG : Hid (goodC u v = decide (0 < u ∧ u < v ∧ v ≤ 2147483648)) := rfl
 by_cases a : 0 < u
 ·by_cases b : u < v
  ·have HE : Hid (goodC u v = decide (v ≤ 2147483648)) := by show _ = _; rw [HG.out]; simp [a, b]
   go_enter Tryz.func75, Tryz.ntmps75
   go_wp2
   go_ret
   exact ⟨by rw [HE.out]; rfl, (by repeat (first | with_reducible assumption | with_reducible exact Below.refl _ _ | with_reducible refine Below.drew ?_ | with_reducible refine Below.drewN ?_ _ | with_reducible refine Below.setCell ?_ (by first | omega | (simp; done) | (simp; omega)) _ | with_reducible refine Below.alloc ?_ (by first | omega | (simp; done) | (simp; omega) | (simp [World.setCell]; omega)) _))⟩
  ·have HE : Hid (goodC u v = false) := by show _ = _; rw [HG.out]; simp [b]
   go_enter Tryz.func75, Tryz.ntmps75
   go_wp2
   go_ret
   exact ⟨by rw [HE.out]; rfl, (by repeat (first | with_reducible assumption | with_reducible exact Below.refl _ _ | with_reducible refine Below.drew ?_ | with_reducible refine Below.drewN ?_ _ | with_reducible refine Below.setCell ?_ (by first | omega | (simp; done) | (simp; omega)) _ | with_reducible refine Below.alloc ?_ (by first | omega | (simp; done) | (simp; omega) | (simp [World.setCell]; omega)) _))⟩
 ·have HE : Hid (goodC u v = false) := by show _ = _; rw [HG.out]; simp [a]
  go_enter Tryz.func75, Tryz.ntmps75
  go_wp2
  go_ret
  exact ⟨by rw [HE.out]; rfl, (by repeat (first | with_reducible assumption | with_reducible exact Below.refl _ _ | with_reducible refine Below.drew ?_ | with_reducible refine Below.drewN ?_ _ | with_reducible refine Below.setCell ?_ (by first | omega | (simp; done) | (simp; omega)) _ | with_reducible refine Below.alloc ?_ (by first | omega | (simp; done) | (simp; omega) | (simp [World.setCell]; omega)) _))⟩
theorem rgoodC_any (u v : Int) (w : World) (h1 : 0 ≤ u) (h2 : u < 18446744073709551616) (h3 : 0 ≤ v) (h4 : v < 18446744073709551616) :
  Calls Tryz.prog 31 #[.agg #[.int .u64 u, .int .u64 v]] w fun e w' => e = .returned (.bool (goodC u v)) ∧ Below w.heap.size w w' := by
 have HG : Hid (goodC u v = decide (0 < u ∧ u < v ∧ v ≤ 2147483648)) := rfl
 by_cases a : 1 ≤ u
 ·by_cases b : u < v
  ·have HE : Hid (goodC u v = decide (v ≤ 2147483648)) := by show _ = _; rw [HG.out]; simp [b]; omega
   go_enter Tryz.func31, Tryz.ntmps31
   go_wp2
   go_ret
   exact ⟨by rw [HE.out]; rfl, (by repeat (first | with_reducible assumption | with_reducible exact Below.refl _ _ | with_reducible refine Below.drew ?_ | with_reducible refine Below.drewN ?_ _ | with_reducible refine Below.setCell ?_ (by first | omega | (simp; done) | (simp; omega)) _ | with_reducible refine Below.alloc ?_ (by first | omega | (simp; done) | (simp; omega) | (simp [World.setCell]; omega)) _))⟩
  ·have HE : Hid (goodC u v = false) := by show _ = _; rw [HG.out]; simp [b]
   go_enter Tryz.func31, Tryz.ntmps31
   go_wp2
   go_ret
   exact ⟨by rw [HE.out]; rfl, (by repeat (first | with_reducible assumption | with_reducible exact Below.refl _ _ | with_reducible refine Below.drew ?_ | with_reducible refine Below.drewN ?_ _ | with_reducible refine Below.setCell ?_ (by first | omega | (simp; done) | (simp; omega)) _ | with_reducible refine Below.alloc ?_ (by first | omega | (simp; done) | (simp; omega) | (simp [World.setCell]; omega)) _))⟩
 ·have HE : Hid (goodC u v = false) := by show _ = _; rw [HG.out]; simp; omega
  go_enter Tryz.func31, Tryz.ntmps31
  go_wp2
  go_ret
  exact ⟨by rw [HE.out]; rfl, (by repeat (first | with_reducible assumption | with_reducible exact Below.refl _ _ | with_reducible refine Below.drew ?_ | with_reducible refine Below.drewN ?_ _ | with_reducible refine Below.setCell ?_ (by first | omega | (simp; done) | (simp; omega)) _ | with_reducible refine Below.alloc ?_ (by first | omega | (simp; done) | (simp; omega) | (simp [World.setCell]; omega)) _))⟩
theorem overQ_nat {X y : Nat} (h : X < y * 18446744073709551616) : overQ (X : Int) (y : Int) = ((X / y : Nat) : Int) ∧ overOk (X : Int) (y : Int) = true := by
 have h' : (X : Int) < (y : Int) * 18446744073709551616 := by omega
 have := over_yes X y h'
 exact ⟨by rw [this.1]; rfl, this.2.2⟩
theorem overQ_nat_no {X y : Nat} (h : ¬ X < y * 18446744073709551616) : overQ (X : Int) (y : Int) = 0 ∧ overOk (X : Int) (y : Int) = false := by
 have h' : ¬ (X : Int) < (y : Int) * 18446744073709551616 := fun a => h (by omega)
 have := over_no X y h'
 exact ⟨this.1, this.2.2⟩
theorem next_fit {u v low : Nat} (hu : u < v) (hl : low ≤ mostN) : low * (v + u) < v * 18446744073709551616 := by
 have h1 : low * (v + u) ≤ mostN * (v + u) := Nat.mul_le_mul_right _ hl
 unfold mostN at h1
 omega
theorem next_high_no {u v r : Nat} (hu : u < v) (h : ¬ r * v < (v - u) * 18446744073709551616) : min (r * v / (v - u)) mostN = mostN := by
 have h1 : 18446744073709551616 ≤ r * v / (v - u) := by
  rw [Nat.le_div_iff_mul_le (by omega), Nat.mul_comm]
  omega
 unfold mostN
 omega
set_option maxRecDepth 100000 in
theorem next_any (u v low : Nat) (w : World) (hu0 : 0 < u) (hu : u < v) (hv : v ≤ 2147483648) (hl : low ≤ mostN) :
  Calls Tryz.prog 76 #[.agg #[.int .u64 u, .int .u64 v], .int .u64 low] w fun e w' => e = .returned (.tuple #[.int .u64 (repN u v low : Nat), .int .u64 (highN u v low : Nat)]) ∧ Below w.heap.size w w' := by
 have hl' : low < 18446744073709551616 := by unfold mostN at hl; omega
 have hfit := next_fit hu hl
 have F1 := overQ_nat hfit
 have HR : Hid (repN u v low = min (repR u v low) topN) := rfl
 have HH : Hid (highN u v low = if mostN < repR u v low then mostN else min (repR u v low * v / (v - u)) mostN) := rfl
 have HD : Hid (low * (v + u) / v = repR u v low) := rfl
 have v1 : IntKind.u64.wrap ((v : Int) + u) = ((v + u : Nat) : Int) := by simp only [IntKind.wrap_u64]; omega
 have v2 : IntKind.u64.wrap ((v : Int) - u) = ((v - u : Nat) : Int) := by simp only [IntKind.wrap_u64]; omega
 rw [HD.out] at F1
 have hrb := overQ_bd ((low * (v + u) : Nat) : Int) (v : Int) (by omega) (by omega)
 rw [F1.1] at hrb
 obtain ⟨r, hr⟩ : ∃ r, repR u v low = r := ⟨_, rfl⟩
 obtain ⟨s, hs⟩ : ∃ s, v + u = s := ⟨_, rfl⟩
 obtain ⟨d, hd⟩ : ∃ d, v - u = d := ⟨_, rfl⟩
 rw [hr] at HR HH F1 hrb
 rw [hs] at F1 v1
 rw [hd] at v2 HH
 obtain ⟨NR, hNR⟩ : ∃ NR, repN u v low = NR := ⟨_, rfl⟩
 obtain ⟨NH, hNH⟩ : ∃ NH, highN u v low = NH := ⟨_, rfl⟩
 rw [hNR] at HR ⊢
 rw [hNH] at HH ⊢
 clear hNR hNH
 have hd0 : 0 < d := by omega
 have hd1 : d ≤ 2147483648 := by omega
 have hs1 : s < 4294967296 := by omega
 have hno := Lib.hid (fun h => next_high_no (r := r) hu h)
 rw [hd] at hno
 have e1 : ((low : Int) * (s : Int)) = ((low * s : Nat) : Int) := by rw [Int.natCast_mul]
 replace F1 := Lib.hid F1
 clear HD hfit hr hs hd
 go_enter Tryz.func76, Tryz.ntmps76
 go_wp2_with fail
 refine (floor_any (low : Int) (s : Int) (v : Int) _ (by omega) (by omega) (by omega) (by omega) (by omega) (by omega)).mono ?_
 rintro e w1 ⟨rfl, hb⟩
 rw [e1, F1.out.1, F1.out.2]
 have s1 : At w1 w.heap.size #[.int .u64 u, .int .u64 v] 25 := At.below (At.new' _ _ _ rfl) hb
 have hB : Below w.heap.size w w1 := Below.trans (by repeat (first | with_reducible assumption | with_reducible exact Below.refl _ _ | with_reducible refine Below.drew ?_ | with_reducible refine Below.drewN ?_ _ | with_reducible refine Below.setCell ?_ (by first | omega | (simp; done) | (simp; omega)) _ | with_reducible refine Below.alloc ?_ (by first | omega | (simp; done) | (simp; omega) | (simp [World.setCell]; omega)) _)) (hb.mono (by first | omega | (simp; done) | (simp; omega) | (simp [World.setCell]; omega)))
 have f1 := s1.two
 have l1 := s1.lt
 have zB := hB.size
 clear hb F1 e1
 by_cases hm : mostN < r
 ·have hm' : (9223372036854775808 : Int) < r := by unfold mostN at hm; omega
  have hmin : Hid ((NR : Int) = 9223372036854775807) := by show _ = _; rw [HR.out]; unfold mostN at hm; unfold topN; omega
  have hhi : Hid ((NH : Int) = 9223372036854775808) := by show _ = _; rw [HH.out, if_pos hm]; rfl
  clear hm HR HH
  go_wp2
  go_ret2
  exact ⟨by rw [hmin.out, hhi.out]; rfl, hB⟩
 ·have hm' : ¬ (9223372036854775808 : Int) < r := by unfold mostN at hm; omega
  have e2 : ((r : Int) * (v : Int)) = ((r * v : Nat) : Int) := by rw [Int.natCast_mul]
  have HH2 := HH.out
  rw [if_neg hm] at HH2
  replace HH2 := Lib.hid HH2
  clear hm HH
  go_wp2_with fail
  refine (floor_any (r : Int) (v : Int) (d : Int) _ (by omega) (by omega) (by omega) (by omega) (by omega) (by omega)).mono ?_
  rintro e w2 ⟨rfl, hb⟩
  rw [e2]
  have hB2 := keep1 hB hb
  have hmin : Hid ((NR : Int) = min (r : Int) 9223372036854775807) := by show _ = _; rw [HR.out]; unfold topN; omega
  by_cases hf : r * v < d * 18446744073709551616
  ·have F2 := overQ_nat hf
   have hqb := overQ_bd ((r * v : Nat) : Int) (d : Int) (by omega) (by omega)
   rw [F2.1] at hqb
   rw [F2.1, F2.2]
   obtain ⟨q, hq⟩ : ∃ q, r * v / d = q := ⟨_, rfl⟩
   rw [hq] at hqb HH2 ⊢
   clear hno e2 hb hf F2 hq HR
   by_cases hqm : mostN < q
   ·have hqm' : (9223372036854775808 : Int) < q := by unfold mostN at hqm; omega
    have hE : Hid ((NH : Int) = 9223372036854775808) := by show _ = _; rw [HH2.out]; unfold mostN at hqm ⊢; omega
    clear hqm HH2
    go_wp2
    go_ret2
    exact ⟨by rw [hE.out, hmin.out]; first | rfl | simp, hB2⟩
   ·have hqm' : ¬ (9223372036854775808 : Int) < q := by unfold mostN at hqm; omega
    have hE : Hid ((NH : Int) = q) := by show _ = _; rw [HH2.out]; unfold mostN at hqm ⊢; omega
    clear hqm HH2
    go_wp2
    go_ret2
    exact ⟨by rw [hE.out, hmin.out]; first | rfl | simp, hB2⟩
  ·have F2 := overQ_nat_no hf
   rw [F2.1, F2.2]
   have hE := hno.out hf
   have hE2 : Hid ((NH : Int) = 9223372036854775808) := by show _ = _; rw [HH2.out, hE]; rfl
   clear hno e2 hb hf F2 hE HH2 HR
   go_wp2
   go_ret2
   exact ⟨by rw [hE2.out, hmin.out]; first | rfl | simp, hB2⟩
def castL (L : List Nat) : List Int := L.map fun n : Nat => (n : Int)
theorem castL_length (L : List Nat) : (castL L).length = L.length := by simp [castL]
theorem castL_append (L : List Nat) (x : Nat) : castL (L ++ [x]) = castL L ++ [(x : Int)] := by simp [castL]
theorem castL_getD {L : List Nat} {j : Nat} (hj : j < L.length) : (castL L)[j]'(by rw [castL_length]; exact hj) = ((L.getD j 0 : Nat) : Int) := by
 simp [castL, List.getD_eq_getElem?_getD, hj]
theorem RdU.atN {w : World} {A : Option Addr} {L : List Nat} (h : RdU w A (castL L)) (j : Nat) (hj : j < L.length) : ∃ g o, A = some ⟨g, o, none⟩ ∧ g < w.heap.size ∧ w.cell? ⟨g, o + j, none⟩ = some (.int .u64 (L.getD j 0 : Nat)) := by
 obtain ⟨g, o, e, hg, hc⟩ := h.at j (by rw [castL_length]; exact hj)
 rw [castL_getD hj] at hc
 exact ⟨g, o, e, hg, hc⟩
theorem At.four {w : World} {b : Nat} {T : TypeId} {v0 v1 v2 v3 : Value} (h : At w b #[v0, v1, v2, v3] T) : (w.cell? ⟨b, 0, none⟩ = some v0 ∧ w.cell? ⟨b, 1, none⟩ = some v1 ∧ w.cell? ⟨b, 2, none⟩ = some v2 ∧ w.cell? ⟨b, 3, none⟩ = some v3) ∧
  (w.frozen? ⟨b, 0, none⟩ = false ∧ w.frozen? ⟨b, 1, none⟩ = false ∧ w.frozen? ⟨b, 2, none⟩ = false ∧ w.frozen? ⟨b, 3, none⟩ = false) := ⟨⟨h.cell rfl, h.cell rfl, h.cell rfl, h.cell rfl⟩, h.frozen 0, h.frozen 1, h.frozen 2, h.frozen 3⟩
structure Tab (W : World) (b : Nat) (u v : Int) (L R : List Nat) : Prop where
 tab : ∃ A c A2 c2, At W b #[.int .u64 u, .int .u64 v, .slice A L.length c, .slice A2 R.length c2] 198 ∧ RdU W A (castL L) ∧ RdU W A2 (castL R)
 len : L.length ≤ 4096
 len2 : R.length ≤ 4096
theorem Tab.below {W W' : World} {b : Nat} {u v : Int} {L R : List Nat} (h : Tab W b u v L R) (hb : Below W.heap.size W W') : Tab W' b u v L R := by
 obtain ⟨⟨A, c, A2, c2, h1, h2, h3⟩, h4, h5⟩ := h
 exact ⟨⟨A, c, A2, c2, h1.below hb, h2.below hb, h3.below hb⟩, h4, h5⟩
def atL (L : List Nat) (i : Int) : Nat := if 0 ≤ i ∧ i < L.length then L.getD i.toNat 0 else 0
def highL (L : List Nat) (i : Int) : Nat := if 0 ≤ i ∧ i < L.length then (if i = L.length - 1 then mostN else L.getD (i.toNat + 1) 0 - 1) else 0
set_option maxRecDepth 100000 in
theorem crep_any (b : Nat) (u v : Int) (L R : List Nat) (i : Int) (w : World) (h : Tab w b u v L R) :
  Calls Tryz.prog 382 #[.pointer (some ⟨b, 0, none⟩), .int .i64 i] w fun e w' => e = .returned (.int .u64 (atL R i : Nat)) ∧ w = w' := by
 obtain ⟨⟨A, c, A2, c2, h1, h2, h3⟩, h4, h5⟩ := h
 have f1 := h1.four.1
 by_cases a : 0 ≤ i ∧ i < R.length
 ·obtain ⟨a1, a2⟩ := a
  obtain ⟨k, rfl⟩ := Int.eq_ofNat_of_zero_le a1
  obtain ⟨g, o, rfl, hg, hc⟩ := h3.atN k (by omega)
  have HE : Hid (atL R k = R.getD k 0) := by show _ = _; unfold atL; rw [if_pos ⟨a1, a2⟩]; rfl
  rw [HE.out]
  obtain ⟨x, hx⟩ : ∃ x, R.getD k 0 = x := ⟨_, rfl⟩
  rw [hx] at hc ⊢
  obtain ⟨n, hn⟩ : ∃ n, R.length = n := ⟨_, rfl⟩
  rw [hn] at f1 a2 h5
  have a3 : ¬ (k : Int) < 0 := by omega
  have a4 : ¬ (n : Int) ≤ k := by omega
  clear h1 h2 h3 hx hn HE
  go_enter Tryz.func382, Tryz.ntmps382
  go_wp2
  go_ret
  exact ⟨rfl, rfl⟩
 ·have HE : Hid (atL R i = 0) := by show _ = _; unfold atL; rw [if_neg a]
  rw [HE.out]
  obtain ⟨n, hn⟩ : ∃ n, R.length = n := ⟨_, rfl⟩
  rw [hn] at f1 a h5
  clear h1 h2 h3 hn HE
  by_cases a1 : i < 0
  ·clear a
   go_enter Tryz.func382, Tryz.ntmps382
   go_wp2
   go_ret
   exact ⟨rfl, rfl⟩
  ·have a2 : (n : Int) ≤ i := by omega
   clear a
   go_enter Tryz.func382, Tryz.ntmps382
   go_wp2
   go_ret
   exact ⟨rfl, rfl⟩
end Go.Proofs.YtlbnlmhcpephbaaGreatDoor
namespace Go.Proofs.YtlbnlmhcpephbaaGreatDoor
open Go.RowKit
theorem nan1_any (x : Int) (w : World) : Calls Tryz.prog 386 #[.int .u64 x] w fun e w' => e = .returned (.bool false) ∧ w = w' := by
 go_enter Tryz.func386, Tryz.ntmps386
 go_wp2
 go_ret
 exact ⟨by first | rfl | simp, rfl⟩
theorem nan2_any (x : Int) (w : World) : Calls Tryz.prog 385 #[.int .u64 x] w fun e w' => e = .returned (.bool false) ∧ w = w' := by
 go_enter Tryz.func385, Tryz.ntmps385
 go_wp2
 go_ret
 exact ⟨by first | rfl | simp, rfl⟩
theorem cmpless_any (x y : Int) (w : World) : Calls Tryz.prog 384 #[.int .u64 x, .int .u64 y] w fun e w' => e = .returned (.bool (decide (x < y))) ∧ w = w' := by
 go_enter Tryz.func384, Tryz.ntmps384
 go_wp2_with fail
 refine (nan1_any x w).mono ?_
 rintro e w1 ⟨rfl, rfl⟩
 go_wp2
 go_ret
 exact ⟨by first | rfl | simp, rfl⟩
theorem sorted_getD {L : List Nat} (hs : L.Pairwise (· < ·)) {x y : Nat} (h : x ≤ y) (hy : y < L.length) : L.getD x 0 ≤ L.getD y 0 := by
 rw [List.getD_eq_getElem?_getD, List.getD_eq_getElem?_getD, List.getElem?_eq_getElem hy, List.getElem?_eq_getElem (by omega)]
 rcases Nat.lt_or_eq_of_le h with h | rfl
 ·exact Nat.le_of_lt (List.pairwise_iff_getElem.1 hs x y (by omega) hy h)
 ·exact Nat.le_refl _
theorem getD_at {L : List Nat} {j : Nat} (h : j < L.length) : L[j]'h = L.getD j 0 := by
 rw [List.getD_eq_getElem?_getD, List.getElem?_eq_getElem h]; rfl
def BsR (L : List Nat) (m : Nat) (e : Ending) : Prop := ∃ k : Nat, ∃ f : Bool, e = .returned (.tuple #[.int .i64 k, .bool f]) ∧ At' L m k ∧ (f = true ↔ k < L.length ∧ L.getD k 0 = m)
set_option maxRecDepth 100000 in
set_option maxHeartbeats 2000000 in
theorem bsearch_any (A : Option Addr) (c : Nat) (L : List Nat) (m : Nat) (w : World) (h : RdU w A (castL L)) (hs : L.Pairwise (· < ·)) (hl : L.length ≤ 4096) :
  Calls Tryz.prog 383 #[.slice A L.length c, .int .u64 m] w fun e w' => BsR L m e ∧ w = w' := by
 have HA := Lib.hid (fun j (hj : j < L.length) => h.atN j hj)
 have HS := Lib.hid (fun (x y : Nat) (h : x ≤ y) (hy : y < L.length) => sorted_getD hs h hy)
 obtain ⟨n, hn⟩ : ∃ n, L.length = n := ⟨_, rfl⟩
 rw [hn] at HA HS hl ⊢
 replace hn := Lib.hid hn
 clear h hs
 go_enter Tryz.func383, Tryz.ntmps383
 go_wp2
 go_loop [7, 8] (fun I J => ∃ i j : Nat, i ≤ j ∧ j ≤ n ∧ I = .int .i64 i ∧ J = .int .i64 j ∧ Hid (∀ x, x < i → L.getD x 0 < m) ∧ Hid (∀ x, j ≤ x → x < n → m ≤ L.getD x 0)) (fun I J => (intOf J).toNat - (intOf I).toNat)
 case atStart => exact ⟨0, n, by omega, by omega, rfl, rfl, Lib.hid (fun x hx => by omega), Lib.hid (fun x h1 h2 => by omega)⟩
 case round =>
  obtain ⟨i, j, hij, hjn, rfl, rfl, Hlo, Hhi⟩ := hrel
  by_cases hlt : i < j
  ·have hlt' : (i : Int) < j := by omega
   obtain ⟨H, hH⟩ : ∃ H, (i + j) / 2 = H := ⟨_, rfl⟩
   obtain ⟨g, o, rfl, hg, hc⟩ := HA.out H (by omega)
   have v1 : ((i : Int) + j) / 2 = (H : Int) := by omega
   have hHj : i ≤ H ∧ H < j := by omega
   obtain ⟨y, hy⟩ : ∃ y, L.getD H 0 = y := ⟨_, rfl⟩
   rw [hy] at hc
   replace hy := Lib.hid hy
   have k0 : (0 : Int) ≤ H := by omega
   have k1 : (H : Int) < n := by omega
   have v2 : IntKind.i64.wrap ((H : Int) + 1) = H + 1 := by simp only [IntKind.wrap_i64]; omega
   clear hH
   go_wp2_with fail
   refine (cmpless_any y m w).mono ?_
   rintro e w1 ⟨rfl, rfl⟩
   by_cases hym : y < m
   ·have hym' : (y : Int) < m := by omega
    have Hlo2 : Hid (∀ x, x < H + 1 → L.getD x 0 < m) := fun x hx => by
     have := HS.out x H (by omega) (by omega)
     rw [hy.out] at this
     omega
    clear Hlo
    go_wp2
    go_round
    case rel => exact ⟨H + 1, j, by omega, hjn, by go_num, rfl, Hlo2, Hhi⟩
    case measure => simp [intOf]; omega
   ·have hym' : ¬ (y : Int) < m := by omega
    have Hhi2 : Hid (∀ x, H ≤ x → x < n → m ≤ L.getD x 0) := fun x h1 h2 => by
     have := HS.out H x h1 (by omega)
     rw [hy.out] at this
     omega
    clear Hhi
    go_wp2
    go_round
    case rel => exact ⟨i, H, by omega, by omega, rfl, rfl, Hlo, Hhi2⟩
    case measure => simp [intOf]; omega
  ·obtain rfl : i = j := by omega
   have HAt : Hid (At' L m i) := ⟨by rw [hn.out]; omega, fun j hj h => by rw [getD_at]; exact Hlo.out j h, fun h => by rw [getD_at]; exact Hhi.out i (Nat.le_refl _) (by rw [← hn.out]; exact h)⟩
   clear Hlo Hhi HS
   by_cases hin : i < n
   ·obtain ⟨g, o, rfl, hg, hc⟩ := HA.out i hin
    obtain ⟨y, hy⟩ : ∃ y, L.getD i 0 = y := ⟨_, rfl⟩
    rw [hy] at hc
    replace hy := Lib.hid hy
    have k0 : (0 : Int) ≤ i := by omega
    have k1 : (i : Int) < n := by omega
    by_cases e : y = m
    ·have HE : Hid (L.getD i 0 = m) := hy.out.trans e
     subst e
     clear hy
     go_wp2
     go_ret2
     exact ⟨⟨i, true, rfl, HAt.out, ⟨fun _ => ⟨by rw [hn.out]; exact hin, HE.out⟩, fun _ => rfl⟩⟩, rfl⟩
    ·have e' : ((y : Int) == (m : Int)) = false := beq_eq_false_iff_ne.2 (by omega)
     have HNe := Lib.hid e
     clear e
     go_wp2_with fail
     refine (nan2_any y w).mono ?_
     rintro e w1 ⟨rfl, rfl⟩
     go_wp2
     go_ret2
     exact ⟨⟨i, false, rfl, HAt.out, ⟨fun h => (by cases h), fun h => absurd (hy.out.symm.trans h.2) HNe.out⟩⟩, rfl⟩
   ·obtain rfl : i = n := by omega
    have hin' : ¬ (i : Int) < i := by omega
    clear HA
    go_wp2
    go_ret2
    exact ⟨⟨i, false, rfl, HAt.out, ⟨fun h => (by cases h), fun h => absurd (h.1) (by rw [hn.out]; exact Nat.lt_irrefl _)⟩⟩, rfl⟩
def cellAt (L : List Nat) (m : Nat) (i : Nat) : Prop := i < L.length ∧ L.getD i 0 ≤ m ∧ (i + 1 < L.length → m < L.getD (i + 1) 0)
def IxR (L : List Nat) (m : Nat) (e : Ending) : Prop := ((m = 0 ∨ mostN < m) ∧ e = .returned (.tuple #[.int .i64 0, .bool false])) ∨ (1 ≤ m ∧ m ≤ mostN ∧ ∃ i : Nat, e = .returned (.tuple #[.int .i64 i, .bool true]) ∧ cellAt L m i)
set_option maxRecDepth 100000 in
theorem cindex_any (b : Nat) (u v : Int) (L R : List Nat) (m : Nat) (w : World) (h : Tab w b u v L R) (hs : L.Pairwise (· < ·)) (h0 : 0 < L.length) (h1 : L.getD 0 0 = 1) (hm : m < 18446744073709551616) :
  Calls Tryz.prog 380 #[.pointer (some ⟨b, 0, none⟩), .int .u64 m] w fun e w' =>
   IxR L m e ∧ w = w' := by
 obtain ⟨⟨A, c, A2, c2, t1, t2, t3⟩, h4, h5⟩ := h
 have f1 := t1.four.1
 by_cases a : m = 0
 ·subst a
  clear t1 t2 t3
  go_enter Tryz.func380, Tryz.ntmps380
  go_wp2
  go_ret2
  exact ⟨.inl ⟨.inl rfl, rfl⟩, rfl⟩
 have a' : ((m : Int) == 0) = false := beq_eq_false_iff_ne.2 (by omega)
 by_cases a2 : mostN < m
 ·have a2' : (9223372036854775808 : Int) < m := by unfold mostN at a2; omega
  have HM := Lib.hid a2
  clear t1 t2 t3 a2
  go_enter Tryz.func380, Tryz.ntmps380
  go_wp2
  go_ret2
  exact ⟨.inl ⟨.inr HM.out, rfl⟩, rfl⟩
 have a2' : ¬ (9223372036854775808 : Int) < m := by unfold mostN at a2; omega
 have HM : Hid (1 ≤ m ∧ m ≤ mostN) := ⟨by omega, by omega⟩
 have H0 := Lib.hid h0
 have H1 := Lib.hid h1
 clear a a2 h0 h1
 go_enter Tryz.func380, Tryz.ntmps380
 go_wp2_with fail
 refine (bsearch_any A c L m w t2 hs h4).mono ?_
 rintro e w1 ⟨⟨k, f, rfl, HAt, Hf⟩, rfl⟩
 have HC : Hid (cellAt L m (if f = true then k else k - 1) ∧ (f = false → 1 ≤ k) ∧ k ≤ 4096) := by
  have z0 := H0.out
  have z1 := H1.out
  have z2 := HM.out
  have zle := HAt.le
  refine ⟨?_, ?_, by omega⟩
  ·cases f with
   | true =>
    obtain ⟨k1, k2⟩ := Hf.1 rfl
    rw [if_pos rfl]
    refine ⟨k1, by omega, fun h => ?_⟩
    have := List.pairwise_iff_getElem.1 hs k (k + 1) k1 h (by omega)
    rw [getD_at, getD_at] at this
    omega
   | false =>
    have hk : 1 ≤ k := by
     rcases Nat.eq_zero_or_pos k with rfl | h
     ·have h1 := HAt.over z0
      rw [getD_at] at h1
      have : ¬ (0 < L.length ∧ L.getD 0 0 = m) := fun h => by have := Hf.2 h; cases this
      exact absurd ⟨z0, by omega⟩ this
     ·exact h
    have h2 := HAt.under (k - 1) (by omega) (by omega)
    rw [getD_at] at h2
    rw [if_neg (by decide)]
    refine ⟨by omega, by omega, fun h => ?_⟩
    rw [Nat.sub_add_cancel hk] at h ⊢
    have h3 := HAt.over h
    rw [getD_at] at h3
    rcases Nat.lt_or_eq_of_le h3 with h4 | h4
    ·exact h4
    ·have := Hf.2 ⟨h, h4.symm⟩; cases this
  ·rintro rfl
   rcases Nat.eq_zero_or_pos k with rfl | h
   ·have h1 := HAt.over z0
    rw [getD_at] at h1
    have : ¬ (0 < L.length ∧ L.getD 0 0 = m) := fun h => by have := Hf.2 h; cases this
    exact absurd ⟨z0, by omega⟩ this
   ·exact h
 clear HAt Hf t1 t2 t3 hs
 cases f with
 | true =>
  go_wp2
  go_ret2
  exact ⟨.inr ⟨HM.out.1, HM.out.2, k, rfl, HC.out.1⟩, rfl⟩
 | false =>
  have hk := HC.out.2.1 rfl
  have hk2 := HC.out.2.2
  have v1 : IntKind.i64.wrap ((k : Int) - 1) = ((k - 1 : Nat) : Int) := by simp only [IntKind.wrap_i64]; omega
  go_wp2
  go_ret2
  exact ⟨.inr ⟨HM.out.1, HM.out.2, k - 1, rfl, HC.out.1⟩, rfl⟩
end Go.Proofs.YtlbnlmhcpephbaaGreatDoor
namespace Go.Proofs.YtlbnlmhcpephbaaGreatDoor
open Go.RowKit
theorem opwp_append_u64 {o : Oper} {a : Act} {K : Act → World → Prop} {Q : Exit → Act → World → Prop} {w : World} (s x : Operand)
  (ho : o.op = .call { callee := .builtin .append, args := #[s, x], argTypes := #[81, 81] })
  (base : Nat) (A : Option Addr) (cap n : Nat) (xs : List Int) (hs : a.eval s = .slice A n cap) (hn : xs.length = n) (hown : OwnU base w A cap xs)
  (ad : Addr) (c : Nat) (p : Int) (hx : a.eval x = .slice (some ad) 1 c) (h0 : w.cell? (ad.add 0) = some (.int .u64 p))
  (hlen : n ≤ 1099511627776) (hbase : base ≤ w.heap.size)
  (h : ∀ A' cap' w', Hid (OwnU base w' A' cap' (xs ++ [p])) → Hid (w.grownBy w' (Value.slice A n cap).ownBlock) → Hid (∀ B : Option Addr, SepA A B → (∀ b, B = some b → b.block < w.heap.size) → SepA A' B) → K (a.put o.dst (.slice A' (n + 1) cap')) w') :
  Oper.wp Tryz.prog o a w K Q := by
 subst hn
 obtain ⟨i, hi, hz, hsz, hby⟩ : ∃ i, Tryz.prog.info? 23 = some i ∧ i.zero = some (.int .u64 0) ∧ i.size = 1 ∧ i.bytes = 8 := by
  have := Tryz.infoU
  cases hh : Tryz.prog.info? 23 with
  | none => rw [hh] at this; cases this
  | some i =>
   rw [hh] at this
   simp only [Option.map_some, Option.some.injEq, Prod.mk.injEq] at this
   exact ⟨i, rfl, this.1, this.2.1, this.2.2⟩
 have hnews : ∀ j u, [Value.int .u64 p][j]? = some u → w.cell? (ad.add j) = some u := by
  intro j u hj
  match j, hj with
  | 0, hj => simp only [List.getElem?_cons_zero, Option.some.injEq] at hj; subst hj; exact h0
 obtain ⟨v', w', hr, hown', hg, _, hblk⟩ := run_append_own_at (P := Tryz.prog) w base 81 o.type _ i _ 1 8 Tryz.underlyingU hi hz hsz hby rfl (by decide) _ xs.length (xs.map (Value.int .u64)) hown ad 1 c [.int .u64 p] rfl hnews
  (by intro u hu; simp only [List.mem_singleton] at hu; subst hu; rfl) (by simp only [maxLen]; omega) (by omega) hbase
 unfold Oper.wp execOp
 simp only [ho, resolve, invoke, builtin, Sem.run_bind, Sem.run_pure, Result.andThen_ok, List.map_toArray, List.map_cons, List.map_nil, hs, hx, hr]
 have hl : (xs ++ [p]).length = xs.length + 1 := by simp
 have hm : (xs ++ [p]).map (Value.int .u64) = xs.map (Value.int .u64) ++ [.int .u64 p] := by simp
 rw [← hm] at hown'
 rcases hown'.2 with ⟨e, hn⟩ | ⟨g, cp, cur, rfl, r⟩
 ·omega
 ·refine h _ _ _ (by show OwnU _ _ _ _ _; unfold OwnU; rw [hl]; exact hown') hg ?_
  intro B hs hB a' b' ha hb e
  cases ha
  simp only [Value.ownBlock] at hblk
  rcases hblk with hblk | hblk
  ·cases A with
   | none => simp at hblk
   | some a =>
    simp only [Option.some.injEq] at hblk
    exact hs a b' rfl hb (hblk.symm.trans e)
  ·simp only [Option.some.injEq] at hblk
   have := hB b' hb
   have e' : g = b'.block := e
   omega
structure Tb (w0 : World) (B0 b : Nat) (u v : Int) (W : World) (fa fb : Value) (A : Option Addr) (c : Nat) (xs : List Int) (A2 : Option Addr) (c2 : Nat) (ys : List Int) : Prop where
 tab : At W b #[.int .u64 u, .int .u64 v, fa, fb] 198
 own1 : OwnU (b + 1) W A c xs
 own2 : OwnU (b + 1) W A2 c2 ys
 sep : SepA A A2
 arg : At W B0 #[.int .u64 u, .int .u64 v] 25
 below : Below w0.heap.size w0 W
 lt : B0 < b
 le : w0.heap.size ≤ B0
section
variable {w0 W W' : World} {B0 b : Nat} {u v : Int} {fa fb : Value} {A A2 : Option Addr} {c c2 : Nat} {xs ys : List Int}
theorem Tb.belowW (h : Tb w0 B0 b u v W fa fb A c xs A2 c2 ys) (hb : Below W.heap.size W W') : Tb w0 B0 b u v W' fa fb A c xs A2 c2 ys :=
 ⟨h.tab.below hb, h.own1.below hb, h.own2.below hb, h.sep, h.arg.below hb, h.below.trans (hb.mono h.below.size), h.lt, h.le⟩
theorem Tb.alloc (h : Tb w0 B0 b u v W fa fb A c xs A2 c2 ys) (o : Obj) : Tb w0 B0 b u v (W.alloc o) fa fb A c xs A2 c2 ys := h.belowW ((Below.refl _ _).alloc (Nat.le_refl _) o)
theorem Tb.drew (h : Tb w0 B0 b u v W fa fb A c xs A2 c2 ys) : Tb w0 B0 b u v W.drew fa fb A c xs A2 c2 ys := h.belowW (Below.refl _ _).drew
theorem Tb.base (h : Tb w0 B0 b u v W fa fb A c xs A2 c2 ys) : b + 1 ≤ W.heap.size := h.tab.lt
theorem own_ne {base n : Nat} (h : OwnU base W A c xs) {k : Nat} (hk : k < base) : some k ≠ (Value.slice A n c).ownBlock := by
 intro e
 cases A with
 | none => simp [Value.ownBlock] at e
 | some g => simp only [Value.ownBlock, Option.some.injEq] at e; have := (h.base_le g rfl).1; omega
theorem own_ne2 {base n : Nat} (h : OwnU base W A c xs) {k : Nat} (hk : W.heap.size ≤ k) : some k ≠ (Value.slice A n c).ownBlock := by
 intro e
 cases A with
 | none => simp [Value.ownBlock] at e
 | some g => simp only [Value.ownBlock, Option.some.injEq] at e; have := (h.base_le g rfl).2; omega
theorem At.app {n k : Nat} {cs : Array Value} {T : TypeId} (h : At W k cs T) (hg : W.grownBy W' (Value.slice A n c).ownBlock) (hn : some k ≠ (Value.slice A n c).ownBlock) : At W' k cs T := (hg.block k h.lt hn).trans h
theorem SepA.symm (h : SepA A A2) : SepA A2 A := fun a b ha hb e => h b a hb ha e.symm
theorem Tb.app1 {n c' : Nat} {A' : Option Addr} {p : Int} (h : Tb w0 B0 b u v W fa fb A c xs A2 c2 ys) (ho : OwnU (b + 1) W' A' c' (xs ++ [p])) (hg : W.grownBy W' (Value.slice A n c).ownBlock)
  (hs : ∀ B : Option Addr, SepA A B → (∀ b, B = some b → b.block < W.heap.size) → SepA A' B) : Tb w0 B0 b u v W' fa fb A' c' (xs ++ [p]) A2 c2 ys :=
 ⟨h.tab.app hg (own_ne h.own1 (by omega)), ho, h.own2.kept hg h.sep, hs A2 h.sep fun b hb => (h.own2.base_le b hb).2, h.arg.app hg (own_ne h.own1 (by have := h.lt; omega)),
  h.below.grown hg h.below.size fun k hk => by
   cases A with
   | none => simp [Value.ownBlock] at hk
   | some g => simp only [Value.ownBlock, Option.some.injEq] at hk; have := (h.own1.base_le g rfl).1; have := h.lt; have := h.le; omega, h.lt, h.le⟩
theorem Tb.app2 {n c' : Nat} {A' : Option Addr} {p : Int} (h : Tb w0 B0 b u v W fa fb A c xs A2 c2 ys) (ho : OwnU (b + 1) W' A' c' (ys ++ [p])) (hg : W.grownBy W' (Value.slice A2 n c2).ownBlock)
  (hs : ∀ B : Option Addr, SepA A2 B → (∀ b, B = some b → b.block < W.heap.size) → SepA A' B) : Tb w0 B0 b u v W' fa fb A c xs A' c' (ys ++ [p]) :=
 ⟨h.tab.app hg (own_ne h.own2 (by omega)), h.own1.kept hg h.sep.symm, ho, (hs A h.sep.symm fun b hb => (h.own1.base_le b hb).2).symm, h.arg.app hg (own_ne h.own2 (by have := h.lt; omega)),
  h.below.grown hg h.below.size fun k hk => by
   cases A2 with
   | none => simp [Value.ownBlock] at hk
   | some g => simp only [Value.ownBlock, Option.some.injEq] at hk; have := (h.own2.base_le g rfl).1; have := h.lt; have := h.le; omega, h.lt, h.le⟩
theorem OwnU.set {base k i : Nat} (h : OwnU base W A c xs) (hk : k < base) (x : Value) : OwnU base (W.setCell ⟨k, i, none⟩ x) A c xs := by
 obtain ⟨h1, h2⟩ := h
 refine ⟨h1, ?_⟩
 rcases h2 with h2 | ⟨g, cp, cur, e, hg, hc, r⟩
 ·exact .inl h2
 ·exact .inr ⟨g, cp, cur, e, hg, (Below.heap_setCell W ⟨k, i, none⟩ x g (by show g ≠ k; omega)).trans hc, r⟩
theorem Tb.set1 (h : Tb w0 B0 b u v W fa fb A c xs A2 c2 ys) (x : Value) : Tb w0 B0 b u v (W.setCell ⟨b, 2, none⟩ x) x fb A c xs A2 c2 ys :=
 ⟨h.tab.set_any 2 x rfl, h.own1.set (by omega) x, h.own2.set (by omega) x, h.sep, h.arg.set_other (by have := h.lt; show B0 ≠ b; omega) x, h.below.setCell (p := ⟨b, 2, none⟩) (by have := h.lt; have := h.le; show w0.heap.size ≤ b; omega) x, h.lt, h.le⟩
theorem Tb.set2 (h : Tb w0 B0 b u v W fa fb A c xs A2 c2 ys) (x : Value) : Tb w0 B0 b u v (W.setCell ⟨b, 3, none⟩ x) fa x A c xs A2 c2 ys :=
 ⟨h.tab.set_any 3 x rfl, h.own1.set (by omega) x, h.own2.set (by omega) x, h.sep, h.arg.set_other (by have := h.lt; show B0 ≠ b; omega) x, h.below.setCell (p := ⟨b, 3, none⟩) (by have := h.lt; have := h.le; show w0.heap.size ≤ b; omega) x, h.lt, h.le⟩
end
theorem ite_ofN {c : Prop} [Decidable c] {A B : Prop} (h : c) (a : A) : if c then A else B := by rw [if_pos h]; exact a
def TabW (b : Nat) (u v : Int) (fa fb : Value) (W : World) : Prop := At W b #[.int .u64 u, .int .u64 v, fa, fb] 198
theorem TabW.at {b : Nat} {u v : Int} {fa fb : Value} {W : World} (h : TabW b u v fa fb W) : At W b #[.int .u64 u, .int .u64 v, fa, fb] 198 := h
theorem cellsF_step {u v f low : Nat} {L0 : List Nat} {V : Option (List Nat)} (h : V = (cellsF u v (f + 1) low).map (L0 ++ ·)) (hl : low ≤ mostN) : V = (cellsF u v f (highN u v low + 1)).map ((L0 ++ [low]) ++ ·) := by
 rw [h, cellsF, if_neg (by omega)]
 cases cellsF u v f (highN u v low + 1) <;> simp
def NewR (u v : Nat) (e : Ending) (w' : World) : Prop := match cellsF u v 4096 1 with
 | none => e = .returned (.tuple #[.pointer none, .int .i64 6])
 | some L => ∃ b, e = .returned (.tuple #[.pointer (some ⟨b, 0, none⟩), .int .i64 0]) ∧ Tab w' b u v L (L.map (repN u v))
def TabN (n0 : Nat) (W : World) (b : Nat) (u v : Int) (L R : List Nat) : Prop := n0 ≤ b ∧ ∃ A c A2 c2, At W b #[.int .u64 u, .int .u64 v, .slice A L.length c, .slice A2 R.length c2] 198 ∧ RdU W A (castL L) ∧ RdU W A2 (castL R) ∧ (∀ g, A = some g → n0 ≤ g.block) ∧ (∀ g, A2 = some g → n0 ≤ g.block)
def NewN (u v n0 : Nat) (e : Ending) (w' : World) : Prop := match cellsF u v 4096 1 with
 | none => e = .returned (.tuple #[.pointer none, .int .i64 6])
 | some L => ∃ b, e = .returned (.tuple #[.pointer (some ⟨b, 0, none⟩), .int .i64 0]) ∧ TabN n0 w' b u v L (L.map (repN u v))
set_option maxRecDepth 100000 in
set_option maxHeartbeats 4000000 in
theorem cnew_own (u v : Nat) (w : World) (hu0 : 0 < u) (hu : u < v) (hv : v ≤ 2147483648) :
  Calls Tryz.prog 56 #[.agg #[.int .u64 u, .int .u64 v]] w fun e w' => NewN u v w.heap.size e w' ∧ Below w.heap.size w w' := by
 have hg : goodC (u : Int) (v : Int) = true := goodC_iff.2 ⟨by omega, by omega, by omega⟩
 go_enter Tryz.func56, Tryz.ntmps56
 go_wp2_with fail
 refine (cgood_any u v _ (by omega) (by omega) (by omega) (by omega)).mono ?_
 rintro e w1 ⟨rfl, hb⟩
 rw [hg]
 have s1 : At w1 w.heap.size #[.int .u64 u, .int .u64 v] 25 := At.below (At.new' _ _ _ rfl) hb
 have hB : Below w.heap.size w w1 := Below.trans (by repeat (first | with_reducible assumption | with_reducible exact Below.refl _ _ | with_reducible refine Below.drew ?_ | with_reducible refine Below.drewN ?_ _ | with_reducible refine Below.setCell ?_ (by first | omega | (simp; done) | (simp; omega)) _ | with_reducible refine Below.alloc ?_ (by first | omega | (simp; done) | (simp; omega) | (simp [World.setCell]; omega)) _)) (hb.mono (by first | omega | (simp; done) | (simp; omega) | (simp [World.setCell]; omega)))
 have f1 := s1.two
 have l1 := s1.lt
 clear hb hg
 go_wp2
 obtain ⟨b, hbe⟩ : ∃ b, w1.heap.size = b := ⟨_, rfl⟩
 obtain ⟨B0, hB0⟩ : ∃ B0, w.heap.size = B0 := ⟨_, rfl⟩
 refine gen_world (fun W => Hid (Tb w B0 b u v W (.slice none 0 0) (.slice none 0 0) none 0 [] none 0 [])) ?_ ?_
 ·exact ⟨At.new' _ _ _ hbe.symm, OwnU.nil _ _, OwnU.nil _ _, fun a b h => (by cases h), by rw [← hB0]; exact s1.alloc _, (by repeat (first | with_reducible assumption | with_reducible exact Below.refl _ _ | with_reducible refine Below.drew ?_ | with_reducible refine Below.drewN ?_ _ | with_reducible refine Below.setCell ?_ (by first | omega | (simp; done) | (simp; omega)) _ | with_reducible refine Below.alloc ?_ (by first | omega | (simp; done) | (simp; omega) | (simp [World.setCell]; omega)) _)), by omega, by omega⟩
 rintro W HT
 simp only [hbe, hB0]
 clear hbe hB0 s1 hB f1 l1
 obtain ⟨V, hV⟩ : ∃ V, Hid (cellsF u v 4096 1 = V) := ⟨_, rfl⟩
 go_loopw [5] (fun lv wr => ∃ (n low : Nat) (L0 : List Nat) (A : Option Addr) (c : Nat) (A2 : Option Addr) (c2 : Nat), n ≤ 4096 ∧ Hid (L0.length = n) ∧ lv = .int .u64 low ∧ 1 ≤ low ∧ low ≤ 9223372036854775809 ∧ Hid (Tb w B0 b u v wr (.slice A n c) (.slice A2 n c2) A c (castL L0) A2 c2 (castL (L0.map (repN u v)))) ∧
   Hid (V = (cellsF u v (4096 - n) low).map (L0 ++ ·))) (fun lv _ => 9223372036854775809 - (intOf lv).toNat)
 case atStart => exact ⟨0, 1, [], none, 0, none, 0, by omega, rfl, rfl, by omega, by omega, HT, by show _ = _; rw [← hV.out]; simp⟩
 case round =>
  clear HT
  obtain ⟨n, low, L0, A, c, A2, c2, hn, hL, rfl, hl1, hl2, HT, HC⟩ := hrel
  have fT := HT.out.tab.four
  have fA := HT.out.arg.two
  by_cases hle : low ≤ 9223372036854775808
  ·have hle' : (low : Int) ≤ 9223372036854775808 := by omega
   by_cases hfull : n = 4096
   ·subst hfull
    have HN : Hid (cellsF u v 4096 1 = none) := by
     show _ = _
     rw [hV.out, HC.out, Nat.sub_self, cellsF, if_neg (by unfold mostN; omega)]
     rfl
    have hbel := HT.out.below
    clear hV HC hL
    go_wp2
    go_ret2
    exact ⟨by unfold NewN; rw [HN.out]; rfl, hbel⟩
   ·have hn' : ¬ (4096 : Int) ≤ n := by omega
    go_wp2_with fail
    refine (next_any u v low _ hu0 hu hv hle).mono ?_
    rintro e w2 ⟨rfl, hb⟩
    have hz := HT.out.tab.lt
    replace HT := Lib.hid (HT.out.belowW hb)
    have hh1 := highN_ge (u := u) (v := v) (low := low) hu hle
    have hh2 := highN_le (u := u) (v := v) (low := low)
    have HC2 : Hid (V = (cellsF u v (4096 - (n + 1)) (highN u v low + 1)).map ((L0 ++ [low]) ++ ·)) := cellsF_step (by rw [show 4096 - (n + 1) + 1 = 4096 - n by omega]; exact HC.out) hle
    obtain ⟨r, hr⟩ : ∃ r, repN u v low = r := ⟨_, rfl⟩
    obtain ⟨h, hh⟩ : ∃ h, highN u v low = h := ⟨_, rfl⟩
    have HR : Hid (castL ((L0 ++ [low]).map (repN u v)) = castL (L0.map (repN u v)) ++ [(r : Int)]) := by show _ = _; rw [List.map_append, castL, List.map_append, ← hr]; rfl
    have HL : Hid (castL (L0 ++ [low]) = castL L0 ++ [(low : Int)]) := castL_append _ _
    rw [hh] at hh1 hh2 HC2
    rw [hr, hh]
    have hbase := HT.out.base
    have hlen1 := Lib.hid (show (castL L0).length = n by rw [castL_length]; exact hL.out)
    have hlen2 := Lib.hid (show (castL (L0.map (repN u v))).length = n by rw [castL_length, List.length_map]; exact hL.out)
    have hLn := hL
    clear hr hh hb HC fT fA hz hL
    unfold mostN at hh2
    go_upto_region 9 with fail
    have fT := HT.out.tab.drew.four
    refine wp_region_noPanic ?_
    refine wp_region_until (S := HeldS (TabW b u v (.slice A n c) (.slice A2 n c2))) 18 (by kernel_rfl) ?_
    replace HT := Lib.hid HT.out.drew
    replace hbase : b + 1 ≤ w2.drew.heap.size := hbase
    obtain ⟨W0, hW0⟩ : ∃ W0, w2.drew = W0 := ⟨_, rfl⟩
    rw [hW0] at HT hbase fT ⊢
    have hHeld : HeldS (TabW b u v (.slice A n c) (.slice A2 n c2)) W0 := HeldS.mk' HT.out.tab
    have hne : Nonempty (Held (TabW b u v (.slice A n c) (.slice A2 n c2))) := ⟨⟨W0, HT.out.tab⟩⟩
    clear hW0 fT
    have hfarT := fun x : Held (TabW b u v (.slice A n c) (.slice A2 n c2)) => x.held.at.four
    have hneF : Nonempty (Held fun _ => True) := ⟨⟨W0, trivial⟩⟩
    refine wpAnyU_run0F [true, true, true, true, true, false, true, false, false, true, true, true, false, true] 12 (by kernel_rfl) (by kernel_rfl) (fun _ _ _ _ h => h) (by kernel_rfl) hHeld ?_
    simp only [runOps_true, runOps_false, runOps_nil]
    repeat (first | go_big_quiet_skip | (go_big_quiet_want; go_big_quiet_op; go_big_quiet_on))
    refine wpQuiet_nil ?_
    refine wpAnyU_run0 [false, false, false, false, false, true, false, false, false, false, false, false, true] 10 (by kernel_rfl) (by kernel_rfl) (fun _ _ _ _ h => h) (by kernel_rfl) hHeld ?_
    simp only [runOps_true, runOps_false, runOps_nil]
    repeat (first | go_big_quiet_skip | (go_big_quiet_want; go_big_quiet_op; go_big_quiet_on))
    refine wpQuiet_nil ?_
    clear hfarT hne hneF
    have NE : Hid (∀ k, W0.heap.size ≤ k → some k ≠ (Value.slice A n c).ownBlock) := fun k hk => own_ne2 HT.out.own1 hk
    have hsz0 : W0.heap.size ≤ W0.heap.size := Nat.le_refl _
    refine wpAnyU_ready (rs := [7, 14]) (by kernel_rfl) (by simp) ?_
    refine AllReadyU.cons rfl (fun K hK => ?_) (AllReadyU.cons rfl (fun K hK => ?_) (AllReadyU.nil))
    ·go_simp
     go_wp2
     refine hK.out _ _ (fun _ => HeldS.mk' (HT.out.alloc _).tab) ?_
     clear hK K
     have E1 := At.new W0 #[.int .u64 low] 23
     obtain ⟨e1, he1⟩ : ∃ e, W0.heap.size = e := ⟨_, rfl⟩
     replace HT := Lib.hid (HT.out.alloc (.cells #[.int .u64 low] 23))
     have le1 : W0.heap.size ≤ e1 := by omega
     have hsz1 : W0.heap.size ≤ (W0.alloc (.cells #[.int .u64 low] 23)).heap.size := (by first | omega | (simp; done) | (simp; omega) | (simp [World.setCell]; omega))
     generalize W0.alloc (.cells #[.int .u64 low] 23) = W1 at HT E1 hsz1 ⊢
     simp only [he1] at E1 ⊢
     clear he1
     refine wpAnyU_ready (rs := [8, 14]) (by kernel_rfl) (by simp) ?_
     refine AllReadyU.cons rfl (fun K hK => ?_) (AllReadyU.cons rfl (fun K hK => ?_) (AllReadyU.nil))
     ·refine ite_ofN rfl ?_
      refine opwp_append_u64 _ _ rfl (b + 1) A c n (castL L0) rfl hlen1.out HT.out.own1 ⟨e1, 0, none⟩ 1 low rfl (by rw [Addr.add_lit]; exact E1.one.1) (by omega) HT.out.base ?_
      intro A1 c1 W2 HO HG HS
      simp only [Act.put, List.setIfInBounds_toArray, List.set_cons_zero, List.set_cons_succ]
      refine hK.out _ _ (fun _ => HeldS.mk' (HT.out.tab.app HG.out (own_ne HT.out.own1 (by omega)))) ?_
      clear hK K
      have hsz2 := Nat.le_trans hsz1 HG.out.size
      replace HT := Lib.hid (HT.out.app1 HO.out HG.out HS.out)
      clear HO HG HS E1
      refine wpAnyU_ready (rs := [14]) (by kernel_rfl) (by simp) ?_
      refine AllReadyU.cons rfl (fun K hK => ?_) (AllReadyU.nil)
      go_simp
      go_wp2
      refine hK.out _ _ (fun _ => HeldS.mk' (HT.out.alloc _).tab) ?_
      clear hK K
      have E2 := At.new W2 #[.int .u64 r] 23
      obtain ⟨e2, he2⟩ : ∃ e, W2.heap.size = e := ⟨_, rfl⟩
      replace HT := Lib.hid (HT.out.alloc (.cells #[.int .u64 r] 23))
      have le2 : W0.heap.size ≤ e2 := by have := hsz2; omega
      have hsz3 : W0.heap.size ≤ (W2.alloc (.cells #[.int .u64 r] 23)).heap.size := (by first | omega | (simp; done) | (simp; omega) | (simp [World.setCell]; omega))
      generalize W2.alloc (.cells #[.int .u64 r] 23) = W3 at HT E2 hsz3 ⊢
      simp only [he2] at E2 ⊢
      clear he2
      refine wpAnyU_ready (rs := [15]) (by kernel_rfl) (by simp) ?_
      refine AllReadyU.cons rfl (fun K hK => ?_) (AllReadyU.nil)
      refine ite_ofN rfl ?_
      refine opwp_append_u64 _ _ rfl (b + 1) A2 c2 n (castL (L0.map (repN u v))) rfl hlen2.out HT.out.own2 ⟨e2, 0, none⟩ 1 r rfl (by rw [Addr.add_lit]; exact E2.one.1) (by omega) HT.out.base ?_
      intro A3 c3 W4 HO HG HS
      simp only [Act.put, List.setIfInBounds_toArray, List.set_cons_zero, List.set_cons_succ]
      refine hK.out _ _ (fun _ => HeldS.mk' (HT.out.tab.app HG.out (own_ne HT.out.own2 (by omega)))) ?_
      clear hK K
      replace HT := Lib.hid (HT.out.app2 HO.out HG.out HS.out)
      clear HO HG HS E2
      refine wpAnyU_ready (rs := [16]) (by kernel_rfl) (by simp) ?_
      refine AllReadyU.cons rfl (fun K hK => ?_) (AllReadyU.nil)
      go_simp
      go_wp2
      refine hK.out _ _ (fun _ => HeldS.mk' HT.out.tab) ?_
      clear hK K
      refine wpAnyU_ready (rs := [17]) (by kernel_rfl) (by simp) ?_
      refine AllReadyU.cons rfl (fun K hK => ?_) (AllReadyU.nil)
      go_simp
      go_wp2
      refine hK.out _ _ (fun _ => HeldS.mk' HT.out.tab) ?_
      clear hK K
      refine wpAnyU_ready (rs := [18]) (by kernel_rfl) (by simp) ?_
      refine AllReadyU.cons rfl (fun K hK => ?_) (AllReadyU.nil)
      have fT := HT.out.tab.four
      go_simp
      go_wp2
      refine hK.out _ _ (fun h => late_no h (by kernel_rfl)) ?_
      clear hK K fT
      replace HT := Lib.hid (HT.out.set1 (.slice A1 (n + 1) c1))
      refine wpAnyU_ready (rs := [19]) (by kernel_rfl) (by simp) ?_
      refine AllReadyU.cons rfl (fun K hK => ?_) (AllReadyU.nil)
      go_simp
      go_wp2
      refine hK.out _ _ (fun h => late_no h (by kernel_rfl)) ?_
      clear hK K
      refine wpAnyU_ready (rs := [20]) (by kernel_rfl) (by simp) ?_
      refine AllReadyU.cons rfl (fun K hK => ?_) (AllReadyU.nil)
      go_simp
      go_wp2
      refine hK.out _ _ (fun h => late_no h (by kernel_rfl)) ?_
      clear hK K
      refine wpAnyU_ready (rs := [21]) (by kernel_rfl) (by simp) ?_
      refine AllReadyU.cons rfl (fun K hK => ?_) (AllReadyU.nil)
      have fT := HT.out.tab.four
      go_simp
      go_wp2
      refine hK.out _ _ (fun h => late_no h (by kernel_rfl)) ?_
      clear hK K fT
      replace HT := Lib.hid (HT.out.set2 (.slice A3 (n + 1) c3))
      refine wpAnyU_done (by kernel_rfl) ?_ _
      refine NoPanic.normal ?_
      rw [← HL.out, ← HR.out] at HT
      have vh : IntKind.u64.wrap ((h : Int) + 1) = ((h + 1 : Nat) : Int) := by simp only [IntKind.wrap_u64]; omega
      go_wp2
      go_roundw
      case rel => exact ⟨n + 1, h + 1, L0 ++ [low], A1, c1, A3, c3, by omega, by show _ = _; rw [List.length_append, hLn.out]; rfl, by go_num, by omega, by omega, HT, HC2⟩
      case measure => simp [intOf]; omega
     ·go_simp
      go_wp2
      refine hK.out _ _ (fun _ => HeldS.mk' (HT.out.alloc _).tab) ?_
      clear hK K
      have E2 := At.new W1 #[.int .u64 r] 23
      obtain ⟨e2, he2⟩ : ∃ e, W1.heap.size = e := ⟨_, rfl⟩
      replace E1 := E1.alloc (.cells #[.int .u64 r] 23)
      replace HT := Lib.hid (HT.out.alloc (.cells #[.int .u64 r] 23))
      have le2 : W0.heap.size ≤ e2 := by have := hsz1; omega
      have hsz2 : W0.heap.size ≤ (W1.alloc (.cells #[.int .u64 r] 23)).heap.size := (by first | omega | (simp; done) | (simp; omega) | (simp [World.setCell]; omega))
      generalize W1.alloc (.cells #[.int .u64 r] 23) = W2 at HT E2 E1 hsz2 ⊢
      simp only [he2] at E2 ⊢
      clear he2
      refine wpAnyU_ready (rs := [8]) (by kernel_rfl) (by simp) ?_
      refine AllReadyU.cons rfl (fun K hK => ?_) (AllReadyU.nil)
      refine ite_ofN rfl ?_
      refine opwp_append_u64 _ _ rfl (b + 1) A c n (castL L0) rfl hlen1.out HT.out.own1 ⟨e1, 0, none⟩ 1 low rfl (by rw [Addr.add_lit]; exact E1.one.1) (by omega) HT.out.base ?_
      intro A1 c1 W3 HO HG HS
      simp only [Act.put, List.setIfInBounds_toArray, List.set_cons_zero, List.set_cons_succ]
      refine hK.out _ _ (fun _ => HeldS.mk' (HT.out.tab.app HG.out (own_ne HT.out.own1 (by omega)))) ?_
      clear hK K
      replace E2 := E2.app HG.out (NE.out _ le2)
      have hsz3 := Nat.le_trans hsz2 HG.out.size
      replace HT := Lib.hid (HT.out.app1 HO.out HG.out HS.out)
      clear HO HG HS E1
      refine wpAnyU_ready (rs := [15]) (by kernel_rfl) (by simp) ?_
      refine AllReadyU.cons rfl (fun K hK => ?_) (AllReadyU.nil)
      refine ite_ofN rfl ?_
      refine opwp_append_u64 _ _ rfl (b + 1) A2 c2 n (castL (L0.map (repN u v))) rfl hlen2.out HT.out.own2 ⟨e2, 0, none⟩ 1 r rfl (by rw [Addr.add_lit]; exact E2.one.1) (by omega) HT.out.base ?_
      intro A3 c3 W4 HO HG HS
      simp only [Act.put, List.setIfInBounds_toArray, List.set_cons_zero, List.set_cons_succ]
      refine hK.out _ _ (fun _ => HeldS.mk' (HT.out.tab.app HG.out (own_ne HT.out.own2 (by omega)))) ?_
      clear hK K
      replace HT := Lib.hid (HT.out.app2 HO.out HG.out HS.out)
      clear HO HG HS E2
      refine wpAnyU_ready (rs := [16]) (by kernel_rfl) (by simp) ?_
      refine AllReadyU.cons rfl (fun K hK => ?_) (AllReadyU.nil)
      go_simp
      go_wp2
      refine hK.out _ _ (fun _ => HeldS.mk' HT.out.tab) ?_
      clear hK K
      refine wpAnyU_ready (rs := [17]) (by kernel_rfl) (by simp) ?_
      refine AllReadyU.cons rfl (fun K hK => ?_) (AllReadyU.nil)
      go_simp
      go_wp2
      refine hK.out _ _ (fun _ => HeldS.mk' HT.out.tab) ?_
      clear hK K
      refine wpAnyU_ready (rs := [18]) (by kernel_rfl) (by simp) ?_
      refine AllReadyU.cons rfl (fun K hK => ?_) (AllReadyU.nil)
      have fT := HT.out.tab.four
      go_simp
      go_wp2
      refine hK.out _ _ (fun h => late_no h (by kernel_rfl)) ?_
      clear hK K fT
      replace HT := Lib.hid (HT.out.set1 (.slice A1 (n + 1) c1))
      refine wpAnyU_ready (rs := [19]) (by kernel_rfl) (by simp) ?_
      refine AllReadyU.cons rfl (fun K hK => ?_) (AllReadyU.nil)
      go_simp
      go_wp2
      refine hK.out _ _ (fun h => late_no h (by kernel_rfl)) ?_
      clear hK K
      refine wpAnyU_ready (rs := [20]) (by kernel_rfl) (by simp) ?_
      refine AllReadyU.cons rfl (fun K hK => ?_) (AllReadyU.nil)
      go_simp
      go_wp2
      refine hK.out _ _ (fun h => late_no h (by kernel_rfl)) ?_
      clear hK K
      refine wpAnyU_ready (rs := [21]) (by kernel_rfl) (by simp) ?_
      refine AllReadyU.cons rfl (fun K hK => ?_) (AllReadyU.nil)
      have fT := HT.out.tab.four
      go_simp
      go_wp2
      refine hK.out _ _ (fun h => late_no h (by kernel_rfl)) ?_
      clear hK K fT
      replace HT := Lib.hid (HT.out.set2 (.slice A3 (n + 1) c3))
      refine wpAnyU_done (by kernel_rfl) ?_ _
      refine NoPanic.normal ?_
      rw [← HL.out, ← HR.out] at HT
      have vh : IntKind.u64.wrap ((h : Int) + 1) = ((h + 1 : Nat) : Int) := by simp only [IntKind.wrap_u64]; omega
      go_wp2
      go_roundw
      case rel => exact ⟨n + 1, h + 1, L0 ++ [low], A1, c1, A3, c3, by omega, by show _ = _; rw [List.length_append, hLn.out]; rfl, by go_num, by omega, by omega, HT, HC2⟩
      case measure => simp [intOf]; omega
    ·go_simp
     go_wp2
     refine hK.out _ _ (fun _ => HeldS.mk' (HT.out.alloc _).tab) ?_
     clear hK K
     have E2 := At.new W0 #[.int .u64 r] 23
     obtain ⟨e2, he2⟩ : ∃ e, W0.heap.size = e := ⟨_, rfl⟩
     replace HT := Lib.hid (HT.out.alloc (.cells #[.int .u64 r] 23))
     have le2 : W0.heap.size ≤ e2 := by omega
     have hsz1 : W0.heap.size ≤ (W0.alloc (.cells #[.int .u64 r] 23)).heap.size := (by first | omega | (simp; done) | (simp; omega) | (simp [World.setCell]; omega))
     generalize W0.alloc (.cells #[.int .u64 r] 23) = W1 at HT E2 hsz1 ⊢
     simp only [he2] at E2 ⊢
     clear he2
     refine wpAnyU_ready (rs := [7]) (by kernel_rfl) (by simp) ?_
     refine AllReadyU.cons rfl (fun K hK => ?_) (AllReadyU.nil)
     go_simp
     go_wp2
     refine hK.out _ _ (fun _ => HeldS.mk' (HT.out.alloc _).tab) ?_
     clear hK K
     have E1 := At.new W1 #[.int .u64 low] 23
     obtain ⟨e1, he1⟩ : ∃ e, W1.heap.size = e := ⟨_, rfl⟩
     replace E2 := E2.alloc (.cells #[.int .u64 low] 23)
     replace HT := Lib.hid (HT.out.alloc (.cells #[.int .u64 low] 23))
     have le1 : W0.heap.size ≤ e1 := by have := hsz1; omega
     have hsz2 : W0.heap.size ≤ (W1.alloc (.cells #[.int .u64 low] 23)).heap.size := (by first | omega | (simp; done) | (simp; omega) | (simp [World.setCell]; omega))
     generalize W1.alloc (.cells #[.int .u64 low] 23) = W2 at HT E1 E2 hsz2 ⊢
     simp only [he1] at E1 ⊢
     clear he1
     refine wpAnyU_ready (rs := [8]) (by kernel_rfl) (by simp) ?_
     refine AllReadyU.cons rfl (fun K hK => ?_) (AllReadyU.nil)
     refine ite_ofN rfl ?_
     refine opwp_append_u64 _ _ rfl (b + 1) A c n (castL L0) rfl hlen1.out HT.out.own1 ⟨e1, 0, none⟩ 1 low rfl (by rw [Addr.add_lit]; exact E1.one.1) (by omega) HT.out.base ?_
     intro A1 c1 W3 HO HG HS
     simp only [Act.put, List.setIfInBounds_toArray, List.set_cons_zero, List.set_cons_succ]
     refine hK.out _ _ (fun _ => HeldS.mk' (HT.out.tab.app HG.out (own_ne HT.out.own1 (by omega)))) ?_
     clear hK K
     replace E2 := E2.app HG.out (NE.out _ le2)
     have hsz3 := Nat.le_trans hsz2 HG.out.size
     replace HT := Lib.hid (HT.out.app1 HO.out HG.out HS.out)
     clear HO HG HS E1
     refine wpAnyU_ready (rs := [15]) (by kernel_rfl) (by simp) ?_
     refine AllReadyU.cons rfl (fun K hK => ?_) (AllReadyU.nil)
     refine ite_ofN rfl ?_
     refine opwp_append_u64 _ _ rfl (b + 1) A2 c2 n (castL (L0.map (repN u v))) rfl hlen2.out HT.out.own2 ⟨e2, 0, none⟩ 1 r rfl (by rw [Addr.add_lit]; exact E2.one.1) (by omega) HT.out.base ?_
     intro A3 c3 W4 HO HG HS
     simp only [Act.put, List.setIfInBounds_toArray, List.set_cons_zero, List.set_cons_succ]
     refine hK.out _ _ (fun _ => HeldS.mk' (HT.out.tab.app HG.out (own_ne HT.out.own2 (by omega)))) ?_
     clear hK K
     replace HT := Lib.hid (HT.out.app2 HO.out HG.out HS.out)
     clear HO HG HS E2
     refine wpAnyU_ready (rs := [16]) (by kernel_rfl) (by simp) ?_
     refine AllReadyU.cons rfl (fun K hK => ?_) (AllReadyU.nil)
     go_simp
     go_wp2
     refine hK.out _ _ (fun _ => HeldS.mk' HT.out.tab) ?_
     clear hK K
     refine wpAnyU_ready (rs := [17]) (by kernel_rfl) (by simp) ?_
     refine AllReadyU.cons rfl (fun K hK => ?_) (AllReadyU.nil)
     go_simp
     go_wp2
     refine hK.out _ _ (fun _ => HeldS.mk' HT.out.tab) ?_
     clear hK K
     refine wpAnyU_ready (rs := [18]) (by kernel_rfl) (by simp) ?_
     refine AllReadyU.cons rfl (fun K hK => ?_) (AllReadyU.nil)
     have fT := HT.out.tab.four
     go_simp
     go_wp2
     refine hK.out _ _ (fun h => late_no h (by kernel_rfl)) ?_
     clear hK K fT
     replace HT := Lib.hid (HT.out.set1 (.slice A1 (n + 1) c1))
     refine wpAnyU_ready (rs := [19]) (by kernel_rfl) (by simp) ?_
     refine AllReadyU.cons rfl (fun K hK => ?_) (AllReadyU.nil)
     go_simp
     go_wp2
     refine hK.out _ _ (fun h => late_no h (by kernel_rfl)) ?_
     clear hK K
     refine wpAnyU_ready (rs := [20]) (by kernel_rfl) (by simp) ?_
     refine AllReadyU.cons rfl (fun K hK => ?_) (AllReadyU.nil)
     go_simp
     go_wp2
     refine hK.out _ _ (fun h => late_no h (by kernel_rfl)) ?_
     clear hK K
     refine wpAnyU_ready (rs := [21]) (by kernel_rfl) (by simp) ?_
     refine AllReadyU.cons rfl (fun K hK => ?_) (AllReadyU.nil)
     have fT := HT.out.tab.four
     go_simp
     go_wp2
     refine hK.out _ _ (fun h => late_no h (by kernel_rfl)) ?_
     clear hK K fT
     replace HT := Lib.hid (HT.out.set2 (.slice A3 (n + 1) c3))
     refine wpAnyU_done (by kernel_rfl) ?_ _
     refine NoPanic.normal ?_
     rw [← HL.out, ← HR.out] at HT
     have vh : IntKind.u64.wrap ((h : Int) + 1) = ((h + 1 : Nat) : Int) := by simp only [IntKind.wrap_u64]; omega
     go_wp2
     go_roundw
     case rel => exact ⟨n + 1, h + 1, L0 ++ [low], A1, c1, A3, c3, by omega, by show _ = _; rw [List.length_append, hLn.out]; rfl, by go_num, by omega, by omega, HT, HC2⟩
     case measure => simp [intOf]; omega
  ·have hle' : ¬ (low : Int) ≤ 9223372036854775808 := by omega
   have HN : Hid (cellsF u v 4096 1 = some L0) := by
    show _ = _
    rw [hV.out, HC.out]
    unfold cellsF
    rw [if_pos (by unfold mostN; omega)]
    simp
   have hbel := HT.out.below
   have hnl := hL.out
   have htab : Hid (TabN w.heap.size wr b u v L0 (L0.map (repN u v))) := by
    have h1 := HT.out.le
    have h2 := HT.out.lt
    refine ⟨by omega, A, c, A2, c2, ?_, HT.out.own1.rd, HT.out.own2.rd, fun g hg => ?_, fun g hg => ?_⟩
    ·rw [List.length_map, hnl]
     exact HT.out.tab
    ·have := (HT.out.own1.base_le g hg).1; omega
    ·have := (HT.out.own2.base_le g hg).1; omega
   clear hV HC hL hnl
   go_wp2
   go_ret2
   exact ⟨by unfold NewN; rw [HN.out]; exact ⟨b, rfl, htab.out⟩, hbel⟩
theorem cnew_bad (u v : Int) (w : World) (h1 : 0 ≤ u) (h2 : u < 18446744073709551616) (h3 : 0 ≤ v) (h4 : v < 18446744073709551616) (hg : goodC u v = false) :
  Calls Tryz.prog 56 #[.agg #[.int .u64 u, .int .u64 v]] w fun e w' => e = .returned (.tuple #[.pointer none, .int .i64 1]) ∧ Below w.heap.size w w' := by
 go_enter Tryz.func56, Tryz.ntmps56
 go_wp2_with fail
 refine (cgood_any u v _ h1 h2 h3 h4).mono ?_
 rintro e w1 ⟨rfl, hb⟩
 rw [hg]
 have hB : Below w.heap.size w w1 := Below.trans (by repeat (first | with_reducible assumption | with_reducible exact Below.refl _ _ | with_reducible refine Below.drew ?_ | with_reducible refine Below.drewN ?_ _ | with_reducible refine Below.setCell ?_ (by first | omega | (simp; done) | (simp; omega)) _ | with_reducible refine Below.alloc ?_ (by first | omega | (simp; done) | (simp; omega) | (simp [World.setCell]; omega)) _)) (hb.mono (by first | omega | (simp; done) | (simp; omega) | (simp [World.setCell]; omega)))
 clear hb hg
 go_wp2
 go_ret2
 exact ⟨rfl, hB⟩
end Go.Proofs.YtlbnlmhcpephbaaGreatDoor
namespace Go.Proofs.YtlbnlmhcpephbaaGreatDoor
open Go.RowKit
structure CellsOf (u v : Nat) (L : List Nat) : Prop where
 u0 : 0 < u
 uv : u < v
 v1 : v ≤ 2147483648
 pos : 0 < L.length
 len : L.length ≤ 4096
 first : L.getD 0 0 = 1
 sorted : L.Pairwise (· < ·)
 bd : ∀ x ∈ L, 1 ≤ x ∧ x ≤ mostN
 chain : Chain u v 1 L
set_option maxRecDepth 100000 in
theorem rtimes_fix (a b : Int) (ha : 0 ≤ a) (ha' : a < 18446744073709551616) (hb : 0 ≤ b) (hb' : b < 18446744073709551616) :
  ∃ hi lo : Int, 0 ≤ hi ∧ hi < 18446744073709551616 ∧ 0 ≤ lo ∧ lo < 18446744073709551616 ∧ hi * 18446744073709551616 + lo = a * b ∧
   ∀ W, Calls Tryz.prog 21 #[.int .u64 a, .int .u64 b] W fun e w' => e = .returned (.agg #[.int .u64 hi, .int .u64 lo]) ∧ Below W.heap.size W w' := by
 have h0 : 0 ≤ a * b := Int.mul_nonneg ha hb
 have h1 : a * b ≤ 18446744073709551615 * 18446744073709551615 := Int.mul_le_mul (by omega) (by omega) hb (by omega)
 refine ⟨a * b / 18446744073709551616, a * b % 18446744073709551616, by omega, by omega, by omega, by omega, by omega, fun W => ?_⟩
 refine (rtimes_any a b W ha ha' hb hb').mono ?_
 rintro e w' ⟨hi, lo, p1, p2, p3, p4, p5, rfl, hB⟩
 refine ⟨?_, hB⟩
 rw [show hi = a * b / 18446744073709551616 by omega, show lo = a * b % 18446744073709551616 by omega]
def NewG (u v : Nat) (e : Ending) (w' : World) : Prop := (∃ p k, e = .returned (.tuple #[.pointer p, .int .i64 k]) ∧ (k = 1 ∨ k = 6)) ∨
 ∃ b L, e = .returned (.tuple #[.pointer (some ⟨b, 0, none⟩), .int .i64 0]) ∧ CellsOf u v L ∧ Tab w' b u v L (L.map (repN u v))
end Go.Proofs.YtlbnlmhcpephbaaGreatDoor
namespace Go.Proofs.YtlbnlmhcpephbaaGreatDoor
open Go.RowKit
structure Tw (w0 : World) (B0 : Nat) (u v : Int) (W : World) (A : Option Addr) (c : Nat) (xs : List Int) (A2 : Option Addr) (c2 : Nat) (ys : List Int) : Prop where
 own1 : OwnU (B0 + 1) W A c xs
 own2 : OwnU (B0 + 1) W A2 c2 ys
 sep : SepA A A2
 arg : At W B0 #[.int .u64 u, .int .u64 v] 25
 below : Below w0.heap.size w0 W
 le : w0.heap.size ≤ B0
section
variable {w0 W W' : World} {B0 : Nat} {u v : Int} {A A2 : Option Addr} {c c2 : Nat} {xs ys : List Int}
theorem Tw.belowW (h : Tw w0 B0 u v W A c xs A2 c2 ys) (hb : Below W.heap.size W W') : Tw w0 B0 u v W' A c xs A2 c2 ys :=
 ⟨h.own1.below hb, h.own2.below hb, h.sep, h.arg.below hb, h.below.trans (hb.mono h.below.size), h.le⟩
theorem Tw.alloc (h : Tw w0 B0 u v W A c xs A2 c2 ys) (o : Obj) : Tw w0 B0 u v (W.alloc o) A c xs A2 c2 ys := h.belowW ((Below.refl _ _).alloc (Nat.le_refl _) o)
theorem Tw.base (h : Tw w0 B0 u v W A c xs A2 c2 ys) : B0 + 1 ≤ W.heap.size := h.arg.lt
theorem Tw.app1 {n c' : Nat} {A' : Option Addr} {p : Int} (h : Tw w0 B0 u v W A c xs A2 c2 ys) (ho : OwnU (B0 + 1) W' A' c' (xs ++ [p])) (hg : W.grownBy W' (Value.slice A n c).ownBlock)
  (hs : ∀ B : Option Addr, SepA A B → (∀ b, B = some b → b.block < W.heap.size) → SepA A' B) : Tw w0 B0 u v W' A' c' (xs ++ [p]) A2 c2 ys :=
 ⟨ho, h.own2.kept hg h.sep, hs A2 h.sep fun b hb => (h.own2.base_le b hb).2, h.arg.app hg (own_ne h.own1 (by omega)),
  h.below.grown hg h.below.size fun k hk => by
   cases A with
   | none => simp [Value.ownBlock] at hk
   | some g => simp only [Value.ownBlock, Option.some.injEq] at hk; have := (h.own1.base_le g rfl).1; have := h.le; omega, h.le⟩
theorem Tw.app2 {n c' : Nat} {A' : Option Addr} {p : Int} (h : Tw w0 B0 u v W A c xs A2 c2 ys) (ho : OwnU (B0 + 1) W' A' c' (ys ++ [p])) (hg : W.grownBy W' (Value.slice A2 n c2).ownBlock)
  (hs : ∀ B : Option Addr, SepA A2 B → (∀ b, B = some b → b.block < W.heap.size) → SepA A' B) : Tw w0 B0 u v W' A c xs A' c' (ys ++ [p]) :=
 ⟨h.own1.kept hg h.sep.symm, ho, (hs A h.sep.symm fun b hb => (h.own1.base_le b hb).2).symm, h.arg.app hg (own_ne h.own2 (by omega)),
  h.below.grown hg h.below.size fun k hk => by
   cases A2 with
   | none => simp [Value.ownBlock] at hk
   | some g => simp only [Value.ownBlock, Option.some.injEq] at hk; have := (h.own2.base_le g rfl).1; have := h.le; omega, h.le⟩
end
theorem rover_fix (a y : Nat) (hi lo : Int) (p1 : 0 ≤ hi) (p2 : hi < 18446744073709551616) (p3 : 0 ≤ lo) (p4 : lo < 18446744073709551616) (p5 : hi * 18446744073709551616 + lo = (a : Nat)) (hy : y < 18446744073709551616) :
  (a < y * 18446744073709551616 → ∃ o : Int, ∀ W, Calls Tryz.prog 40 #[.agg #[.int .u64 hi, .int .u64 lo], .int .u64 y] W fun e w' => e = .returned (.tuple #[.int .u64 (a / y : Nat), .int .u64 o, .bool true]) ∧ Below W.heap.size W w') ∧
  (¬ a < y * 18446744073709551616 → ∀ W, Calls Tryz.prog 40 #[.agg #[.int .u64 hi, .int .u64 lo], .int .u64 y] W fun e w' => e = .returned (.tuple #[.int .u64 0, .int .u64 0, .bool false]) ∧ Below W.heap.size W w') := by
 refine ⟨fun h => ⟨overR (a : Int) (y : Int), fun W => ?_⟩, fun h W => ?_⟩
 ·have := rover_any hi lo y W p1 p2 p3 p4 (by omega) (by omega)
  rw [p5, (overQ_nat h).1, (overQ_nat h).2] at this
  exact this
 ·have := rover_any hi lo y W p1 p2 p3 p4 (by omega) (by omega)
  have h' : ¬ (a : Int) < (y : Int) * 18446744073709551616 := fun k => h (by omega)
  rw [p5, (over_no _ _ h').1, (over_no _ _ h').2.1, (over_no _ _ h').2.2] at this
  exact this
def RcR (u v : Nat) (e : Ending) (w' : World) : Prop := match cellsF u v 4096 1 with
 | none => e = .returned (.tuple #[.slice none 0 0, .slice none 0 0, .bool false])
 | some L => ∃ A c A2 c2, e = .returned (.tuple #[.slice A L.length c, .slice A2 L.length c2, .bool true]) ∧ RdU w' A (castL L) ∧ RdU w' A2 (castL (L.map (repN u v)))
def RcN (n0 : Nat) (u v : Nat) (e : Ending) (w' : World) : Prop := match cellsF u v 4096 1 with
 | none => e = .returned (.tuple #[.slice none 0 0, .slice none 0 0, .bool false])
 | some L => ∃ A c A2 c2, e = .returned (.tuple #[.slice A L.length c, .slice A2 L.length c2, .bool true]) ∧ RdU w' A (castL L) ∧ RdU w' A2 (castL (L.map (repN u v))) ∧ (∀ g, A = some g → n0 ≤ g.block) ∧ (∀ g, A2 = some g → n0 ≤ g.block)
set_option maxRecDepth 100000 in
set_option maxHeartbeats 4000000 in
theorem rcells_own (u v : Nat) (w : World) (hu0 : 0 < u) (hu : u < v) (hv : v ≤ 2147483648) :
  Calls Tryz.prog 32 #[.agg #[.int .u64 u, .int .u64 v]] w fun e w' => RcN w.heap.size u v e w' ∧ Below w.heap.size w w' := by
 obtain ⟨V, hV⟩ : ∃ V, Hid (cellsF u v 4096 1 = V) := ⟨_, rfl⟩
 obtain ⟨s, hs⟩ : ∃ s, v + u = s := ⟨_, rfl⟩
 obtain ⟨d, hd⟩ : ∃ d, v - u = d := ⟨_, rfl⟩
 have hs0 : s < 4294967296 := by omega
 have hd0 : 0 < d := by omega
 have hd1 : d < 4294967296 := by omega
 have hv0 : v < 4294967296 := by omega
 have v1 : IntKind.u64.wrap ((v : Int) + u) = (s : Int) := by simp only [IntKind.wrap_u64]; omega
 have v2 : IntKind.u64.wrap ((v : Int) - u) = (d : Int) := by simp only [IntKind.wrap_u64]; omega
 have HS0 := Lib.hid (And.intro hs hd)
 have HB0 := Lib.hid (And.intro hu0 (And.intro hu hv))
 have HD0 := Lib.hid (And.intro hs0 (And.intro hd0 (And.intro hd1 hv0)))
 clear hs hd hu0 hu hv hs0 hd0 hd1 hv0
 go_enter Tryz.func32, Tryz.ntmps32
 go_wp2
 obtain ⟨B0, hB0⟩ : ∃ B0, w.heap.size = B0 := ⟨_, rfl⟩
 refine gen_world (fun W => Hid (Tw w B0 u v W none 0 [] none 0 [])) ?_ ?_
 ·exact ⟨OwnU.nil _ _, OwnU.nil _ _, fun a b h => (by cases h), At.new' _ _ _ hB0.symm, (by repeat (first | with_reducible assumption | with_reducible exact Below.refl _ _ | with_reducible refine Below.drew ?_ | with_reducible refine Below.drewN ?_ _ | with_reducible refine Below.setCell ?_ (by first | omega | (simp; done) | (simp; omega)) _ | with_reducible refine Below.alloc ?_ (by first | omega | (simp; done) | (simp; omega) | (simp [World.setCell]; omega)) _)), by omega⟩
 rintro W HT
 simp only [hB0]
 clear hB0
 go_loopw [5, 6, 8] (fun lv rv lowv wr => ∃ (n low : Nat) (L0 : List Nat) (A : Option Addr) (c : Nat) (A2 : Option Addr) (c2 : Nat), n ≤ 4096 ∧ Hid (L0.length = n) ∧ lv = .slice A n c ∧ rv = .slice A2 n c2 ∧ lowv = .int .u64 low ∧ 1 ≤ low ∧ low ≤ 9223372036854775809 ∧
   Hid (Tw w B0 u v wr A c (castL L0) A2 c2 (castL (L0.map (repN u v)))) ∧ Hid (V = (cellsF u v (4096 - n) low).map (L0 ++ ·))) (fun _ _ lowv _ => 9223372036854775809 - (intOf lowv).toNat)
 case atStart => exact ⟨0, 1, [], none, 0, none, 0, by omega, rfl, rfl, rfl, rfl, by omega, by omega, HT, by show _ = _; rw [← hV.out]; simp⟩
 case round =>
  clear HT
  obtain ⟨n, low, L0, A, c, A2, c2, hn, hL, rfl, rfl, rfl, hl1, hl2, HT, HC⟩ := hrel
  by_cases hle : low ≤ 9223372036854775808
  ·have hle' : (low : Int) ≤ 9223372036854775808 := by omega
   by_cases hfull : n = 4096
   ·subst hfull
    have HN : Hid (cellsF u v 4096 1 = none) := by
     show _ = _
     rw [hV.out, HC.out, Nat.sub_self, cellsF, if_neg (by unfold mostN; omega)]
     rfl
    have hbel := HT.out.below
    clear hV HC hL
    go_wp2
    go_ret3
    exact ⟨by unfold RcN; rw [HN.out]; rfl, hbel⟩
   have hn' : ((n : Int) == 4096) = false := beq_eq_false_iff_ne.2 (by omega)
   obtain ⟨hu0, hu, hv⟩ := HB0.out
   obtain ⟨hs0, hd0, hd1, hv0⟩ := HD0.out
   have hh1 := highN_ge (u := u) (v := v) (low := low) hu hle
   have hh2 := highN_le (u := u) (v := v) (low := low)
   have HC2 : Hid (V = (cellsF u v (4096 - (n + 1)) (highN u v low + 1)).map ((L0 ++ [low]) ++ ·)) := cellsF_step (by rw [show 4096 - (n + 1) + 1 = 4096 - n by omega]; exact HC.out) hle
   obtain ⟨r, hr⟩ : ∃ r, repN u v low = r := ⟨_, rfl⟩
   obtain ⟨h, hh⟩ : ∃ h, highN u v low = h := ⟨_, rfl⟩
   have HR : Hid (castL ((L0 ++ [low]).map (repN u v)) = castL (L0.map (repN u v)) ++ [(r : Int)]) := by show _ = _; rw [List.map_append, castL, List.map_append, ← hr]; rfl
   have HL : Hid (castL (L0 ++ [low]) = castL L0 ++ [(low : Int)]) := castL_append _ _
   have hlen1 := Lib.hid (show (castL L0).length = n by rw [castL_length]; exact hL.out)
   have hlen2 := Lib.hid (show (castL (L0.map (repN u v))).length = n by rw [castL_length, List.length_map]; exact hL.out)
   have Hr : Hid (min (repR u v low) topN = r) := hr
   have Hh : Hid ((if mostN < repR u v low then mostN else min (repR u v low * v / (v - u)) mostN) = h) := hh
   have HF : Hid (low * s < v * 18446744073709551616 ∧ low * s / v = repR u v low) := by
    have := next_fit hu hle
    refine ⟨by rw [← HS0.out.1]; exact this, by rw [← HS0.out.1]; rfl⟩
   have Hno : Hid (∀ q, ¬ q * v < d * 18446744073709551616 → min (q * v / d) mostN = mostN) := fun q hq => by rw [← HS0.out.2] at hq ⊢; exact next_high_no hu hq
   rw [HS0.out.2] at Hh
   rw [hh] at hh1 hh2 HC2
   have HRb : Hid (repR u v low < 18446744073709551616) := by
    have := overQ_bd ((low * s : Nat) : Int) (v : Int) (by omega) (by omega)
    rw [(overQ_nat HF.out.1).1, HF.out.2] at this
    show _ < _
    omega
   obtain ⟨R, hR⟩ : ∃ R, repR u v low = R := ⟨_, rfl⟩
   rw [hR] at Hr Hh HF HRb
   obtain ⟨x1, y1, p1, p2, p3, p4, p5, H1⟩ := rtimes_fix (low : Int) (s : Int) (by omega) (by omega) (by omega) (by omega)
   obtain ⟨o1, H2⟩ := (rover_fix (low * s) v x1 y1 p1 p2 p3 p4 (by rw [p5, Int.natCast_mul]) (by omega)).1 HF.out.1
   rw [HF.out.2] at H2
   replace H1 := Lib.hid H1
   replace H2 := Lib.hid H2
   unfold mostN at hh2
   have HH := Lib.hid (And.intro hh1 (And.intro hh2 (And.intro hl1 hl2)))
   have vh : IntKind.u64.wrap ((h : Int) + 1) = ((h + 1 : Nat) : Int) := by simp only [IntKind.wrap_u64]; omega
   have hLn := hL
   have HTa := Lib.hid (HT.out.alloc (.cells #[.int .u64 low] 23))
   have hn4 : n < 4096 := by omega
   clear hr hh HC hL hR p1 p2 p3 p4 p5 hh1 hh2 hl1 hl2 hn hfull hle hu0 hu hv hs0 hd0 hd1 hv0
   go_wp2_with (at_builtin; refine wpList_append_u64 rfl _ _ rfl (B0 + 1) A c n (castL L0) rfl hlen1.out HTa.out.own1 _ _ low rfl (new_one0 rfl) (by omega) HTa.out.base ?_; intro A1 c1 W1 HO HG HS)
   replace HT := Lib.hid (HTa.out.app1 HO.out HG.out HS.out)
   clear HTa HO HG HS
   have fA := HT.out.arg
   have hfar1 := fun x : Far W1 => (x.at fA).two
   refine wp_region_far (by kernel_rfl) (by kernel_rfl) ?_
   repeat (first | go_big_quiet_skip | (go_big_quiet_want; go_big_quiet_op; first | go_big_quiet_on | (apply Exists.intro; refine ⟨fun _ => ?_, ?_⟩; (focus (first | (go_at_call 21; with_reducible exact far_of (H1.out _)) | (go_at_call 40; with_reducible exact far_of (H2.out _)))); go_big_quiet_on)))
   refine wpQuiet_nil ?_
   rintro _ ⟨xq, rfl⟩
   clear hfar1
   replace HT := Lib.hid (HT.out.belowW xq.below)
   clear fA H1 H2
   have HRb' := HRb.out
   by_cases hm : mostN < R
   ·have hm' : ¬ (R : Int) ≤ 9223372036854775808 := by unfold mostN at hm; omega
    have e1 : Hid ((9223372036854775807 : Int) = r) := by show _ = _; rw [← Hr.out]; unfold mostN at hm; unfold topN; omega
    have e2 : h = 9223372036854775808 := by rw [← Hh.out, if_pos hm]; rfl
    have HTd := HT
    clear hm Hr Hh HF Hno
    subst e2
    have HTb := Lib.hid (HT.out.alloc (.cells #[.int .u64 9223372036854775807] 23))
    go_wp2_with (at_builtin; refine wpList_append_u64 rfl _ _ rfl (B0 + 1) A2 c2 n (castL (L0.map (repN u v))) rfl hlen2.out HTb.out.own2 _ _ 9223372036854775807 rfl (new_one0 rfl) (by omega) HTb.out.base ?_; intro A3 c3 W3 HO HG HS)
    replace HT := Lib.hid (HTb.out.app2 HO.out HG.out HS.out)
    rw [e1.out] at HT
    rw [← HL.out, ← HR.out] at HT
    go_roundw
    case rel => exact ⟨n + 1, 9223372036854775808 + 1, L0 ++ [low], A1, c1, A3, c3, by omega, by show _ = _; rw [List.length_append, hLn.out]; rfl, rfl, rfl, by go_num, by omega, by have := HH.out; omega, HT, HC2⟩
    case measure => have := HH.out; simp [intOf]; omega
   have hm' : (R : Int) ≤ 9223372036854775808 := by unfold mostN at hm; omega
   have Hh2 := Hh.out
   rw [if_neg hm] at Hh2
   replace Hh2 := Lib.hid Hh2
   clear Hh HF hm
   obtain ⟨hs0, hd0, hd1, hv0⟩ := HD0.out
   obtain ⟨x2, y2, p1, p2, p3, p4, p5, H3⟩ := rtimes_fix (R : Int) (v : Int) (by omega) (by omega) (by omega) (by omega)
   have HO4 := rover_fix (R * v) d x2 y2 p1 p2 p3 p4 (by rw [p5, Int.natCast_mul]) (by omega)
   replace H3 := Lib.hid H3
   clear p1 p2 p3 p4 p5 hs0 hd0 hd1 hv0
   obtain ⟨WX, hWX⟩ : ∃ WX, xq.far = WX := ⟨_, rfl⟩
   rw [hWX] at HT ⊢
   clear hWX
   by_cases hf : R * v < d * 18446744073709551616
   ·obtain ⟨o2, H4⟩ := HO4.1 hf
    replace H4 := Lib.hid H4
    clear HO4 Hno
    have hqb : R * v / d < 18446744073709551616 := by rw [Nat.div_lt_iff_lt_mul (by have := HD0.out; omega)]; exact (Nat.mul_comm d 18446744073709551616) ▸ hf
    obtain ⟨q, hq⟩ : ∃ q, R * v / d = q := ⟨_, rfl⟩
    rw [hq] at H4 Hh2 hqb
    clear hq hf
    have fA := HT.out.arg
    go_wp2
    have hfar1 := fun x : Far WX => (x.at fA).two
    refine wp_region_far (by kernel_rfl) (by kernel_rfl) ?_
    repeat (first | go_big_quiet_skip | (go_big_quiet_want; go_big_quiet_op; first | go_big_quiet_on | (apply Exists.intro; refine ⟨fun _ => ?_, ?_⟩; (focus (first | (go_at_call 21; with_reducible exact far_of (H3.out _)) | (go_at_call 40; with_reducible exact far_of (H4.out _)))); go_big_quiet_on)))
    refine wpQuiet_nil ?_
    rintro _ ⟨xq, rfl⟩
    clear hfar1
    replace HT := Lib.hid (HT.out.belowW xq.below)
    clear fA H3 H4
    by_cases hqm : q < 9223372036854775808
    ·have hqm' : (q : Int) < 9223372036854775808 := by omega
     have e2 : h = q := by rw [← Hh2.out]; unfold mostN; omega
     subst e2
     clear Hh2
     by_cases hre : R = 9223372036854775808
     ·have e1 : Hid ((9223372036854775807 : Int) = r) := by show _ = _; rw [← Hr.out, hre]; rfl
      have hre' : ((R : Int) == 9223372036854775808) = true := beq_iff_eq.2 (by omega)
      clear Hr hre
      have HTb := Lib.hid (HT.out.alloc (.cells #[.int .u64 9223372036854775807] 23))
      go_wp2_with (at_builtin; refine wpList_append_u64 rfl _ _ rfl (B0 + 1) A2 c2 n (castL (L0.map (repN u v))) rfl hlen2.out HTb.out.own2 _ _ 9223372036854775807 rfl (new_one0 rfl) (by omega) HTb.out.base ?_; intro A3 c3 W3 HO HG HS)
      replace HT := Lib.hid (HTb.out.app2 HO.out HG.out HS.out)
      rw [e1.out] at HT
      rw [← HL.out, ← HR.out] at HT
      go_roundw
      case rel => exact ⟨n + 1, h + 1, L0 ++ [low], A1, c1, A3, c3, by omega, by show _ = _; rw [List.length_append, hLn.out]; rfl, rfl, rfl, by go_num, by omega, by have := HH.out; omega, HT, HC2⟩
      case measure => have := HH.out; simp [intOf]; omega
     ·have e1 : r = R := by rw [← Hr.out]; unfold topN; omega
      have hre' : ((R : Int) == 9223372036854775808) = false := beq_eq_false_iff_ne.2 (by omega)
      subst e1
      clear Hr hre
      have HTb := Lib.hid (HT.out.alloc (.cells #[.int .u64 r] 23))
      go_wp2_with (at_builtin; refine wpList_append_u64 rfl _ _ rfl (B0 + 1) A2 c2 n (castL (L0.map (repN u v))) rfl hlen2.out HTb.out.own2 _ _ r rfl (new_one0 rfl) (by omega) HTb.out.base ?_; intro A3 c3 W3 HO HG HS)
      replace HT := Lib.hid (HTb.out.app2 HO.out HG.out HS.out)
      skip
      rw [← HL.out, ← HR.out] at HT
      go_roundw
      case rel => exact ⟨n + 1, h + 1, L0 ++ [low], A1, c1, A3, c3, by omega, by show _ = _; rw [List.length_append, hLn.out]; rfl, rfl, rfl, by go_num, by omega, by have := HH.out; omega, HT, HC2⟩
      case measure => have := HH.out; simp [intOf]; omega
    ·have hqm' : ¬ (q : Int) < 9223372036854775808 := by omega
     have e2 : h = 9223372036854775808 := by rw [← Hh2.out]; unfold mostN; omega
     subst e2
     clear Hh2
     by_cases hre : R = 9223372036854775808
     ·have e1 : Hid ((9223372036854775807 : Int) = r) := by show _ = _; rw [← Hr.out, hre]; rfl
      have hre' : ((R : Int) == 9223372036854775808) = true := beq_iff_eq.2 (by omega)
      clear Hr hre
      have HTb := Lib.hid (HT.out.alloc (.cells #[.int .u64 9223372036854775807] 23))
      go_wp2_with (at_builtin; refine wpList_append_u64 rfl _ _ rfl (B0 + 1) A2 c2 n (castL (L0.map (repN u v))) rfl hlen2.out HTb.out.own2 _ _ 9223372036854775807 rfl (new_one0 rfl) (by omega) HTb.out.base ?_; intro A3 c3 W3 HO HG HS)
      replace HT := Lib.hid (HTb.out.app2 HO.out HG.out HS.out)
      rw [e1.out] at HT
      rw [← HL.out, ← HR.out] at HT
      go_roundw
      case rel => exact ⟨n + 1, 9223372036854775808 + 1, L0 ++ [low], A1, c1, A3, c3, by omega, by show _ = _; rw [List.length_append, hLn.out]; rfl, rfl, rfl, by go_num, by omega, by have := HH.out; omega, HT, HC2⟩
      case measure => have := HH.out; simp [intOf]; omega
     ·have e1 : r = R := by rw [← Hr.out]; unfold topN; omega
      have hre' : ((R : Int) == 9223372036854775808) = false := beq_eq_false_iff_ne.2 (by omega)
      subst e1
      clear Hr hre
      have HTb := Lib.hid (HT.out.alloc (.cells #[.int .u64 r] 23))
      go_wp2_with (at_builtin; refine wpList_append_u64 rfl _ _ rfl (B0 + 1) A2 c2 n (castL (L0.map (repN u v))) rfl hlen2.out HTb.out.own2 _ _ r rfl (new_one0 rfl) (by omega) HTb.out.base ?_; intro A3 c3 W3 HO HG HS)
      replace HT := Lib.hid (HTb.out.app2 HO.out HG.out HS.out)
      skip
      rw [← HL.out, ← HR.out] at HT
      go_roundw
      case rel => exact ⟨n + 1, 9223372036854775808 + 1, L0 ++ [low], A1, c1, A3, c3, by omega, by show _ = _; rw [List.length_append, hLn.out]; rfl, rfl, rfl, by go_num, by omega, by have := HH.out; omega, HT, HC2⟩
      case measure => have := HH.out; simp [intOf]; omega
   ·have H4 := Lib.hid (HO4.2 hf)
    have e2 : h = 9223372036854775808 := by rw [← Hh2.out]; exact Hno.out _ hf
    subst e2
    clear HO4 Hno Hh2 hf
    have fA := HT.out.arg
    go_wp2
    have hfar1 := fun x : Far WX => (x.at fA).two
    refine wp_region_far (by kernel_rfl) (by kernel_rfl) ?_
    repeat (first | go_big_quiet_skip | (go_big_quiet_want; go_big_quiet_op; first | go_big_quiet_on | (apply Exists.intro; refine ⟨fun _ => ?_, ?_⟩; (focus (first | (go_at_call 21; with_reducible exact far_of (H3.out _)) | (go_at_call 40; with_reducible exact far_of (H4.out _)))); go_big_quiet_on)))
    refine wpQuiet_nil ?_
    rintro _ ⟨xq, rfl⟩
    clear hfar1
    replace HT := Lib.hid (HT.out.belowW xq.below)
    clear fA H3 H4
    by_cases hre : R = 9223372036854775808
    ·have e1 : Hid ((9223372036854775807 : Int) = r) := by show _ = _; rw [← Hr.out, hre]; rfl
     have hre' : ((R : Int) == 9223372036854775808) = true := beq_iff_eq.2 (by omega)
     clear Hr hre
     have HTb := Lib.hid (HT.out.alloc (.cells #[.int .u64 9223372036854775807] 23))
     go_wp2_with (at_builtin; refine wpList_append_u64 rfl _ _ rfl (B0 + 1) A2 c2 n (castL (L0.map (repN u v))) rfl hlen2.out HTb.out.own2 _ _ 9223372036854775807 rfl (new_one0 rfl) (by omega) HTb.out.base ?_; intro A3 c3 W3 HO HG HS)
     replace HT := Lib.hid (HTb.out.app2 HO.out HG.out HS.out)
     rw [e1.out] at HT
     rw [← HL.out, ← HR.out] at HT
     go_roundw
     case rel => exact ⟨n + 1, 9223372036854775808 + 1, L0 ++ [low], A1, c1, A3, c3, by omega, by show _ = _; rw [List.length_append, hLn.out]; rfl, rfl, rfl, by go_num, by omega, by have := HH.out; omega, HT, HC2⟩
     case measure => have := HH.out; simp [intOf]; omega
    ·have e1 : r = R := by rw [← Hr.out]; unfold topN; omega
     have hre' : ((R : Int) == 9223372036854775808) = false := beq_eq_false_iff_ne.2 (by omega)
     subst e1
     clear Hr hre
     have HTb := Lib.hid (HT.out.alloc (.cells #[.int .u64 r] 23))
     go_wp2_with (at_builtin; refine wpList_append_u64 rfl _ _ rfl (B0 + 1) A2 c2 n (castL (L0.map (repN u v))) rfl hlen2.out HTb.out.own2 _ _ r rfl (new_one0 rfl) (by omega) HTb.out.base ?_; intro A3 c3 W3 HO HG HS)
     replace HT := Lib.hid (HTb.out.app2 HO.out HG.out HS.out)
     skip
     rw [← HL.out, ← HR.out] at HT
     go_roundw
     case rel => exact ⟨n + 1, 9223372036854775808 + 1, L0 ++ [low], A1, c1, A3, c3, by omega, by show _ = _; rw [List.length_append, hLn.out]; rfl, rfl, rfl, by go_num, by omega, by have := HH.out; omega, HT, HC2⟩
     case measure => have := HH.out; simp [intOf]; omega
  ·have hle' : ¬ (low : Int) ≤ 9223372036854775808 := by omega
   have HN : Hid (cellsF u v 4096 1 = some L0) := by
    show _ = _
    rw [hV.out, HC.out]
    unfold cellsF
    rw [if_pos (by unfold mostN; omega)]
    simp
   have hbel := HT.out.below
   have hres : Hid (RcN w.heap.size u v (.returned (.tuple #[.slice A n c, .slice A2 n c2, .bool true])) wr) := by
    show RcN _ _ _ _ _
    unfold RcN
    rw [HN.out]
    exact ⟨A, c, A2, c2, by rw [hL.out], HT.out.own1.rd, HT.out.own2.rd, fun g e => by have := (HT.out.own1.base_le g e).1; have := HT.out.le; omega, fun g e => by have := (HT.out.own2.base_le g e).1; have := HT.out.le; omega⟩
   clear hV HC hL HN
   go_wp2
   go_ret3
   exact ⟨hres.out, hbel⟩
end Go.Proofs.YtlbnlmhcpephbaaGreatDoor

namespace Go.Proofs.YtlbnlmhcpephbaaGreatDoor
open Go.RowKit
structure SKnd where
 T : TypeId
 fA : FuncId
 fT : FuncId
 fL : FuncId
 fP : FuncId
 fF : FuncId
 fB : FuncId
def sKnd : Bool → SKnd
 | true => ⟨242, 134, 135, 396, 397, 395, 394⟩
 | false => ⟨239, 132, 133, 392, 393, 391, 390⟩
def Meth (T : TypeId) (name : String) (f : FuncId) : Prop := (∀ (c : Nat) (w : World), (method 545 T (.pointer (some ⟨c, 0, none⟩)) name).run Tryz.prog w = .ok (f, .pointer (some ⟨c, 0, none⟩)) w) ∧ ∀ (args : Array Value) (w : World), (callFunc f args).run Tryz.prog w = .ok (.enter f args) w
theorem sAdd (s : Bool) : Meth (sKnd s).T "Add" (sKnd s).fA := by cases s <;> exact ⟨fun c w => by kernel_rfl, fun a w => by kernel_rfl⟩
theorem sTotal (s : Bool) : Meth (sKnd s).T "Total" (sKnd s).fT := by cases s <;> exact ⟨fun c w => by kernel_rfl, fun a w => by kernel_rfl⟩
theorem sLost (s : Bool) : Meth (sKnd s).T "Lost" (sKnd s).fL := by cases s <;> exact ⟨fun c w => by kernel_rfl, fun a w => by kernel_rfl⟩
theorem sPairs (s : Bool) : Meth (sKnd s).T "Pairs" (sKnd s).fP := by cases s <;> exact ⟨fun c w => by kernel_rfl, fun a w => by kernel_rfl⟩
theorem sFind (s : Bool) : Meth (sKnd s).T "Find" (sKnd s).fF := by cases s <;> exact ⟨fun c w => by kernel_rfl, fun a w => by kernel_rfl⟩
structure PKnd where
 T : TypeId
 fI : FuncId
 fR : FuncId
def pKnd : Bool → PKnd
 | true => ⟨155, 143, 104⟩
 | _ => ⟨147, 380, 382⟩
theorem pIndex (k : Bool) : Meth (pKnd k).T "Index" (pKnd k).fI := by cases k <;> exact ⟨fun c w => by kernel_rfl, fun a w => by kernel_rfl⟩
theorem pRep (k : Bool) : Meth (pKnd k).T "Rep" (pKnd k).fR := by cases k <;> exact ⟨fun c w => by kernel_rfl, fun a w => by kernel_rfl⟩
def Sto (w : World) : Bool → Nat → List Nat → Int → List (Int × Int) → Int → Prop
 | true => Lo.Low w
 | false => Hi.High w
section
variable {w w' : World} {s : Bool} {b : Nat} {S T : List Nat} {most tot : Int} {ps : List (Int × Int)}
theorem Sto.frame (h : Sto w s b S most ps tot) (hf : Frame T w w') (hn : Apart S T) : Sto w' s b S most ps tot := by
 cases s
 ·exact Hi.High.frame h hf hn
 ·exact Lo.Low.frame h hf hn
theorem Sto.below (h : Sto w s b S most ps tot) (hb : Below w.heap.size w w') : Sto w' s b S most ps tot := h.frame (T := []) (Frame.of_below hb) (fun _ _ => by simp)
theorem Sto.lt (h : Sto w s b S most ps tot) : ∀ k ∈ S, k < w.heap.size := by
 cases s
 ·exact Hi.High.lt h
 ·exact Lo.Low.lt h
theorem Sto.ok (h : Sto w s b S most ps tot) : okP ps := by
 cases s
 ·exact Hi.High.ok h
 ·exact Lo.Low.ok h
theorem Sto.m14 (h : Sto w s b S most ps tot) : 1 ≤ most ∧ most ≤ 4096 := by
 cases s
 ·exact ⟨Hi.High.m1 h, Hi.High.most4 h⟩
 ·exact ⟨Lo.Low.m1 h, Lo.Low.most4 h⟩
theorem Sto.sums (h : Sto w s b S most ps tot) : 0 ≤ sumP ps ∧ sumP ps ≤ tot ∧ tot ≤ 9223372036854775807 := by
 cases s
 ·exact ⟨Hi.High.sum0 h, Hi.High.lo h, Hi.High.hi h⟩
 ·exact ⟨Lo.Low.sum0 h, Lo.Low.lo h, Lo.Low.hi h⟩
end
theorem sto_total (s : Bool) (b : Nat) (S : List Nat) (most tot : Int) (ps : List (Int × Int)) (w : World) (h : Sto w s b S most ps tot) :
  Calls Tryz.prog (sKnd s).fT #[.pointer (some ⟨b, 0, none⟩)] w fun e w' => e = .returned (.int .u64 tot) ∧ Below w.heap.size w w' := by
 cases s
 ·exact Hi.ltotal_any b S most tot ps w h
 ·exact Lo.ltotal_any b S most tot ps w h
theorem sto_lost (s : Bool) (b : Nat) (S : List Nat) (most tot : Int) (ps : List (Int × Int)) (w : World) (h : Sto w s b S most ps tot) :
  Calls Tryz.prog (sKnd s).fL #[.pointer (some ⟨b, 0, none⟩)] w fun e w' => e = .returned (.int .u64 (tot - sumP ps)) ∧ w = w' := by
 cases s
 ·exact Hi.llost_any b S most tot ps w h
 ·exact Lo.llost_any b S most tot ps w h
theorem sto_pairs (s : Bool) (b : Nat) (S : List Nat) (most tot : Int) (ps : List (Int × Int)) (w : World) (h : Sto w s b S most ps tot) :
  Calls Tryz.prog (sKnd s).fP #[.pointer (some ⟨b, 0, none⟩)] w fun e w' => CloR ps w e w' := by
 cases s
 ·exact Hi.lpairs_any b S most tot ps w h
 ·exact Lo.lpairs_any b S most tot ps w h
def StoA (s : Bool) (b : Nat) (S : List Nat) (most : Int) (ps : List (Int × Int)) (tot : Int) (w w' : World) : Prop :=
 ∃ S', GrownS S S' w.heap.size ∧ Sto w' s b S' most ps tot ∧ Frame S w w'
theorem sto_add (s : Bool) (b : Nat) (S : List Nat) (most tot q cc : Int) (ps : List (Int × Int)) (w : World) (h : Sto w s b S most ps tot) (hc : 0 < cc) (ht : tot + cc ≤ 9223372036854775807) (hq : -9223372036854775808 ≤ q ∧ q ≤ 9223372036854775807) :
  Calls Tryz.prog (sKnd s).fA #[.pointer (some ⟨b, 0, none⟩), .int .i64 q, .int .u64 cc] w fun e w' => e = .returned (.int .i64 0) ∧ StoA s b S most (capRow s most ps q cc) (tot + cc) w w' := by
 cases s
 ·exact Hi.ladd_any b S most tot q cc ps w h hc ht hq
 ·exact Lo.ladd_any b S most tot q cc ps w h hc ht hq
def stoFind : Bool → Int → List (Int × Int) → Int → Option Int
 | true => Lo.lowFind
 | false => Hi.lowFind
theorem sto_find (s : Bool) (b : Nat) (S : List Nat) (most tot t : Int) (ps : List (Int × Int)) (w : World) (h : Sto w s b S most ps tot) (ht : 0 ≤ t ∧ t < 18446744073709551616) :
  Calls Tryz.prog (sKnd s).fF #[.pointer (some ⟨b, 0, none⟩), .int .u64 t] w fun e w' => e = .returned (optI (stoFind s (tot - sumP ps) ps t)) ∧ Below w.heap.size w w' := by
 cases s
 ·exact Hi.lfind_any b S most tot t ps w h ht
 ·exact Lo.lfind_any b S most tot t ps w h ht
def stoBelow : Bool → Int → Int → List (Int × Int) → Int → Int × Int
 | true => Lo.lowBelow
 | false => Hi.lowBelow
structure Prt (w : World) (k : Bool) (a : Nat) (part : Nat → Int) (rep : Int → Int) : Prop where
 ix : ∀ W, Below w.heap.size w W → ∀ m : Nat, 0 < m → m ≤ 9223372036854775808 →
  Calls Tryz.prog (pKnd k).fI #[.pointer (some ⟨a, 0, none⟩), .int .u64 m] W fun e W' => e = .returned (.tuple #[.int .i64 (part m), .bool true]) ∧ Below W.heap.size W W'
 i0 : ∀ W, Below w.heap.size w W → Calls Tryz.prog (pKnd k).fI #[.pointer (some ⟨a, 0, none⟩), .int .u64 0] W fun e W' => e = .returned (.tuple #[.int .i64 0, .bool false]) ∧ Below W.heap.size W W'
 rp : ∀ W, Below w.heap.size w W → ∀ i : Int, -9223372036854775808 ≤ i → i ≤ 9223372036854775807 →
  Calls Tryz.prog (pKnd k).fR #[.pointer (some ⟨a, 0, none⟩), .int .i64 i] W fun e W' => e = .returned (.int .u64 (rep i)) ∧ Below W.heap.size W W'
 rng : ∀ m : Nat, 0 < m → m ≤ 9223372036854775808 → 0 ≤ part m ∧ part m ≤ 1048576
 some : ∀ m : Nat, 0 < m → m ≤ 9223372036854775808 → 0 < rep (part m)
 hi : ∀ i, 0 ≤ rep i ∧ rep i ≤ 9223372036854775808
 mono : PartMono part
end Go.Proofs.YtlbnlmhcpephbaaGreatDoor

namespace Go.Proofs.YtlbnlmhcpephbaaGreatDoor
open Go.RowKit
theorem prt_span (a : Nat) (d : Int) (w : World) (h : SpanAt w a d) : Prt w true a (partD d) (repD d) := by
 refine ⟨fun W hW m h1 h2 => ?_, fun W _ => spindex_zero a W, fun W hW i h1 h2 => ?_, fun m h1 h2 => ?_, fun m h1 h2 => ?_, fun i => ?_, partD_mono d⟩
 ·have := spindex_any a m d W (h.below hW) h1 h2
  exact this
 ·by_cases hi : 0 < i ∧ i ≤ topD d
  ·unfold repD
   rw [if_pos hi]
   obtain ⟨j, rfl⟩ := Int.eq_ofNat_of_zero_le (Int.le_of_lt hi.1)
   rw [Int.toNat_natCast]
   exact sprep_any a j d W (h.below hW) (by omega) (by have := hi.2; unfold topD at this; omega)
  ·unfold repD
   rw [if_neg hi]
   exact sprep_bad a i d W (h.below hW) (by unfold topD at hi; omega)
 ·have := partD_rng (d := d) h1 h2; omega
 ·rw [repD_part h1 h2]
  have := repM_le (g := gOf d) h1 h2
  have := lo_pos (g := gOf d) h1
  omega
 ·unfold repD
  split
  ·next hi =>
   have := repI_le (d := d) (i := i.toNat) (by omega) (by omega)
   omega
  ·omega
def partT (L : List Nat) (m : Nat) : Int := ((L.filter fun x => decide (x ≤ m)).length : Int) - 1
theorem sorted_at {L : List Nat} (hs : L.Pairwise (· < ·)) {i j : Nat} (hij : i ≤ j) (hj : j < L.length) : L.getD i 0 ≤ L.getD j 0 := sorted_getD hs hij hj
theorem filter_cell {L : List Nat} (hs : L.Pairwise (· < ·)) {m i : Nat} (h : cellAt L m i) : (L.filter fun x => decide (x ≤ m)).length = i + 1 := by
 obtain ⟨h1, h2, h3⟩ := h
 have e : L = L.take (i + 1) ++ L.drop (i + 1) := (List.take_append_drop _ _).symm
 have f1 : (L.take (i + 1)).filter (fun x => decide (x ≤ m)) = L.take (i + 1) := List.filter_eq_self.2 fun x hx => by
  obtain ⟨j, hj, rfl⟩ := List.getElem_of_mem hx
  rw [List.length_take] at hj
  rw [List.getElem_take, getD_at]
  have := sorted_at hs (i := j) (j := i) (by omega) h1
  exact decide_eq_true (by omega)
 have f2 : (L.drop (i + 1)).filter (fun x => decide (x ≤ m)) = [] := List.filter_eq_nil_iff.2 fun x hx => by
  obtain ⟨j, hj, rfl⟩ := List.getElem_of_mem hx
  rw [List.length_drop] at hj
  rw [List.getElem_drop, getD_at]
  have h4 := h3 (by omega)
  have := sorted_at hs (i := i + 1) (j := i + 1 + j) (by omega) (by omega)
  simp only [decide_eq_true_eq]
  omega
 rw [e, List.filter_append, f1, f2, List.append_nil, List.length_take]
 omega
theorem partT_cell {L : List Nat} (hs : L.Pairwise (· < ·)) {m i : Nat} (h : cellAt L m i) : partT L m = i := by
 unfold partT
 rw [filter_cell hs h]
 omega
structure TabOk (u v : Nat) (L : List Nat) : Prop where
 h : cellsF u v 4096 1 = some L
 u0 : 0 < u
 uv : u < v
 v1 : v ≤ 2147483648
section
variable {u v : Nat} {L : List Nat}
theorem TabOk.chain (h : TabOk u v L) : Chain u v 1 L := (chain_of h.h).1
theorem TabOk.len (h : TabOk u v L) : L.length ≤ 4096 := (chain_of h.h).2
theorem TabOk.srt (h : TabOk u v L) : L.Pairwise (· < ·) := chain_sorted h.uv h.chain
theorem TabOk.pos (h : TabOk u v L) : 0 < L.length := by
 have hc := h.chain
 cases L with
 | nil => unfold Chain mostN at hc; omega
 | cons x L => simp
theorem TabOk.one (h : TabOk u v L) : L.getD 0 0 = 1 := by
 have := ((chain_at h.uv h.chain).2.2 h.pos).1
 rwa [getD_at] at this
theorem TabOk.bd (h : TabOk u v L) {i : Nat} (hi : i < L.length) : 1 ≤ L.getD i 0 ∧ L.getD i 0 ≤ mostN := by
 have := (chain_at h.uv h.chain).1 i hi
 rwa [getD_at] at this
theorem TabOk.part (h : TabOk u v L) {m : Nat} (h1 : 0 < m) : 0 ≤ partT L m ∧ partT L m < L.length := by
 have h2 : (L.filter fun x => decide (x ≤ m)).length ≤ L.length := List.length_filter_le _ _
 have h3 : 0 < (L.filter fun x => decide (x ≤ m)).length := List.length_pos_of_mem (a := L.getD 0 0) (List.mem_filter.2 ⟨by rw [← getD_at h.pos]; exact List.getElem_mem _, decide_eq_true (by rw [h.one]; omega)⟩)
 unfold partT
 omega
theorem repN_pos {u v low : Nat} (hv : 0 < v) (hl : 1 ≤ low) : 0 < repN u v low ∧ repN u v low ≤ topN := by
 have := repR_ge (u := u) (low := low) hv
 unfold repN topN
 omega
theorem TabOk.rep (h : TabOk u v L) (i : Int) : atL (L.map (repN u v)) i ≤ topN ∧ (0 ≤ i ∧ i < L.length → 0 < atL (L.map (repN u v)) i) := by
 unfold atL
 rw [List.length_map]
 split
 ·next hi =>
  have hj : i.toNat < L.length := by omega
  have e : (L.map (repN u v)).getD i.toNat 0 = repN u v (L.getD i.toNat 0) := by
   rw [List.getD_eq_getElem?_getD, List.getElem?_map, List.getElem?_eq_getElem hj, List.getD_eq_getElem?_getD, List.getElem?_eq_getElem hj]
   rfl
  rw [e]
  have := repN_pos (u := u) (v := v) (by have := h.uv; omega) (h.bd hj).1
  exact ⟨this.2, fun _ => this.1⟩
 ·next hi => exact ⟨by unfold topN; omega, fun h => absurd h hi⟩
end
def repT (u v : Nat) (L : List Nat) (i : Int) : Int := (atL (L.map (repN u v)) i : Nat)
theorem prt_tab (a u v : Nat) (L : List Nat) (w : World) (ht : TabOk u v L) (h : Tab w a u v L (L.map (repN u v))) : Prt w false a (partT L) (repT u v L) := by
 refine ⟨fun W hW m h1 h2 => ?_, fun W hW => ?_, fun W hW i h1 h2 => ?_, fun m h1 h2 => ?_, fun m h1 h2 => ?_, fun i => ?_, fun x y hx hxy hy => ?_⟩
 ·refine (cindex_any a u v L _ m W (h.below hW) ht.srt ht.pos ht.one (by omega)).mono ?_
  rintro e w' ⟨hI, rfl⟩
  rcases hI with ⟨hno, _⟩ | ⟨_, _, i, rfl, hc⟩
  ·unfold mostN at hno; omega
  ·rw [partT_cell ht.srt hc]
   exact ⟨rfl, Below.refl _ _⟩
 ·refine (cindex_any a u v L _ 0 W (h.below hW) ht.srt ht.pos ht.one (by omega)).mono ?_
  rintro e w' ⟨hI, rfl⟩
  rcases hI with ⟨_, rfl⟩ | ⟨hno, _⟩
  ·exact ⟨rfl, Below.refl _ _⟩
  ·omega
 ·refine (crep_any a u v L _ i W (h.below hW)).mono ?_
  rintro e w' ⟨rfl, rfl⟩
  exact ⟨rfl, Below.refl _ _⟩
 ·have := ht.part (m := m) h1
  have := ht.len
  omega
 ·have h3 := ht.part (m := m) h1
  have := (ht.rep (partT L m)).2 h3
  unfold repT
  omega
 ·have := (ht.rep i).1
  unfold topN at this
  unfold repT
  omega
 ·have : (L.filter fun z => decide (z ≤ x)).length ≤ (L.filter fun z => decide (z ≤ y)).length := by
   rw [← List.countP_eq_length_filter, ← List.countP_eq_length_filter]
   exact List.countP_mono_left fun z _ hz => by simp only [decide_eq_true_eq] at hz ⊢; omega
  unfold partT
  omega
def PAt (w : World) : Bool → Nat → (Nat → Int) → (Int → Int) → List Nat → Prop
 | true, a, part, rep, PB => ∃ d, SpanAt w a d ∧ part = partD d ∧ rep = repD d ∧ PB = [a]
 | false, a, part, rep, PB => ∃ u v L, TabOk u v L ∧ part = partT L ∧ rep = repT u v L ∧ ∃ A c A2 c2, At w a #[.int .u64 (u : Nat), .int .u64 (v : Nat), .slice A L.length c, .slice A2 L.length c2] 198 ∧ RdU w A (castL L) ∧ RdU w A2 (castL (L.map (repN u v))) ∧ PB = a :: (blk A ++ blk A2)
theorem Rd.blk_lt {w : World} {A : Option Addr} {xs : List Int} (h : RdU w A xs) (hx : xs ≠ []) : ∀ j ∈ blk A, j < w.heap.size := by
 intro j hj
 obtain ⟨g, o, rfl, hg, _⟩ := h.at 0 (List.length_pos_iff.2 hx)
 simp only [blk, List.mem_singleton] at hj
 subst hj
 exact hg
section
variable {w w' : World} {k : Bool} {a : Nat} {part : Nat → Int} {rep : Int → Int} {PB T : List Nat}
theorem PAt.prt (h : PAt w k a part rep PB) : Prt w k a part rep := by
 cases k
 ·obtain ⟨u, v, L, ht, rfl, rfl, A, c, A2, c2, h1, h2, h3, _⟩ := h
  exact prt_tab a u v L w ht ⟨⟨A, c, A2, c2, by rw [List.length_map]; exact h1, h2, h3⟩, ht.len, by rw [List.length_map]; exact ht.len⟩
 ·obtain ⟨d, h1, rfl, rfl, _⟩ := h
  exact prt_span a d w h1
theorem PAt.frame (h : PAt w k a part rep PB) (hf : Frame T w w') (hn : Apart PB T) : PAt w' k a part rep PB := by
 cases k
 ·obtain ⟨u, v, L, ht, e1, e2, A, c, A2, c2, h1, h2, h3, rfl⟩ := h
  exact ⟨u, v, L, ht, e1, e2, A, c, A2, c2, hf.at h1 (hn a (by simp)), Frame.rd hf h2 (fun x e => hn _ (by subst e; simp [blk])), Frame.rd hf h3 (fun x e => hn _ (by subst e; simp [blk])), rfl⟩
 ·obtain ⟨d, h1, e1, e2, rfl⟩ := h
  exact ⟨d, ⟨hf.at h1.at' (hn a (by simp)), h1.d1, h1.d4⟩, e1, e2, rfl⟩
theorem PAt.below (h : PAt w k a part rep PB) (hb : Below w.heap.size w w') : PAt w' k a part rep PB := h.frame (T := []) (Frame.of_below hb) (fun _ _ => by simp)
theorem PAt.lt (h : PAt w k a part rep PB) : ∀ j ∈ PB, j < w.heap.size := by
 cases k
 ·obtain ⟨u, v, L, ht, e1, e2, A, c, A2, c2, h1, h2, h3, rfl⟩ := h
  have hp := ht.pos
  intro j hj
  simp only [List.mem_cons, List.mem_append] at hj
  rcases hj with rfl | hj | hj
  ·exact h1.lt
  ·exact Rd.blk_lt h2 (fun e => by have := congrArg List.length e; rw [castL_length, List.length_nil] at this; omega) j hj
  ·exact Rd.blk_lt h3 (fun e => by have := congrArg List.length e; rw [castL_length, List.length_map, List.length_nil] at this; omega) j hj
 ·obtain ⟨d, h1, e1, e2, rfl⟩ := h
  intro j hj
  simp at hj
  subst hj
  exact h1.at'.lt
end
theorem partT_take {L : List Nat} {m : Nat} (hs : L.Pairwise (· < ·)) (k : Nat) (hk : k < L.length) : (L.getD k 0 ≤ m → partT (L.take (k + 1)) m = k) ∧ (¬ L.getD k 0 ≤ m → partT (L.take (k + 1)) m = partT (L.take k) m) := by
 unfold partT
 rw [List.take_succ_eq_append_getElem hk, List.filter_append, List.length_append, getD_at]
 constructor
 ·intro h
  rw [List.filter_cons_of_pos (p := fun x => decide (x ≤ m)) (decide_eq_true h), List.filter_nil, List.filter_eq_self.2 fun x hx => ?_, List.length_take]
  ·simp; omega
  ·obtain ⟨j, hj, rfl⟩ := List.getElem_of_mem hx
   rw [List.length_take] at hj
   rw [List.getElem_take, getD_at]
   have := sorted_at hs (i := j) (j := k) (by omega) hk
   exact decide_eq_true (by omega)
 ·intro h
  rw [List.filter_cons_of_neg (p := fun x => decide (x ≤ m)) (by simpa using h), List.filter_nil, List.length_nil, Nat.add_zero]
set_option maxHeartbeats 1000000 in
theorem rcellfind_any (A : Option Addr) (c n : Nat) (L : List Nat) (m : Nat) (w : World) (h : RdU w A (castL L)) (hl : L.length = n) (hn : n ≤ 4096) (hs : L.Pairwise (· < ·)) (hm : m < 18446744073709551616) :
  Calls Tryz.prog 34 #[.slice A n c, .int .u64 m] w fun e w' => e = .returned (.int .i64 (partT L m)) ∧ w = w' := by
 have H := Lib.hid h
 have HL := Lib.hid hl
 have HS := Lib.hid hs
 clear h hl hs
 go_enter Tryz.func34, Tryz.ntmps34
 go_wp2
 go_loop [5, 6, 7, 10] (fun at' _ _ i => ∃ k : Nat, ∃ z : Int, k ≤ n ∧ i = .int .i64 k ∧ at' = .int .i64 z ∧ Hid (partT (L.take k) m = z)) (fun _ _ _ i => n - (intOf i).toNat)
 case atStart => exact ⟨0, -1, by omega, rfl, rfl, by show _ = _; simp [partT]⟩
 case round =>
  obtain ⟨k, z, hk, rfl, rfl, HZ⟩ := hrel
  by_cases hlt : k < n
  ·obtain ⟨g, o, rfl, hg, hc⟩ := H.out.atN k (by have := HL.out; omega)
   have HST := Lib.hid (partT_take (m := m) HS.out k (by have := HL.out; omega))
   obtain ⟨x, hx⟩ : ∃ x, L.getD k 0 = x := ⟨_, rfl⟩
   rw [hx] at hc HST
   clear hx
   by_cases hxm : x ≤ m
   ·have HZ2 : Hid (partT (L.take (k + 1)) m = k) := HST.out.1 hxm
    have hd : decide ((x : Int) ≤ m) = true := decide_eq_true (by omega)
    have hd2 : decide (x ≤ m) = true := decide_eq_true hxm
    clear HST hxm HZ
    go_wp2
    go_round
    case rel => exact ⟨k + 1, k, by omega, by simp, rfl, HZ2⟩
    case measure => simp [intOf]; omega
   ·have HZ2 : Hid (partT (L.take (k + 1)) m = z) := (HST.out.2 hxm).trans HZ.out
    have hd : decide ((x : Int) ≤ m) = false := decide_eq_false (by omega)
    have hd2 : decide (x ≤ m) = false := decide_eq_false hxm
    clear HST hxm HZ
    go_wp2
    go_round
    case rel => exact ⟨k + 1, z, by omega, by simp, rfl, HZ2⟩
    case measure => simp [intOf]; omega
  ·obtain rfl : k = n := by omega
   have HE : Hid (partT L m = z) := by
    have := HZ.out
    rwa [List.take_of_length_le (by have := HL.out; omega)] at this
   clear HZ
   go_wp2
   go_ret
   exact ⟨by rw [HE.out]; rfl, rfl⟩
theorem partT_ok (w : World) (m u v : Nat) (L : List Nat) (A2 A1 : Option Addr) (c1 c2 : Nat) (side most : Int) (A : Option Addr) (len cap : Nat) (ht : TabOk u v L) (h : BinsAt w m (.slice A1 L.length c1) (.slice A2 L.length c2) 0 side most A len cap) (h1 : RdU w A1 (castL L)) : PartOk w m (partT L) := by
 intro W hW a ha ha'
 have f1 := At.six (At.below h hW)
 have l1 := (At.below h hW).lt
 have HX := Lib.hid (rcellfind_any A1 c1 L.length L a W (h1.below hW) rfl ht.len ht.srt (by omega))
 obtain ⟨n, hn⟩ : ∃ n, L.length = n := ⟨_, rfl⟩
 rw [hn] at f1 HX
 clear h hW ha ha' h1 hn ht
 go_enter Tryz.func17, Tryz.ntmps17
 go_wp2_with fail
 refine HX.out.mono ?_
 rintro e w1 ⟨rfl, rfl⟩
 go_wp2
 go_ret
 exact ⟨rfl, Below.refl _ _⟩
def BnQ (b : Nat) (v0 v1 v2 v3 v4 v5 : Value) (W : World) : Prop := At W b #[v0, v1, v2, v3, v4, v5] 83
def repTN (u v : Nat) (L : List Nat) (m : Nat) : Nat := atL (L.map (repN u v)) (partT L m)
theorem repT_part (u v : Nat) (L : List Nat) (m : Nat) : repT u v L (partT L m) = (repTN u v L m : Nat) := rfl
theorem rep_wraps {r : Nat} (h : r ≤ 9223372036854775807) : ((r : Int) == 9223372036854775808) = false ∧ wrap64 (r : Int) = r ∧ wrap64 (-(r : Int)) = -(r : Int) ∧ min (r : Int) 9223372036854775807 = r :=
 ⟨beq_eq_false_iff_ne.2 (by omega), by unfold wrap64; omega, by unfold wrap64; omega, by omega⟩
set_option maxHeartbeats 1000000 in
theorem standT_ok (w : World) (m u v : Nat) (L : List Nat) (A2 A1 : Option Addr) (c1 c2 : Nat) (side most : Int) (A : Option Addr) (len cap : Nat) (ht : TabOk u v L) (h : BinsAt w m (.slice A1 L.length c1) (.slice A2 L.length c2) 0 side most A len cap) (h1 : RdU w A1 (castL L)) (h2 : RdU w A2 (castL (L.map (repN u v)))) : StandOk w m (standV (repTN u v L)) := by
 intro W hW x hx1 hx2
 have f1 := At.six (At.below h hW)
 have l1 := (At.below h hW).lt
 have hq := At.below h hW
 by_cases hx0 : x = 0
 ·subst hx0
  have HV : Hid (standV (repTN u v L) 0 = 0) := rfl
  rw [HV.out]
  clear h1 h2 h hq
  go_enter Tryz.func402, Tryz.ntmps402
  go_wp2
  go_ret
  exact ⟨rfl, Below.refl _ _⟩
 ·have hx0' : (x == 0) = false := beq_eq_false_iff_ne.2 hx0
  have hn0 : 0 < x.natAbs := by omega
  have HS := Lib.hid (rsize_any x W hx1 hx2)
  have HX := Lib.hid fun W' (hW' : Below W.heap.size W W') => (rcellfind_any A1 c1 L.length L x.natAbs W' ((h1.below hW).below hW') rfl ht.len ht.srt (by omega)).mono fun e w' (h : e = .returned (.int .i64 (partT L x.natAbs)) ∧ W' = w') => (⟨h.1, by rw [← h.2]; exact Below.refl _ _⟩ : e = .returned (.int .i64 (partT L x.natAbs)) ∧ Below W'.heap.size W' w')
  obtain ⟨p1, p2⟩ := ht.part (m := x.natAbs) hn0
  have hrr := (ht.rep (partT L x.natAbs))
  obtain ⟨j, hj⟩ := Int.eq_ofNat_of_zero_le p1
  have hjl : j < L.length := by omega
  obtain ⟨g, o, rfl, hg, hc⟩ := (h2.below hW).atN j (by rw [List.length_map]; exact hjl)
  have hr : (L.map (repN u v)).getD j 0 = repTN u v L x.natAbs := by
   unfold repTN atL
   rw [hj, if_pos ⟨by omega, by rw [List.length_map]; omega⟩]
   rfl
  rw [hr] at hc
  have hr1 : repTN u v L x.natAbs ≤ 9223372036854775807 := hrr.1
  have HV : Hid (standV (repTN u v L) x = if 0 < x then (repTN u v L x.natAbs : Int) else -(repTN u v L x.natAbs : Int)) := by
   show _ = _
   unfold standV
   rw [if_neg hx0]
   split <;> omega
  rw [HV.out]
  obtain ⟨r, hre⟩ : ∃ r, repTN u v L x.natAbs = r := ⟨_, rfl⟩
  obtain ⟨mg, hmg⟩ : ∃ l, x.natAbs = l := ⟨_, rfl⟩
  obtain ⟨n, hn⟩ : ∃ n, L.length = n := ⟨_, rfl⟩
  rw [hre] at hc hr1 ⊢
  rw [hmg, hn] at HX
  rw [hmg] at HS hj
  rw [hj] at HX
  rw [hn] at f1 hq hjl
  have j0 : (0 : Int) ≤ j := by omega
  have j1 : (j : Int) < n := by omega
  clear h h1 h2 ht hr hrr p1 p2 hre hmg hn hj HV
  obtain ⟨v1, v2, v3, v4⟩ := rep_wraps hr1
  by_cases hp : 0 < x
  all_goals
   first
    | (have hd1 : decide (0 < x) = true := decide_eq_true hp; rw [if_pos hp])
    | (have hd1 : decide (0 < x) = false := decide_eq_false hp; rw [if_neg hp])
   clear hp hx0 hx1 hx2
   go_enter Tryz.func402, Tryz.ntmps402
   go_wp2_with fail
   refine HS.out.mono ?_
   rintro e w1 ⟨rfl, rfl⟩
   have hcell := fun z : Far W => z.cell hg hc
   go_wp2
   have hfar1 := fun x : Far W => (x.at hq).six
   refine wp_region_far (by kernel_rfl) (by kernel_rfl) ?_
   repeat (first | go_big_quiet_skip | (go_big_quiet_want; go_big_quiet_op; first | go_big_quiet_on | (apply Exists.intro; refine ⟨fun _ => ?_, ?_⟩; (focus (first | (with_reducible refine far_of (HX.out _ (Far.below _))))); go_big_quiet_on)))
   refine wpQuiet_nil ?_
   rintro _ ⟨xq, rfl⟩
   clear hfar1
   have hbf := xq.below
   clear hcell f1 l1 hq HX
   go_wp2
   go_ret
   exact ⟨rfl, hbf⟩
end Go.Proofs.YtlbnlmhcpephbaaGreatDoor
