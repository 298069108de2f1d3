/- Texts of this claim, joined, indents halved: CellsAll, Sto, Prt, Bn, BnAdd. -/
import Derived.Test.YtlbnlmhcpephbaaGreatDoorProg
import Derived.Maps.AppendAt
import Derived.OwnWalk
import Derived.Below
import Derived.Test.YtlbnlmhcpephbaaGreatDoorKa5
namespace Go.Proofs.YtlbnlmhcpephbaaGreatDoor
def mostN : Nat := 9223372036854775808
def topN : Nat := 9223372036854775807
def repR (u v low : Nat) : Nat := low * (v + u) / v
def repN (u v low : Nat) : Nat := min (repR u v low) topN
def highN (u v low : Nat) : Nat := if mostN < repR u v low then mostN else min (repR u v low * v / (v - u)) mostN
def cellsF (u v : Nat) : Nat → Nat → Option (List Nat)
 | fuel, low => if mostN < low then some [] else match fuel with
  | 0 => none
  | f + 1 => (cellsF u v f (highN u v low + 1)).map (low :: ·)
def Chain (u v : Nat) : Nat → List Nat → Prop
 | low, [] => mostN < low
 | low, x :: L => x = low ∧ low ≤ mostN ∧ Chain u v (highN u v low + 1) L
theorem chain_of : ∀ {fuel low : Nat} {u v : Nat} {L : List Nat}, cellsF u v fuel low = some L → Chain u v low L ∧ L.length ≤ fuel := by
 intro fuel
 induction fuel with
 | zero =>
  intro low u v L h
  unfold cellsF at h
  by_cases hl : mostN < low
  ·rw [if_pos hl] at h; cases h; exact ⟨hl, by simp⟩
  ·rw [if_neg hl] at h; cases h
 | succ f ih =>
  intro low u v L h
  unfold cellsF at h
  by_cases hl : mostN < low
  ·rw [if_pos hl] at h; cases h; exact ⟨hl, by simp⟩
  ·rw [if_neg hl] at h
   dsimp only at h
   cases hc : cellsF u v f (highN u v low + 1) with
   | none => rw [hc] at h; cases h
   | some M =>
    rw [hc] at h
    cases h
    have := ih hc
    exact ⟨⟨rfl, by omega, this.1⟩, by simp; exact this.2⟩
theorem repR_ge {u v low : Nat} (hv : 0 < v) : low ≤ repR u v low := by
 unfold repR
 rw [Nat.le_div_iff_mul_le hv, Nat.mul_add]
 omega
theorem repR_mul {u v low : Nat} : repR u v low * v ≤ low * v + low * u := by
 unfold repR
 rw [← Nat.mul_add]
 exact Nat.div_mul_le_self _ _
theorem highN_ge {u v low : Nat} (hu : u < v) (hl : low ≤ mostN) : low ≤ highN u v low := by
 unfold highN
 split
 ·exact hl
 ·rw [Nat.le_min]
  refine ⟨?_, hl⟩
  have h1 := repR_ge (u := u) (v := v) (low := low) (by omega)
  rw [Nat.le_div_iff_mul_le (by omega)]
  exact Nat.mul_le_mul h1 (by omega)
theorem highN_le {u v low : Nat} : highN u v low ≤ mostN := by
 unfold highN
 split
 ·exact Nat.le_refl _
 ·exact Nat.min_le_right _ _
theorem close {u v low m : Nat} (hu0 : 0 < u) (hu : u < v) (hv : v ≤ 2147483648) (hl : low ≤ m) (hm : m ≤ highN u v low) :
  (max (repN u v low) m - min (repN u v low) m) * v ≤ m * u := by
 have hR := repR_mul (u := u) (v := v) (low := low)
 have hRg := repR_ge (u := u) (v := v) (low := low) (by omega)
 have hmm : m ≤ mostN := Nat.le_trans hm highN_le
 have hlu : low * u ≤ m * u := Nat.mul_le_mul_right _ hl
 obtain ⟨R, hR0⟩ : ∃ R, repR u v low = R := ⟨_, rfl⟩
 have hrep : repN u v low = min R topN := by unfold repN; rw [hR0]
 have hhigh : highN u v low = if mostN < R then mostN else min (R * v / (v - u)) mostN := by unfold highN; rw [hR0]
 rw [hR0] at hR hRg
 rw [hrep]
 have big : m = mostN → v ≤ m * u := fun h => by
  have : mostN * 1 ≤ m * u := by rw [h]; exact Nat.mul_le_mul_left _ hu0
  unfold mostN at this
  omega
 by_cases hmr : m ≤ min R topN
 ·rw [Nat.max_eq_left hmr, Nat.min_eq_right hmr]
  have h1 : (min R topN - m) * v ≤ (R - low) * v := Nat.mul_le_mul_right _ (by omega)
  rw [Nat.sub_mul R low v] at h1
  omega
 ·rw [Nat.max_eq_right (by omega), Nat.min_eq_left (by omega)]
  by_cases hRt : R ≤ topN
  ·rw [Nat.min_eq_left hRt] at hmr ⊢
   rw [hhigh, if_neg (by unfold topN at hRt; unfold mostN; omega)] at hm
   have h2 : m ≤ R * v / (v - u) := Nat.le_trans hm (Nat.min_le_left _ _)
   rw [Nat.le_div_iff_mul_le (by omega), Nat.mul_sub] at h2
   rw [Nat.sub_mul]
   have : m * u ≤ m * v := Nat.mul_le_mul_left _ (by omega)
   omega
  ·have e : min R topN = topN := by omega
   rw [e] at hmr ⊢
   have hm1 : m = mostN := by unfold topN at hmr; unfold mostN at *; omega
   have := big hm1
   rw [show m - topN = 1 by rw [hm1]; rfl, Nat.one_mul]
   exact this
theorem chain_cell {u v : Nat} (hv : u < v) : ∀ {L : List Nat} {low m : Nat}, Chain u v low L → low ≤ m → m ≤ mostN → ∃ i, ∃ h : i < L.length, L[i]'h ≤ m ∧ m ≤ highN u v (L[i]'h)
 | [], low, m, hc, h1, h2 => absurd (show mostN < low from hc) (by omega)
 | x :: L, low, m, ⟨hx, h3, hc⟩, h1, h2 => by
  subst hx
  by_cases h : m ≤ highN u v x
  ·exact ⟨0, by simp, h1, h⟩
  ·obtain ⟨i, hi, h4, h5⟩ := chain_cell hv hc (by omega) h2
   exact ⟨i + 1, by simp; exact hi, by simpa using h4, by simpa using h5⟩
theorem chain_at {u v : Nat} (hv : u < v) : ∀ {L : List Nat} {low : Nat}, Chain u v low L → (∀ i (h : i < L.length), low ≤ L[i]'h ∧ L[i]'h ≤ mostN) ∧ (∀ i (h : i + 1 < L.length), L[i + 1]'h = highN u v (L[i]'(by omega)) + 1) ∧ (∀ h : 0 < L.length, L[0]'h = low ∧ highN u v (L[L.length - 1]'(by omega)) = mostN)
 | [], low, hc => ⟨fun i h => by simp at h, fun i h => by simp at h, fun h => by simp at h⟩
 | x :: L, low, ⟨hx, h3, hc⟩ => by
  subst hx
  obtain ⟨a1, a2, a3⟩ := chain_at hv hc
  have hg := highN_ge hv h3
  refine ⟨fun i h => ?_, fun i h => ?_, fun h => ?_⟩
  ·cases i with
   | zero => exact ⟨Nat.le_refl _, h3⟩
   | succ i => have := a1 i (by simpa using h); exact ⟨by simp only [List.getElem_cons_succ]; omega, by simpa using this.2⟩
  ·cases i with
   | zero => simpa using (a3 (by simpa using h)).1
   | succ i => simpa using a2 i (by simpa using h)
  ·refine ⟨rfl, ?_⟩
   cases L with
   | nil =>
    have h4 : mostN < highN u v x + 1 := hc
    have h5 := highN_le (u := u) (v := v) (low := x)
    simp only [List.length_cons, List.length_nil, Nat.zero_add, Nat.sub_self, List.getElem_cons_zero]
    omega
   | cons y L =>
    have := (a3 (by simp)).2
    simpa using this
theorem chain_sorted {u v : Nat} (hv : u < v) {L : List Nat} {low : Nat} (hc : Chain u v low L) : L.Pairwise (· < ·) := by
 induction L generalizing low with
 | nil => exact List.Pairwise.nil
 | cons x L ih =>
  obtain ⟨rfl, h3, hc⟩ := hc
  refine List.pairwise_cons.2 ⟨fun y hy => ?_, ih hc⟩
  obtain ⟨i, hi, rfl⟩ := List.getElem_of_mem hy
  have := ((chain_at hv hc).1 i hi).1
  have := highN_ge hv h3
  omega
structure At' (L : List Nat) (m k : Nat) : Prop where
 le : k ≤ L.length
 under : ∀ j (h : j < L.length), j < k → L[j]'h < m
 over : ∀ h : k < L.length, m ≤ L[k]'h
end Go.Proofs.YtlbnlmhcpephbaaGreatDoor
namespace Go.Proofs.YtlbnlmhcpephbaaGreatDoor
open Go.RowKit
def OwnU (base : Nat) (w : World) (A : Option Addr) (cap : Nat) (xs : List Int) : Prop := w.ownsRow base 23 1 (.slice A xs.length cap) xs.length (xs.map (Value.int .u64))
def RdU (w : World) (A : Option Addr) (xs : List Int) : Prop := Rd w A (xs.map (Value.int .u64))
theorem RdU.below {w w' : World} {A : Option Addr} {xs : List Int} (h : RdU w A xs) (hb : Below w.heap.size w w') : RdU w' A xs := Rd.below h hb
theorem RdU.at {w : World} {A : Option Addr} {xs : List Int} (h : RdU w A xs) (j : Nat) (hj : j < xs.length) : ∃ g o, A = some ⟨g, o, none⟩ ∧ g < w.heap.size ∧ w.cell? ⟨g, o + j, none⟩ = some (.int .u64 (xs[j]'hj)) := by
 obtain ⟨g, o, e, hg, hc⟩ := h j (.int .u64 (xs[j]'hj)) (by rw [List.getElem?_map, List.getElem?_eq_getElem hj]; rfl)
 exact ⟨g, o, e, hg, hc⟩
theorem OwnU.nil (base : Nat) (w : World) : OwnU base w none 0 [] := World.ownsRow_nil w base _ 1
theorem OwnU.below {base cap : Nat} {w w' : World} {A : Option Addr} {xs : List Int} (h : OwnU base w A cap xs) (hb : Below w.heap.size w w') : OwnU base w' A cap xs := by
 obtain ⟨h1, h2⟩ := h
 refine ⟨h1, ?_⟩
 rcases h2 with h2 | ⟨g, c, cur, e, hg, hc, r⟩
 ·exact .inl h2
 ·exact .inr ⟨g, c, cur, e, hg, (hb.block g (Array.getElem?_eq_some_iff.1 hc).1).trans hc, r⟩
theorem OwnU.rd {base cap : Nat} {w : World} {A : Option Addr} {xs : List Int} (h : OwnU base w A cap xs) : RdU w A xs := by
 intro j u hj
 rcases h.2 with ⟨e, hn⟩ | ⟨g, c, cur, e, hg, hc, r⟩
 ·have : xs = [] := List.eq_nil_of_length_eq_zero hn
  subst this
  simp at hj
 ·injection e with e1 e2 e3
  subst e1
  have hl := (Array.getElem?_eq_some_iff.1 hc).1
  refine ⟨g, 0, rfl, hl, ?_⟩
  have := World.ownsRow.cells h (g := g) rfl j u hj
  rwa [Addr.add_lit] at this
theorem OwnU.base_le {base cap : Nat} {w : World} {A : Option Addr} {xs : List Int} (h : OwnU base w A cap xs) : ∀ g, A = some g → base ≤ g.block ∧ g.block < w.heap.size := by
 rintro g rfl
 exact World.ownsRow.lt h g.block rfl
def SepA (A B : Option Addr) : Prop := ∀ a b, A = some a → B = some b → a.block ≠ b.block
theorem OwnU.kept {base cap : Nat} {w w' : World} {A B : Option Addr} {n c : Nat} {xs : List Int} (h : OwnU base w B cap xs) (hg : w.grownBy w' (Value.slice A n c).ownBlock) (hs : SepA A B) : OwnU base w' B cap xs := by
 refine World.ownsRow.kept h hg ?_
 cases B with
 | none => exact .inl rfl
 | some b =>
  refine .inr fun e => ?_
  cases A with
  | none => simp [Value.ownBlock] at e
  | some a => simp only [Value.ownBlock, Option.some.injEq] at e; exact hs a b rfl rfl e.symm
theorem Tryz.underlyingU : Tryz.prog.underlying 81 = some (.slice 23) := by kernel_rfl
theorem Tryz.infoU : (Tryz.prog.info? 23).map (fun i => (i.zero, i.size, i.bytes)) = some (some (.int .u64 0), 1, 8) := by kernel_rfl
end Go.Proofs.YtlbnlmhcpephbaaGreatDoor
namespace Go.Proofs.YtlbnlmhcpephbaaGreatDoor
open Go.RowKit
def goodC (u v : Int) : Bool := decide (0 < u ∧ u < v ∧ v ≤ 2147483648)
theorem goodC_iff {u v : Int} : goodC u v = true ↔ 0 < u ∧ u < v ∧ v ≤ 2147483648 := by unfold goodC; exact decide_eq_true_iff
theorem cgood_any (u v : Int) (w : World) (h1 : 0 ≤ u) (h2 : u < 18446744073709551616) (h3 : 0 ≤ v) (h4 : v < 18446744073709551616) :
  Calls Tryz.prog 75 #[.agg #[.int .u64 u, .int .u64 v]] w fun e w' => e = .returned (.bool (goodC u v)) ∧ Below w.heap.size w w' := by
 have HG : Hid (goodC u v = decide (0 < u ∧ u < v ∧ v ≤ 2147483648)) := rfl
 by_cases a : 0 < u
 ·by_cases b : u < v
  ·have HE : Hid (goodC u v = decide (v ≤ 2147483648)) := by show _ = _; rw [HG.out]; simp [a, b]
   go_enter Tryz.func75, Tryz.ntmps75
   go_wp2
   go_ret
   exact ⟨by rw [HE.out]; rfl, (by repeat (first | with_reducible assumption | with_reducible exact Below.refl _ _ | with_reducible refine Below.drew ?_ | with_reducible refine Below.drewN ?_ _ | with_reducible refine Below.setCell ?_ (by first | omega | (simp; done) | (simp; omega)) _ | with_reducible refine Below.alloc ?_ (by first | omega | (simp; done) | (simp; omega) | (simp [World.setCell]; omega)) _))⟩
  ·have HE : Hid (goodC u v = false) := by show _ = _; rw [HG.out]; simp [b]
   go_enter Tryz.func75, Tryz.ntmps75
   go_wp2
   go_ret
   exact ⟨by rw [HE.out]; rfl, (by repeat (first | with_reducible assumption | with_reducible exact Below.refl _ _ | with_reducible refine Below.drew ?_ | with_reducible refine Below.drewN ?_ _ | with_reducible refine Below.setCell ?_ (by first | omega | (simp; done) | (simp; omega)) _ | with_reducible refine Below.alloc ?_ (by first | omega | (simp; done) | (simp; omega) | (simp [World.setCell]; omega)) _))⟩
 ·have HE : Hid (goodC u v = false) := by show _ = _; rw [HG.out]; simp [a]
  go_enter Tryz.func75, Tryz.ntmps75
  go_wp2
  go_ret
  exact ⟨by rw [HE.out]; rfl, (by repeat (first | with_reducible assumption | with_reducible exact Below.refl _ _ | with_reducible refine Below.drew ?_ | with_reducible refine Below.drewN ?_ _ | with_reducible refine Below.setCell ?_ (by first | omega | (simp; done) | (simp; omega)) _ | with_reducible refine Below.alloc ?_ (by first | omega | (simp; done) | (simp; omega) | (simp [World.setCell]; omega)) _))⟩
theorem overQ_nat {X y : Nat} (h : X < y * 18446744073709551616) : overQ (X : Int) (y : Int) = ((X / y : Nat) : Int) ∧ overOk (X : Int) (y : Int) = true := by
 have h' : (X : Int) < (y : Int) * 18446744073709551616 := by omega
 have := over_yes X y h'
 exact ⟨by rw [this.1]; rfl, this.2.2⟩
theorem overQ_nat_no {X y : Nat} (h : ¬ X < y * 18446744073709551616) : overQ (X : Int) (y : Int) = 0 ∧ overOk (X : Int) (y : Int) = false := by
 have h' : ¬ (X : Int) < (y : Int) * 18446744073709551616 := fun a => h (by omega)
 have := over_no X y h'
 exact ⟨this.1, this.2.2⟩
theorem next_fit {u v low : Nat} (hu : u < v) (hl : low ≤ mostN) : low * (v + u) < v * 18446744073709551616 := by
 have h1 : low * (v + u) ≤ mostN * (v + u) := Nat.mul_le_mul_right _ hl
 unfold mostN at h1
 omega
theorem next_high_no {u v r : Nat} (hu : u < v) (h : ¬ r * v < (v - u) * 18446744073709551616) : min (r * v / (v - u)) mostN = mostN := by
 have h1 : 18446744073709551616 ≤ r * v / (v - u) := by
  rw [Nat.le_div_iff_mul_le (by omega), Nat.mul_comm]
  omega
 unfold mostN
 omega
set_option maxRecDepth 100000 in
theorem next_any (u v low : Nat) (w : World) (hu0 : 0 < u) (hu : u < v) (hv : v ≤ 2147483648) (hl : low ≤ mostN) :
  Calls Tryz.prog 76 #[.agg #[.int .u64 u, .int .u64 v], .int .u64 low] w fun e w' => e = .returned (.tuple #[.int .u64 (repN u v low : Nat), .int .u64 (highN u v low : Nat)]) ∧ Below w.heap.size w w' := by
 have hl' : low < 18446744073709551616 := by unfold mostN at hl; omega
 have hfit := next_fit hu hl
 have F1 := overQ_nat hfit
 have HR : Hid (repN u v low = min (repR u v low) topN) := rfl
 have HH : Hid (highN u v low = if mostN < repR u v low then mostN else min (repR u v low * v / (v - u)) mostN) := rfl
 have HD : Hid (low * (v + u) / v = repR u v low) := rfl
 have v1 : IntKind.u64.wrap ((v : Int) + u) = ((v + u : Nat) : Int) := by simp only [IntKind.wrap_u64]; omega
 have v2 : IntKind.u64.wrap ((v : Int) - u) = ((v - u : Nat) : Int) := by simp only [IntKind.wrap_u64]; omega
 rw [HD.out] at F1
 have hrb := overQ_bd ((low * (v + u) : Nat) : Int) (v : Int) (by omega) (by omega)
 rw [F1.1] at hrb
 obtain ⟨r, hr⟩ : ∃ r, repR u v low = r := ⟨_, rfl⟩
 obtain ⟨s, hs⟩ : ∃ s, v + u = s := ⟨_, rfl⟩
 obtain ⟨d, hd⟩ : ∃ d, v - u = d := ⟨_, rfl⟩
 rw [hr] at HR HH F1 hrb
 rw [hs] at F1 v1
 rw [hd] at v2 HH
 obtain ⟨NR, hNR⟩ : ∃ NR, repN u v low = NR := ⟨_, rfl⟩
 obtain ⟨NH, hNH⟩ : ∃ NH, highN u v low = NH := ⟨_, rfl⟩
 rw [hNR] at HR ⊢
 rw [hNH] at HH ⊢
 clear hNR hNH
 have hd0 : 0 < d := by omega
 have hd1 : d ≤ 2147483648 := by omega
 have hs1 : s < 4294967296 := by omega
 have hno := Lib.hid (fun h => next_high_no (r := r) hu h)
 rw [hd] at hno
 have e1 : ((low : Int) * (s : Int)) = ((low * s : Nat) : Int) := by rw [Int.natCast_mul]
 replace F1 := Lib.hid F1
 clear HD hfit hr hs hd
 go_enter Tryz.func76, Tryz.ntmps76
 go_wp2_with fail
 refine (floor_any (low : Int) (s : Int) (v : Int) _ (by omega) (by omega) (by omega) (by omega) (by omega) (by omega)).mono ?_
 rintro e w1 ⟨rfl, hb⟩
 rw [e1, F1.out.1, F1.out.2]
 have s1 : At w1 w.heap.size #[.int .u64 u, .int .u64 v] 25 := At.below (At.new' _ _ _ rfl) hb
 have hB : Below w.heap.size w w1 := Below.trans (by repeat (first | with_reducible assumption | with_reducible exact Below.refl _ _ | with_reducible refine Below.drew ?_ | with_reducible refine Below.drewN ?_ _ | with_reducible refine Below.setCell ?_ (by first | omega | (simp; done) | (simp; omega)) _ | with_reducible refine Below.alloc ?_ (by first | omega | (simp; done) | (simp; omega) | (simp [World.setCell]; omega)) _)) (hb.mono (by first | omega | (simp; done) | (simp; omega) | (simp [World.setCell]; omega)))
 have f1 := s1.two
 have l1 := s1.lt
 have zB := hB.size
 clear hb F1 e1
 by_cases hm : mostN < r
 ·have hm' : (9223372036854775808 : Int) < r := by unfold mostN at hm; omega
  have hmin : Hid ((NR : Int) = 9223372036854775807) := by show _ = _; rw [HR.out]; unfold mostN at hm; unfold topN; omega
  have hhi : Hid ((NH : Int) = 9223372036854775808) := by show _ = _; rw [HH.out, if_pos hm]; rfl
  clear hm HR HH
  go_wp2
  go_ret2
  exact ⟨by rw [hmin.out, hhi.out]; rfl, hB⟩
 ·have hm' : ¬ (9223372036854775808 : Int) < r := by unfold mostN at hm; omega
  have e2 : ((r : Int) * (v : Int)) = ((r * v : Nat) : Int) := by rw [Int.natCast_mul]
  have HH2 := HH.out
  rw [if_neg hm] at HH2
  replace HH2 := Lib.hid HH2
  clear hm HH
  go_wp2_with fail
  refine (floor_any (r : Int) (v : Int) (d : Int) _ (by omega) (by omega) (by omega) (by omega) (by omega) (by omega)).mono ?_
  rintro e w2 ⟨rfl, hb⟩
  rw [e2]
  have hB2 := keep1 hB hb
  have hmin : Hid ((NR : Int) = min (r : Int) 9223372036854775807) := by show _ = _; rw [HR.out]; unfold topN; omega
  by_cases hf : r * v < d * 18446744073709551616
  ·have F2 := overQ_nat hf
   have hqb := overQ_bd ((r * v : Nat) : Int) (d : Int) (by omega) (by omega)
   rw [F2.1] at hqb
   rw [F2.1, F2.2]
   obtain ⟨q, hq⟩ : ∃ q, r * v / d = q := ⟨_, rfl⟩
   rw [hq] at hqb HH2 ⊢
   clear hno e2 hb hf F2 hq HR
   by_cases hqm : mostN < q
   ·have hqm' : (9223372036854775808 : Int) < q := by unfold mostN at hqm; omega
    have hE : Hid ((NH : Int) = 9223372036854775808) := by show _ = _; rw [HH2.out]; unfold mostN at hqm ⊢; omega
    clear hqm HH2
    go_wp2
    go_ret2
    exact ⟨by rw [hE.out, hmin.out]; first | rfl | simp, hB2⟩
   ·have hqm' : ¬ (9223372036854775808 : Int) < q := by unfold mostN at hqm; omega
    have hE : Hid ((NH : Int) = q) := by show _ = _; rw [HH2.out]; unfold mostN at hqm ⊢; omega
    clear hqm HH2
    go_wp2
    go_ret2
    exact ⟨by rw [hE.out, hmin.out]; first | rfl | simp, hB2⟩
  ·have F2 := overQ_nat_no hf
   rw [F2.1, F2.2]
   have hE := hno.out hf
   have hE2 : Hid ((NH : Int) = 9223372036854775808) := by show _ = _; rw [HH2.out, hE]; rfl
   clear hno e2 hb hf F2 hE HH2 HR
   go_wp2
   go_ret2
   exact ⟨by rw [hE2.out, hmin.out]; first | rfl | simp, hB2⟩
def castL (L : List Nat) : List Int := L.map fun n : Nat => (n : Int)
theorem castL_length (L : List Nat) : (castL L).length = L.length := by simp [castL]
theorem castL_append (L : List Nat) (x : Nat) : castL (L ++ [x]) = castL L ++ [(x : Int)] := by simp [castL]
theorem castL_getD {L : List Nat} {j : Nat} (hj : j < L.length) : (castL L)[j]'(by rw [castL_length]; exact hj) = ((L.getD j 0 : Nat) : Int) := by
 simp [castL, List.getD_eq_getElem?_getD, hj]
theorem RdU.atN {w : World} {A : Option Addr} {L : List Nat} (h : RdU w A (castL L)) (j : Nat) (hj : j < L.length) : ∃ g o, A = some ⟨g, o, none⟩ ∧ g < w.heap.size ∧ w.cell? ⟨g, o + j, none⟩ = some (.int .u64 (L.getD j 0 : Nat)) := by
 obtain ⟨g, o, e, hg, hc⟩ := h.at j (by rw [castL_length]; exact hj)
 rw [castL_getD hj] at hc
 exact ⟨g, o, e, hg, hc⟩
theorem At.four {w : World} {b : Nat} {T : TypeId} {v0 v1 v2 v3 : Value} (h : At w b #[v0, v1, v2, v3] T) : (w.cell? ⟨b, 0, none⟩ = some v0 ∧ w.cell? ⟨b, 1, none⟩ = some v1 ∧ w.cell? ⟨b, 2, none⟩ = some v2 ∧ w.cell? ⟨b, 3, none⟩ = some v3) ∧
  (w.frozen? ⟨b, 0, none⟩ = false ∧ w.frozen? ⟨b, 1, none⟩ = false ∧ w.frozen? ⟨b, 2, none⟩ = false ∧ w.frozen? ⟨b, 3, none⟩ = false) := ⟨⟨h.cell rfl, h.cell rfl, h.cell rfl, h.cell rfl⟩, h.frozen 0, h.frozen 1, h.frozen 2, h.frozen 3⟩
structure Tab (W : World) (b : Nat) (u v : Int) (L R : List Nat) : Prop where
 tab : ∃ A c A2 c2, At W b #[.int .u64 u, .int .u64 v, .slice A L.length c, .slice A2 R.length c2] 198 ∧ RdU W A (castL L) ∧ RdU W A2 (castL R)
 len : L.length ≤ 4096
 len2 : R.length ≤ 4096
theorem Tab.below {W W' : World} {b : Nat} {u v : Int} {L R : List Nat} (h : Tab W b u v L R) (hb : Below W.heap.size W W') : Tab W' b u v L R := by
 obtain ⟨⟨A, c, A2, c2, h1, h2, h3⟩, h4, h5⟩ := h
 exact ⟨⟨A, c, A2, c2, h1.below hb, h2.below hb, h3.below hb⟩, h4, h5⟩
def atL (L : List Nat) (i : Int) : Nat := if 0 ≤ i ∧ i < L.length then L.getD i.toNat 0 else 0
def highL (L : List Nat) (i : Int) : Nat := if 0 ≤ i ∧ i < L.length then (if i = L.length - 1 then mostN else L.getD (i.toNat + 1) 0 - 1) else 0
set_option maxRecDepth 100000 in
theorem crep_any (b : Nat) (u v : Int) (L R : List Nat) (i : Int) (w : World) (h : Tab w b u v L R) :
  Calls Tryz.prog 382 #[.pointer (some ⟨b, 0, none⟩), .int .i64 i] w fun e w' => e = .returned (.int .u64 (atL R i : Nat)) ∧ w = w' := by
 obtain ⟨⟨A, c, A2, c2, h1, h2, h3⟩, h4, h5⟩ := h
 have f1 := h1.four.1
 by_cases a : 0 ≤ i ∧ i < R.length
 ·obtain ⟨a1, a2⟩ := a
  obtain ⟨k, rfl⟩ := Int.eq_ofNat_of_zero_le a1
  obtain ⟨g, o, rfl, hg, hc⟩ := h3.atN k (by omega)
  have HE : Hid (atL R k = R.getD k 0) := by show _ = _; unfold atL; rw [if_pos ⟨a1, a2⟩]; rfl
  rw [HE.out]
  obtain ⟨x, hx⟩ : ∃ x, R.getD k 0 = x := ⟨_, rfl⟩
  rw [hx] at hc ⊢
  obtain ⟨n, hn⟩ : ∃ n, R.length = n := ⟨_, rfl⟩
  rw [hn] at f1 a2 h5
  have a3 : ¬ (k : Int) < 0 := by omega
  have a4 : ¬ (n : Int) ≤ k := by omega
  clear h1 h2 h3 hx hn HE
  go_enter Tryz.func382, Tryz.ntmps382
  go_wp2
  go_ret
  exact ⟨rfl, rfl⟩
 ·have HE : Hid (atL R i = 0) := by show _ = _; unfold atL; rw [if_neg a]
  rw [HE.out]
  obtain ⟨n, hn⟩ : ∃ n, R.length = n := ⟨_, rfl⟩
  rw [hn] at f1 a h5
  clear h1 h2 h3 hn HE
  by_cases a1 : i < 0
  ·clear a
   go_enter Tryz.func382, Tryz.ntmps382
   go_wp2
   go_ret
   exact ⟨rfl, rfl⟩
  ·have a2 : (n : Int) ≤ i := by omega
   clear a
   go_enter Tryz.func382, Tryz.ntmps382
   go_wp2
   go_ret
   exact ⟨rfl, rfl⟩
end Go.Proofs.YtlbnlmhcpephbaaGreatDoor
namespace Go.Proofs.YtlbnlmhcpephbaaGreatDoor
open Go.RowKit
theorem nan1_any (x : Int) (w : World) : Calls Tryz.prog 386 #[.int .u64 x] w fun e w' => e = .returned (.bool false) ∧ w = w' := by
 go_enter Tryz.func386, Tryz.ntmps386
 go_wp2
 go_ret
 exact ⟨by first | rfl | simp, rfl⟩
theorem nan2_any (x : Int) (w : World) : Calls Tryz.prog 385 #[.int .u64 x] w fun e w' => e = .returned (.bool false) ∧ w = w' := by
 go_enter Tryz.func385, Tryz.ntmps385
 go_wp2
 go_ret
 exact ⟨by first | rfl | simp, rfl⟩
theorem cmpless_any (x y : Int) (w : World) : Calls Tryz.prog 384 #[.int .u64 x, .int .u64 y] w fun e w' => e = .returned (.bool (decide (x < y))) ∧ w = w' := by
 go_enter Tryz.func384, Tryz.ntmps384
 go_wp2_with fail
 refine (nan1_any x w).mono ?_
 rintro e w1 ⟨rfl, rfl⟩
 go_wp2
 go_ret
 exact ⟨by first | rfl | simp, rfl⟩
theorem sorted_getD {L : List Nat} (hs : L.Pairwise (· < ·)) {x y : Nat} (h : x ≤ y) (hy : y < L.length) : L.getD x 0 ≤ L.getD y 0 := by
 rw [List.getD_eq_getElem?_getD, List.getD_eq_getElem?_getD, List.getElem?_eq_getElem hy, List.getElem?_eq_getElem (by omega)]
 rcases Nat.lt_or_eq_of_le h with h | rfl
 ·exact Nat.le_of_lt (List.pairwise_iff_getElem.1 hs x y (by omega) hy h)
 ·exact Nat.le_refl _
theorem getD_at {L : List Nat} {j : Nat} (h : j < L.length) : L[j]'h = L.getD j 0 := by
 rw [List.getD_eq_getElem?_getD, List.getElem?_eq_getElem h]; rfl
def BsR (L : List Nat) (m : Nat) (e : Ending) : Prop := ∃ k : Nat, ∃ f : Bool, e = .returned (.tuple #[.int .i64 k, .bool f]) ∧ At' L m k ∧ (f = true ↔ k < L.length ∧ L.getD k 0 = m)
set_option maxRecDepth 100000 in
set_option maxHeartbeats 2000000 in
theorem bsearch_any (A : Option Addr) (c : Nat) (L : List Nat) (m : Nat) (w : World) (h : RdU w A (castL L)) (hs : L.Pairwise (· < ·)) (hl : L.length ≤ 4096) :
  Calls Tryz.prog 383 #[.slice A L.length c, .int .u64 m] w fun e w' => BsR L m e ∧ w = w' := by
 have HA := Lib.hid (fun j (hj : j < L.length) => h.atN j hj)
 have HS := Lib.hid (fun (x y : Nat) (h : x ≤ y) (hy : y < L.length) => sorted_getD hs h hy)
 obtain ⟨n, hn⟩ : ∃ n, L.length = n := ⟨_, rfl⟩
 rw [hn] at HA HS hl ⊢
 replace hn := Lib.hid hn
 clear h hs
 go_enter Tryz.func383, Tryz.ntmps383
 go_wp2
 go_loop [7, 8] (fun I J => ∃ i j : Nat, i ≤ j ∧ j ≤ n ∧ I = .int .i64 i ∧ J = .int .i64 j ∧ Hid (∀ x, x < i → L.getD x 0 < m) ∧ Hid (∀ x, j ≤ x → x < n → m ≤ L.getD x 0)) (fun I J => (intOf J).toNat - (intOf I).toNat)
 case atStart => exact ⟨0, n, by omega, by omega, rfl, rfl, Lib.hid (fun x hx => by omega), Lib.hid (fun x h1 h2 => by omega)⟩
 case round =>
  obtain ⟨i, j, hij, hjn, rfl, rfl, Hlo, Hhi⟩ := hrel
  by_cases hlt : i < j
  ·have hlt' : (i : Int) < j := by omega
   obtain ⟨H, hH⟩ : ∃ H, (i + j) / 2 = H := ⟨_, rfl⟩
   obtain ⟨g, o, rfl, hg, hc⟩ := HA.out H (by omega)
   have v1 : ((i : Int) + j) / 2 = (H : Int) := by omega
   have hHj : i ≤ H ∧ H < j := by omega
   obtain ⟨y, hy⟩ : ∃ y, L.getD H 0 = y := ⟨_, rfl⟩
   rw [hy] at hc
   replace hy := Lib.hid hy
   have k0 : (0 : Int) ≤ H := by omega
   have k1 : (H : Int) < n := by omega
   have v2 : IntKind.i64.wrap ((H : Int) + 1) = H + 1 := by simp only [IntKind.wrap_i64]; omega
   clear hH
   go_wp2_with fail
   refine (cmpless_any y m w).mono ?_
   rintro e w1 ⟨rfl, rfl⟩
   by_cases hym : y < m
   ·have hym' : (y : Int) < m := by omega
    have Hlo2 : Hid (∀ x, x < H + 1 → L.getD x 0 < m) := fun x hx => by
     have := HS.out x H (by omega) (by omega)
     rw [hy.out] at this
     omega
    clear Hlo
    go_wp2
    go_round
    case rel => exact ⟨H + 1, j, by omega, hjn, by go_num, rfl, Hlo2, Hhi⟩
    case measure => simp [intOf]; omega
   ·have hym' : ¬ (y : Int) < m := by omega
    have Hhi2 : Hid (∀ x, H ≤ x → x < n → m ≤ L.getD x 0) := fun x h1 h2 => by
     have := HS.out H x h1 (by omega)
     rw [hy.out] at this
     omega
    clear Hhi
    go_wp2
    go_round
    case rel => exact ⟨i, H, by omega, by omega, rfl, rfl, Hlo, Hhi2⟩
    case measure => simp [intOf]; omega
  ·obtain rfl : i = j := by omega
   have HAt : Hid (At' L m i) := ⟨by rw [hn.out]; omega, fun j hj h => by rw [getD_at]; exact Hlo.out j h, fun h => by rw [getD_at]; exact Hhi.out i (Nat.le_refl _) (by rw [← hn.out]; exact h)⟩
   clear Hlo Hhi HS
   by_cases hin : i < n
   ·obtain ⟨g, o, rfl, hg, hc⟩ := HA.out i hin
    obtain ⟨y, hy⟩ : ∃ y, L.getD i 0 = y := ⟨_, rfl⟩
    rw [hy] at hc
    replace hy := Lib.hid hy
    have k0 : (0 : Int) ≤ i := by omega
    have k1 : (i : Int) < n := by omega
    by_cases e : y = m
    ·have HE : Hid (L.getD i 0 = m) := hy.out.trans e
     subst e
     clear hy
     go_wp2
     go_ret2
     exact ⟨⟨i, true, rfl, HAt.out, ⟨fun _ => ⟨by rw [hn.out]; exact hin, HE.out⟩, fun _ => rfl⟩⟩, rfl⟩
    ·have e' : ((y : Int) == (m : Int)) = false := beq_eq_false_iff_ne.2 (by omega)
     have HNe := Lib.hid e
     clear e
     go_wp2_with fail
     refine (nan2_any y w).mono ?_
     rintro e w1 ⟨rfl, rfl⟩
     go_wp2
     go_ret2
     exact ⟨⟨i, false, rfl, HAt.out, ⟨fun h => (by cases h), fun h => absurd (hy.out.symm.trans h.2) HNe.out⟩⟩, rfl⟩
   ·obtain rfl : i = n := by omega
    have hin' : ¬ (i : Int) < i := by omega
    clear HA
    go_wp2
    go_ret2
    exact ⟨⟨i, false, rfl, HAt.out, ⟨fun h => (by cases h), fun h => absurd (h.1) (by rw [hn.out]; exact Nat.lt_irrefl _)⟩⟩, rfl⟩
def cellAt (L : List Nat) (m : Nat) (i : Nat) : Prop := i < L.length ∧ L.getD i 0 ≤ m ∧ (i + 1 < L.length → m < L.getD (i + 1) 0)
def IxR (L : List Nat) (m : Nat) (e : Ending) : Prop := ((m = 0 ∨ mostN < m) ∧ e = .returned (.tuple #[.int .i64 0, .bool false])) ∨ (1 ≤ m ∧ m ≤ mostN ∧ ∃ i : Nat, e = .returned (.tuple #[.int .i64 i, .bool true]) ∧ cellAt L m i)
set_option maxRecDepth 100000 in
theorem cindex_any (b : Nat) (u v : Int) (L R : List Nat) (m : Nat) (w : World) (h : Tab w b u v L R) (hs : L.Pairwise (· < ·)) (h0 : 0 < L.length) (h1 : L.getD 0 0 = 1) (hm : m < 18446744073709551616) :
  Calls Tryz.prog 380 #[.pointer (some ⟨b, 0, none⟩), .int .u64 m] w fun e w' =>
   IxR L m e ∧ w = w' := by
 obtain ⟨⟨A, c, A2, c2, t1, t2, t3⟩, h4, h5⟩ := h
 have f1 := t1.four.1
 by_cases a : m = 0
 ·subst a
  clear t1 t2 t3
  go_enter Tryz.func380, Tryz.ntmps380
  go_wp2
  go_ret2
  exact ⟨.inl ⟨.inl rfl, rfl⟩, rfl⟩
 have a' : ((m : Int) == 0) = false := beq_eq_false_iff_ne.2 (by omega)
 by_cases a2 : mostN < m
 ·have a2' : (9223372036854775808 : Int) < m := by unfold mostN at a2; omega
  have HM := Lib.hid a2
  clear t1 t2 t3 a2
  go_enter Tryz.func380, Tryz.ntmps380
  go_wp2
  go_ret2
  exact ⟨.inl ⟨.inr HM.out, rfl⟩, rfl⟩
 have a2' : ¬ (9223372036854775808 : Int) < m := by unfold mostN at a2; omega
 have HM : Hid (1 ≤ m ∧ m ≤ mostN) := ⟨by omega, by omega⟩
 have H0 := Lib.hid h0
 have H1 := Lib.hid h1
 clear a a2 h0 h1
 go_enter Tryz.func380, Tryz.ntmps380
 go_wp2_with fail
 refine (bsearch_any A c L m w t2 hs h4).mono ?_
 rintro e w1 ⟨⟨k, f, rfl, HAt, Hf⟩, rfl⟩
 have HC : Hid (cellAt L m (if f = true then k else k - 1) ∧ (f = false → 1 ≤ k) ∧ k ≤ 4096) := by
  have z0 := H0.out
  have z1 := H1.out
  have z2 := HM.out
  have zle := HAt.le
  refine ⟨?_, ?_, by omega⟩
  ·cases f with
   | true =>
    obtain ⟨k1, k2⟩ := Hf.1 rfl
    rw [if_pos rfl]
    refine ⟨k1, by omega, fun h => ?_⟩
    have := List.pairwise_iff_getElem.1 hs k (k + 1) k1 h (by omega)
    rw [getD_at, getD_at] at this
    omega
   | false =>
    have hk : 1 ≤ k := by
     rcases Nat.eq_zero_or_pos k with rfl | h
     ·have h1 := HAt.over z0
      rw [getD_at] at h1
      have : ¬ (0 < L.length ∧ L.getD 0 0 = m) := fun h => by have := Hf.2 h; cases this
      exact absurd ⟨z0, by omega⟩ this
     ·exact h
    have h2 := HAt.under (k - 1) (by omega) (by omega)
    rw [getD_at] at h2
    rw [if_neg (by decide)]
    refine ⟨by omega, by omega, fun h => ?_⟩
    rw [Nat.sub_add_cancel hk] at h ⊢
    have h3 := HAt.over h
    rw [getD_at] at h3
    rcases Nat.lt_or_eq_of_le h3 with h4 | h4
    ·exact h4
    ·have := Hf.2 ⟨h, h4.symm⟩; cases this
  ·rintro rfl
   rcases Nat.eq_zero_or_pos k with rfl | h
   ·have h1 := HAt.over z0
    rw [getD_at] at h1
    have : ¬ (0 < L.length ∧ L.getD 0 0 = m) := fun h => by have := Hf.2 h; cases this
    exact absurd ⟨z0, by omega⟩ this
   ·exact h
 clear HAt Hf t1 t2 t3 hs
 cases f with
 | true =>
  go_wp2
  go_ret2
  exact ⟨.inr ⟨HM.out.1, HM.out.2, k, rfl, HC.out.1⟩, rfl⟩
 | false =>
  have hk := HC.out.2.1 rfl
  have hk2 := HC.out.2.2
  have v1 : IntKind.i64.wrap ((k : Int) - 1) = ((k - 1 : Nat) : Int) := by simp only [IntKind.wrap_i64]; omega
  go_wp2
  go_ret2
  exact ⟨.inr ⟨HM.out.1, HM.out.2, k - 1, rfl, HC.out.1⟩, rfl⟩
end Go.Proofs.YtlbnlmhcpephbaaGreatDoor
namespace Go.Proofs.YtlbnlmhcpephbaaGreatDoor
open Go.RowKit
theorem opwp_append_u64 {o : Oper} {a : Act} {K : Act → World → Prop} {Q : Exit → Act → World → Prop} {w : World} (s x : Operand)
  (ho : o.op = .call { callee := .builtin .append, args := #[s, x], argTypes := #[81, 81] })
  (base : Nat) (A : Option Addr) (cap n : Nat) (xs : List Int) (hs : a.eval s = .slice A n cap) (hn : xs.length = n) (hown : OwnU base w A cap xs)
  (ad : Addr) (c : Nat) (p : Int) (hx : a.eval x = .slice (some ad) 1 c) (h0 : w.cell? (ad.add 0) = some (.int .u64 p))
  (hlen : n ≤ 1099511627776) (hbase : base ≤ w.heap.size)
  (h : ∀ A' cap' w', Hid (OwnU base w' A' cap' (xs ++ [p])) → Hid (w.grownBy w' (Value.slice A n cap).ownBlock) → Hid (∀ B : Option Addr, SepA A B → (∀ b, B = some b → b.block < w.heap.size) → SepA A' B) → K (a.put o.dst (.slice A' (n + 1) cap')) w') :
  Oper.wp Tryz.prog o a w K Q := by
 subst hn
 obtain ⟨i, hi, hz, hsz, hby⟩ : ∃ i, Tryz.prog.info? 23 = some i ∧ i.zero = some (.int .u64 0) ∧ i.size = 1 ∧ i.bytes = 8 := by
  have := Tryz.infoU
  cases hh : Tryz.prog.info? 23 with
  | none => rw [hh] at this; cases this
  | some i =>
   rw [hh] at this
   simp only [Option.map_some, Option.some.injEq, Prod.mk.injEq] at this
   exact ⟨i, rfl, this.1, this.2.1, this.2.2⟩
 have hnews : ∀ j u, [Value.int .u64 p][j]? = some u → w.cell? (ad.add j) = some u := by
  intro j u hj
  match j, hj with
  | 0, hj => simp only [List.getElem?_cons_zero, Option.some.injEq] at hj; subst hj; exact h0
 obtain ⟨v', w', hr, hown', hg, _, hblk⟩ := run_append_own_at (P := Tryz.prog) w base 81 o.type _ i _ 1 8 Tryz.underlyingU hi hz hsz hby rfl (by decide) _ xs.length (xs.map (Value.int .u64)) hown ad 1 c [.int .u64 p] rfl hnews
  (by intro u hu; simp only [List.mem_singleton] at hu; subst hu; rfl) (by simp only [maxLen]; omega) (by omega) hbase
 unfold Oper.wp execOp
 simp only [ho, resolve, invoke, builtin, Sem.run_bind, Sem.run_pure, Result.andThen_ok, List.map_toArray, List.map_cons, List.map_nil, hs, hx, hr]
 have hl : (xs ++ [p]).length = xs.length + 1 := by simp
 have hm : (xs ++ [p]).map (Value.int .u64) = xs.map (Value.int .u64) ++ [.int .u64 p] := by simp
 rw [← hm] at hown'
 rcases hown'.2 with ⟨e, hn⟩ | ⟨g, cp, cur, rfl, r⟩
 ·omega
 ·refine h _ _ _ (by show OwnU _ _ _ _ _; unfold OwnU; rw [hl]; exact hown') hg ?_
  intro B hs hB a' b' ha hb e
  cases ha
  simp only [Value.ownBlock] at hblk
  rcases hblk with hblk | hblk
  ·cases A with
   | none => simp at hblk
   | some a =>
    simp only [Option.some.injEq] at hblk
    exact hs a b' rfl hb (hblk.symm.trans e)
  ·simp only [Option.some.injEq] at hblk
   have := hB b' hb
   have e' : g = b'.block := e
   omega
structure Tb (w0 : World) (B0 b : Nat) (u v : Int) (W : World) (fa fb : Value) (A : Option Addr) (c : Nat) (xs : List Int) (A2 : Option Addr) (c2 : Nat) (ys : List Int) : Prop where
 tab : At W b #[.int .u64 u, .int .u64 v, fa, fb] 198
 own1 : OwnU (b + 1) W A c xs
 own2 : OwnU (b + 1) W A2 c2 ys
 sep : SepA A A2
 arg : At W B0 #[.int .u64 u, .int .u64 v] 25
 below : Below w0.heap.size w0 W
 lt : B0 < b
 le : w0.heap.size ≤ B0
section
variable {w0 W W' : World} {B0 b : Nat} {u v : Int} {fa fb : Value} {A A2 : Option Addr} {c c2 : Nat} {xs ys : List Int}
theorem Tb.belowW (h : Tb w0 B0 b u v W fa fb A c xs A2 c2 ys) (hb : Below W.heap.size W W') : Tb w0 B0 b u v W' fa fb A c xs A2 c2 ys :=
 ⟨h.tab.below hb, h.own1.below hb, h.own2.below hb, h.sep, h.arg.below hb, h.below.trans (hb.mono h.below.size), h.lt, h.le⟩
theorem Tb.alloc (h : Tb w0 B0 b u v W fa fb A c xs A2 c2 ys) (o : Obj) : Tb w0 B0 b u v (W.alloc o) fa fb A c xs A2 c2 ys := h.belowW ((Below.refl _ _).alloc (Nat.le_refl _) o)
theorem Tb.drew (h : Tb w0 B0 b u v W fa fb A c xs A2 c2 ys) : Tb w0 B0 b u v W.drew fa fb A c xs A2 c2 ys := h.belowW (Below.refl _ _).drew
theorem Tb.base (h : Tb w0 B0 b u v W fa fb A c xs A2 c2 ys) : b + 1 ≤ W.heap.size := h.tab.lt
theorem own_ne {base n : Nat} (h : OwnU base W A c xs) {k : Nat} (hk : k < base) : some k ≠ (Value.slice A n c).ownBlock := by
 intro e
 cases A with
 | none => simp [Value.ownBlock] at e
 | some g => simp only [Value.ownBlock, Option.some.injEq] at e; have := (h.base_le g rfl).1; omega
theorem own_ne2 {base n : Nat} (h : OwnU base W A c xs) {k : Nat} (hk : W.heap.size ≤ k) : some k ≠ (Value.slice A n c).ownBlock := by
 intro e
 cases A with
 | none => simp [Value.ownBlock] at e
 | some g => simp only [Value.ownBlock, Option.some.injEq] at e; have := (h.base_le g rfl).2; omega
theorem At.app {n k : Nat} {cs : Array Value} {T : TypeId} (h : At W k cs T) (hg : W.grownBy W' (Value.slice A n c).ownBlock) (hn : some k ≠ (Value.slice A n c).ownBlock) : At W' k cs T := (hg.block k h.lt hn).trans h
theorem SepA.symm (h : SepA A A2) : SepA A2 A := fun a b ha hb e => h b a hb ha e.symm
theorem Tb.app1 {n c' : Nat} {A' : Option Addr} {p : Int} (h : Tb w0 B0 b u v W fa fb A c xs A2 c2 ys) (ho : OwnU (b + 1) W' A' c' (xs ++ [p])) (hg : W.grownBy W' (Value.slice A n c).ownBlock)
  (hs : ∀ B : Option Addr, SepA A B → (∀ b, B = some b → b.block < W.heap.size) → SepA A' B) : Tb w0 B0 b u v W' fa fb A' c' (xs ++ [p]) A2 c2 ys :=
 ⟨h.tab.app hg (own_ne h.own1 (by omega)), ho, h.own2.kept hg h.sep, hs A2 h.sep fun b hb => (h.own2.base_le b hb).2, h.arg.app hg (own_ne h.own1 (by have := h.lt; omega)),
  h.below.grown hg h.below.size fun k hk => by
   cases A with
   | none => simp [Value.ownBlock] at hk
   | some g => simp only [Value.ownBlock, Option.some.injEq] at hk; have := (h.own1.base_le g rfl).1; have := h.lt; have := h.le; omega, h.lt, h.le⟩
theorem Tb.app2 {n c' : Nat} {A' : Option Addr} {p : Int} (h : Tb w0 B0 b u v W fa fb A c xs A2 c2 ys) (ho : OwnU (b + 1) W' A' c' (ys ++ [p])) (hg : W.grownBy W' (Value.slice A2 n c2).ownBlock)
  (hs : ∀ B : Option Addr, SepA A2 B → (∀ b, B = some b → b.block < W.heap.size) → SepA A' B) : Tb w0 B0 b u v W' fa fb A c xs A' c' (ys ++ [p]) :=
 ⟨h.tab.app hg (own_ne h.own2 (by omega)), h.own1.kept hg h.sep.symm, ho, (hs A h.sep.symm fun b hb => (h.own1.base_le b hb).2).symm, h.arg.app hg (own_ne h.own2 (by have := h.lt; omega)),
  h.below.grown hg h.below.size fun k hk => by
   cases A2 with
   | none => simp [Value.ownBlock] at hk
   | some g => simp only [Value.ownBlock, Option.some.injEq] at hk; have := (h.own2.base_le g rfl).1; have := h.lt; have := h.le; omega, h.lt, h.le⟩
theorem OwnU.set {base k i : Nat} (h : OwnU base W A c xs) (hk : k < base) (x : Value) : OwnU base (W.setCell ⟨k, i, none⟩ x) A c xs := by
 obtain ⟨h1, h2⟩ := h
 refine ⟨h1, ?_⟩
 rcases h2 with h2 | ⟨g, cp, cur, e, hg, hc, r⟩
 ·exact .inl h2
 ·exact .inr ⟨g, cp, cur, e, hg, (Below.heap_setCell W ⟨k, i, none⟩ x g (by show g ≠ k; omega)).trans hc, r⟩
theorem Tb.set1 (h : Tb w0 B0 b u v W fa fb A c xs A2 c2 ys) (x : Value) : Tb w0 B0 b u v (W.setCell ⟨b, 2, none⟩ x) x fb A c xs A2 c2 ys :=
 ⟨h.tab.set_any 2 x rfl, h.own1.set (by omega) x, h.own2.set (by omega) x, h.sep, h.arg.set_other (by have := h.lt; show B0 ≠ b; omega) x, h.below.setCell (p := ⟨b, 2, none⟩) (by have := h.lt; have := h.le; show w0.heap.size ≤ b; omega) x, h.lt, h.le⟩
theorem Tb.set2 (h : Tb w0 B0 b u v W fa fb A c xs A2 c2 ys) (x : Value) : Tb w0 B0 b u v (W.setCell ⟨b, 3, none⟩ x) fa x A c xs A2 c2 ys :=
 ⟨h.tab.set_any 3 x rfl, h.own1.set (by omega) x, h.own2.set (by omega) x, h.sep, h.arg.set_other (by have := h.lt; show B0 ≠ b; omega) x, h.below.setCell (p := ⟨b, 3, none⟩) (by have := h.lt; have := h.le; show w0.heap.size ≤ b; omega) x, h.lt, h.le⟩
end
theorem ite_ofN {c : Prop} [Decidable c] {A B : Prop} (h : c) (a : A) : if c then A else B := by rw [if_pos h]; exact a
def TabW (b : Nat) (u v : Int) (fa fb : Value) (W : World) : Prop := At W b #[.int .u64 u, .int .u64 v, fa, fb] 198
theorem TabW.at {b : Nat} {u v : Int} {fa fb : Value} {W : World} (h : TabW b u v fa fb W) : At W b #[.int .u64 u, .int .u64 v, fa, fb] 198 := h
theorem cellsF_step {u v f low : Nat} {L0 : List Nat} {V : Option (List Nat)} (h : V = (cellsF u v (f + 1) low).map (L0 ++ ·)) (hl : low ≤ mostN) : V = (cellsF u v f (highN u v low + 1)).map ((L0 ++ [low]) ++ ·) := by
 rw [h, cellsF, if_neg (by omega)]
 cases cellsF u v f (highN u v low + 1) <;> simp
def NewR (u v : Nat) (e : Ending) (w' : World) : Prop := match cellsF u v 4096 1 with
 | none => e = .returned (.tuple #[.pointer none, .int .i64 6])
 | some L => ∃ b, e = .returned (.tuple #[.pointer (some ⟨b, 0, none⟩), .int .i64 0]) ∧ Tab w' b u v L (L.map (repN u v))
def TabN (n0 : Nat) (W : World) (b : Nat) (u v : Int) (L R : List Nat) : Prop := n0 ≤ b ∧ ∃ A c A2 c2, At W b #[.int .u64 u, .int .u64 v, .slice A L.length c, .slice A2 R.length c2] 198 ∧ RdU W A (castL L) ∧ RdU W A2 (castL R) ∧ (∀ g, A = some g → n0 ≤ g.block) ∧ (∀ g, A2 = some g → n0 ≤ g.block)
def NewN (u v n0 : Nat) (e : Ending) (w' : World) : Prop := match cellsF u v 4096 1 with
 | none => e = .returned (.tuple #[.pointer none, .int .i64 6])
 | some L => ∃ b, e = .returned (.tuple #[.pointer (some ⟨b, 0, none⟩), .int .i64 0]) ∧ TabN n0 w' b u v L (L.map (repN u v))
set_option maxRecDepth 100000 in
set_option maxHeartbeats 4000000 in
theorem cnew_own (u v : Nat) (w : World) (hu0 : 0 < u) (hu : u < v) (hv : v ≤ 2147483648) :
  Calls Tryz.prog 56 #[.agg #[.int .u64 u, .int .u64 v]] w fun e w' => NewN u v w.heap.size e w' ∧ Below w.heap.size w w' := by
 have hg : goodC (u : Int) (v : Int) = true := goodC_iff.2 ⟨by omega, by omega, by omega⟩
 go_enter Tryz.func56, Tryz.ntmps56
 go_wp2_with fail
 refine (cgood_any u v _ (by omega) (by omega) (by omega) (by omega)).mono ?_
 rintro e w1 ⟨rfl, hb⟩
 rw [hg]
 have s1 : At w1 w.heap.size #[.int .u64 u, .int .u64 v] 25 := At.below (At.new' _ _ _ rfl) hb
 have hB : Below w.heap.size w w1 := Below.trans (by repeat (first | with_reducible assumption | with_reducible exact Below.refl _ _ | with_reducible refine Below.drew ?_ | with_reducible refine Below.drewN ?_ _ | with_reducible refine Below.setCell ?_ (by first | omega | (simp; done) | (simp; omega)) _ | with_reducible refine Below.alloc ?_ (by first | omega | (simp; done) | (simp; omega) | (simp [World.setCell]; omega)) _)) (hb.mono (by first | omega | (simp; done) | (simp; omega) | (simp [World.setCell]; omega)))
 have f1 := s1.two
 have l1 := s1.lt
 clear hb hg
 go_wp2
 obtain ⟨b, hbe⟩ : ∃ b, w1.heap.size = b := ⟨_, rfl⟩
 obtain ⟨B0, hB0⟩ : ∃ B0, w.heap.size = B0 := ⟨_, rfl⟩
 refine gen_world (fun W => Hid (Tb w B0 b u v W (.slice none 0 0) (.slice none 0 0) none 0 [] none 0 [])) ?_ ?_
 ·exact ⟨At.new' _ _ _ hbe.symm, OwnU.nil _ _, OwnU.nil _ _, fun a b h => (by cases h), by rw [← hB0]; exact s1.alloc _, (by repeat (first | with_reducible assumption | with_reducible exact Below.refl _ _ | with_reducible refine Below.drew ?_ | with_reducible refine Below.drewN ?_ _ | with_reducible refine Below.setCell ?_ (by first | omega | (simp; done) | (simp; omega)) _ | with_reducible refine Below.alloc ?_ (by first | omega | (simp; done) | (simp; omega) | (simp [World.setCell]; omega)) _)), by omega, by omega⟩
 rintro W HT
 simp only [hbe, hB0]
 clear hbe hB0 s1 hB f1 l1
 obtain ⟨V, hV⟩ : ∃ V, Hid (cellsF u v 4096 1 = V) := ⟨_, rfl⟩
 go_loopw [5] (fun lv wr => ∃ (n low : Nat) (L0 : List Nat) (A : Option Addr) (c : Nat) (A2 : Option Addr) (c2 : Nat), n ≤ 4096 ∧ Hid (L0.length = n) ∧ lv = .int .u64 low ∧ 1 ≤ low ∧ low ≤ 9223372036854775809 ∧ Hid (Tb w B0 b u v wr (.slice A n c) (.slice A2 n c2) A c (castL L0) A2 c2 (castL (L0.map (repN u v)))) ∧
   Hid (V = (cellsF u v (4096 - n) low).map (L0 ++ ·))) (fun lv _ => 9223372036854775809 - (intOf lv).toNat)
 case atStart => exact ⟨0, 1, [], none, 0, none, 0, by omega, rfl, rfl, by omega, by omega, HT, by show _ = _; rw [← hV.out]; simp⟩
 case round =>
  clear HT
  obtain ⟨n, low, L0, A, c, A2, c2, hn, hL, rfl, hl1, hl2, HT, HC⟩ := hrel
  have fT := HT.out.tab.four
  have fA := HT.out.arg.two
  by_cases hle : low ≤ 9223372036854775808
  ·have hle' : (low : Int) ≤ 9223372036854775808 := by omega
   by_cases hfull : n = 4096
   ·subst hfull
    have HN : Hid (cellsF u v 4096 1 = none) := by
     show _ = _
     rw [hV.out, HC.out, Nat.sub_self, cellsF, if_neg (by unfold mostN; omega)]
     rfl
    have hbel := HT.out.below
    clear hV HC hL
    go_wp2
    go_ret2
    exact ⟨by unfold NewN; rw [HN.out]; rfl, hbel⟩
   ·have hn' : ¬ (4096 : Int) ≤ n := by omega
    go_wp2_with fail
    refine (next_any u v low _ hu0 hu hv hle).mono ?_
    rintro e w2 ⟨rfl, hb⟩
    have hz := HT.out.tab.lt
    replace HT := Lib.hid (HT.out.belowW hb)
    have hh1 := highN_ge (u := u) (v := v) (low := low) hu hle
    have hh2 := highN_le (u := u) (v := v) (low := low)
    have HC2 : Hid (V = (cellsF u v (4096 - (n + 1)) (highN u v low + 1)).map ((L0 ++ [low]) ++ ·)) := cellsF_step (by rw [show 4096 - (n + 1) + 1 = 4096 - n by omega]; exact HC.out) hle
    obtain ⟨r, hr⟩ : ∃ r, repN u v low = r := ⟨_, rfl⟩
    obtain ⟨h, hh⟩ : ∃ h, highN u v low = h := ⟨_, rfl⟩
    have HR : Hid (castL ((L0 ++ [low]).map (repN u v)) = castL (L0.map (repN u v)) ++ [(r : Int)]) := by show _ = _; rw [List.map_append, castL, List.map_append, ← hr]; rfl
    have HL : Hid (castL (L0 ++ [low]) = castL L0 ++ [(low : Int)]) := castL_append _ _
    rw [hh] at hh1 hh2 HC2
    rw [hr, hh]
    have hbase := HT.out.base
    have hlen1 := Lib.hid (show (castL L0).length = n by rw [castL_length]; exact hL.out)
    have hlen2 := Lib.hid (show (castL (L0.map (repN u v))).length = n by rw [castL_length, List.length_map]; exact hL.out)
    have hLn := hL
    clear hr hh hb HC fT fA hz hL
    unfold mostN at hh2
    go_upto_region 9 with fail
    have fT := HT.out.tab.drew.four
    refine wp_region_noPanic ?_
    refine wp_region_until (S := HeldS (TabW b u v (.slice A n c) (.slice A2 n c2))) 18 (by kernel_rfl) ?_
    replace HT := Lib.hid HT.out.drew
    replace hbase : b + 1 ≤ w2.drew.heap.size := hbase
    obtain ⟨W0, hW0⟩ : ∃ W0, w2.drew = W0 := ⟨_, rfl⟩
    rw [hW0] at HT hbase fT ⊢
    have hHeld : HeldS (TabW b u v (.slice A n c) (.slice A2 n c2)) W0 := HeldS.mk' HT.out.tab
    have hne : Nonempty (Held (TabW b u v (.slice A n c) (.slice A2 n c2))) := ⟨⟨W0, HT.out.tab⟩⟩
    clear hW0 fT
    have hfarT := fun x : Held (TabW b u v (.slice A n c) (.slice A2 n c2)) => x.held.at.four
    have hneF : Nonempty (Held fun _ => True) := ⟨⟨W0, trivial⟩⟩
    refine wpAnyU_run0F [true, true, true, true, true, false, true, false, false, true, true, true, false, true] 12 (by kernel_rfl) (by kernel_rfl) (fun _ _ _ _ h => h) (by kernel_rfl) hHeld ?_
    simp only [runOps_true, runOps_false, runOps_nil]
    repeat (first | go_big_quiet_skip | (go_big_quiet_want; go_big_quiet_op; go_big_quiet_on))
    refine wpQuiet_nil ?_
    refine wpAnyU_run0 [false, false, false, false, false, true, false, false, false, false, false, false, true] 10 (by kernel_rfl) (by kernel_rfl) (fun _ _ _ _ h => h) (by kernel_rfl) hHeld ?_
    simp only [runOps_true, runOps_false, runOps_nil]
    repeat (first | go_big_quiet_skip | (go_big_quiet_want; go_big_quiet_op; go_big_quiet_on))
    refine wpQuiet_nil ?_
    clear hfarT hne hneF
    have NE : Hid (∀ k, W0.heap.size ≤ k → some k ≠ (Value.slice A n c).ownBlock) := fun k hk => own_ne2 HT.out.own1 hk
    have hsz0 : W0.heap.size ≤ W0.heap.size := Nat.le_refl _
    refine wpAnyU_ready (rs := [7, 14]) (by kernel_rfl) (by simp) ?_
    refine AllReadyU.cons rfl (fun K hK => ?_) (AllReadyU.cons rfl (fun K hK => ?_) (AllReadyU.nil))
    ·go_simp
     go_wp2
     refine hK.out _ _ (fun _ => HeldS.mk' (HT.out.alloc _).tab) ?_
     clear hK K
     have E1 := At.new W0 #[.int .u64 low] 23
     obtain ⟨e1, he1⟩ : ∃ e, W0.heap.size = e := ⟨_, rfl⟩
     replace HT := Lib.hid (HT.out.alloc (.cells #[.int .u64 low] 23))
     have le1 : W0.heap.size ≤ e1 := by omega
     have hsz1 : W0.heap.size ≤ (W0.alloc (.cells #[.int .u64 low] 23)).heap.size := (by first | omega | (simp; done) | (simp; omega) | (simp [World.setCell]; omega))
     generalize W0.alloc (.cells #[.int .u64 low] 23) = W1 at HT E1 hsz1 ⊢
     simp only [he1] at E1 ⊢
     clear he1
     refine wpAnyU_ready (rs := [8, 14]) (by kernel_rfl) (by simp) ?_
     refine AllReadyU.cons rfl (fun K hK => ?_) (AllReadyU.cons rfl (fun K hK => ?_) (AllReadyU.nil))
     ·refine ite_ofN rfl ?_
      refine opwp_append_u64 _ _ rfl (b + 1) A c n (castL L0) rfl hlen1.out HT.out.own1 ⟨e1, 0, none⟩ 1 low rfl (by rw [Addr.add_lit]; exact E1.one.1) (by omega) HT.out.base ?_
      intro A1 c1 W2 HO HG HS
      simp only [Act.put, List.setIfInBounds_toArray, List.set_cons_zero, List.set_cons_succ]
      refine hK.out _ _ (fun _ => HeldS.mk' (HT.out.tab.app HG.out (own_ne HT.out.own1 (by omega)))) ?_
      clear hK K
      have hsz2 := Nat.le_trans hsz1 HG.out.size
      replace HT := Lib.hid (HT.out.app1 HO.out HG.out HS.out)
      clear HO HG HS E1
      refine wpAnyU_ready (rs := [14]) (by kernel_rfl) (by simp) ?_
      refine AllReadyU.cons rfl (fun K hK => ?_) (AllReadyU.nil)
      go_simp
      go_wp2
      refine hK.out _ _ (fun _ => HeldS.mk' (HT.out.alloc _).tab) ?_
      clear hK K
      have E2 := At.new W2 #[.int .u64 r] 23
      obtain ⟨e2, he2⟩ : ∃ e, W2.heap.size = e := ⟨_, rfl⟩
      replace HT := Lib.hid (HT.out.alloc (.cells #[.int .u64 r] 23))
      have le2 : W0.heap.size ≤ e2 := by have := hsz2; omega
      have hsz3 : W0.heap.size ≤ (W2.alloc (.cells #[.int .u64 r] 23)).heap.size := (by first | omega | (simp; done) | (simp; omega) | (simp [World.setCell]; omega))
      generalize W2.alloc (.cells #[.int .u64 r] 23) = W3 at HT E2 hsz3 ⊢
      simp only [he2] at E2 ⊢
      clear he2
      refine wpAnyU_ready (rs := [15]) (by kernel_rfl) (by simp) ?_
      refine AllReadyU.cons rfl (fun K hK => ?_) (AllReadyU.nil)
      refine ite_ofN rfl ?_
      refine opwp_append_u64 _ _ rfl (b + 1) A2 c2 n (castL (L0.map (repN u v))) rfl hlen2.out HT.out.own2 ⟨e2, 0, none⟩ 1 r rfl (by rw [Addr.add_lit]; exact E2.one.1) (by omega) HT.out.base ?_
      intro A3 c3 W4 HO HG HS
      simp only [Act.put, List.setIfInBounds_toArray, List.set_cons_zero, List.set_cons_succ]
      refine hK.out _ _ (fun _ => HeldS.mk' (HT.out.tab.app HG.out (own_ne HT.out.own2 (by omega)))) ?_
      clear hK K
      replace HT := Lib.hid (HT.out.app2 HO.out HG.out HS.out)
      clear HO HG HS E2
      refine wpAnyU_ready (rs := [16]) (by kernel_rfl) (by simp) ?_
      refine AllReadyU.cons rfl (fun K hK => ?_) (AllReadyU.nil)
      go_simp
      go_wp2
      refine hK.out _ _ (fun _ => HeldS.mk' HT.out.tab) ?_
      clear hK K
      refine wpAnyU_ready (rs := [17]) (by kernel_rfl) (by simp) ?_
      refine AllReadyU.cons rfl (fun K hK => ?_) (AllReadyU.nil)
      go_simp
      go_wp2
      refine hK.out _ _ (fun _ => HeldS.mk' HT.out.tab) ?_
      clear hK K
      refine wpAnyU_ready (rs := [18]) (by kernel_rfl) (by simp) ?_
      refine AllReadyU.cons rfl (fun K hK => ?_) (AllReadyU.nil)
      have fT := HT.out.tab.four
      go_simp
      go_wp2
      refine hK.out _ _ (fun h => late_no h (by kernel_rfl)) ?_
      clear hK K fT
      replace HT := Lib.hid (HT.out.set1 (.slice A1 (n + 1) c1))
      refine wpAnyU_ready (rs := [19]) (by kernel_rfl) (by simp) ?_
      refine AllReadyU.cons rfl (fun K hK => ?_) (AllReadyU.nil)
      go_simp
      go_wp2
      refine hK.out _ _ (fun h => late_no h (by kernel_rfl)) ?_
      clear hK K
      refine wpAnyU_ready (rs := [20]) (by kernel_rfl) (by simp) ?_
      refine AllReadyU.cons rfl (fun K hK => ?_) (AllReadyU.nil)
      go_simp
      go_wp2
      refine hK.out _ _ (fun h => late_no h (by kernel_rfl)) ?_
      clear hK K
      refine wpAnyU_ready (rs := [21]) (by kernel_rfl) (by simp) ?_
      refine AllReadyU.cons rfl (fun K hK => ?_) (AllReadyU.nil)
      have fT := HT.out.tab.four
      go_simp
      go_wp2
      refine hK.out _ _ (fun h => late_no h (by kernel_rfl)) ?_
      clear hK K fT
      replace HT := Lib.hid (HT.out.set2 (.slice A3 (n + 1) c3))
      refine wpAnyU_done (by kernel_rfl) ?_ _
      refine NoPanic.normal ?_
      rw [← HL.out, ← HR.out] at HT
      have vh : IntKind.u64.wrap ((h : Int) + 1) = ((h + 1 : Nat) : Int) := by simp only [IntKind.wrap_u64]; omega
      go_wp2
      go_roundw
      case rel => exact ⟨n + 1, h + 1, L0 ++ [low], A1, c1, A3, c3, by omega, by show _ = _; rw [List.length_append, hLn.out]; rfl, by go_num, by omega, by omega, HT, HC2⟩
      case measure => simp [intOf]; omega
     ·go_simp
      go_wp2
      refine hK.out _ _ (fun _ => HeldS.mk' (HT.out.alloc _).tab) ?_
      clear hK K
      have E2 := At.new W1 #[.int .u64 r] 23
      obtain ⟨e2, he2⟩ : ∃ e, W1.heap.size = e := ⟨_, rfl⟩
      replace E1 := E1.alloc (.cells #[.int .u64 r] 23)
      replace HT := Lib.hid (HT.out.alloc (.cells #[.int .u64 r] 23))
      have le2 : W0.heap.size ≤ e2 := by have := hsz1; omega
      have hsz2 : W0.heap.size ≤ (W1.alloc (.cells #[.int .u64 r] 23)).heap.size := (by first | omega | (simp; done) | (simp; omega) | (simp [World.setCell]; omega))
      generalize W1.alloc (.cells #[.int .u64 r] 23) = W2 at HT E2 E1 hsz2 ⊢
      simp only [he2] at E2 ⊢
      clear he2
      refine wpAnyU_ready (rs := [8]) (by kernel_rfl) (by simp) ?_
      refine AllReadyU.cons rfl (fun K hK => ?_) (AllReadyU.nil)
      refine ite_ofN rfl ?_
      refine opwp_append_u64 _ _ rfl (b + 1) A c n (castL L0) rfl hlen1.out HT.out.own1 ⟨e1, 0, none⟩ 1 low rfl (by rw [Addr.add_lit]; exact E1.one.1) (by omega) HT.out.base ?_
      intro A1 c1 W3 HO HG HS
      simp only [Act.put, List.setIfInBounds_toArray, List.set_cons_zero, List.set_cons_succ]
      refine hK.out _ _ (fun _ => HeldS.mk' (HT.out.tab.app HG.out (own_ne HT.out.own1 (by omega)))) ?_
      clear hK K
      replace E2 := E2.app HG.out (NE.out _ le2)
      have hsz3 := Nat.le_trans hsz2 HG.out.size
      replace HT := Lib.hid (HT.out.app1 HO.out HG.out HS.out)
      clear HO HG HS E1
      refine wpAnyU_ready (rs := [15]) (by kernel_rfl) (by simp) ?_
      refine AllReadyU.cons rfl (fun K hK => ?_) (AllReadyU.nil)
      refine ite_ofN rfl ?_
      refine opwp_append_u64 _ _ rfl (b + 1) A2 c2 n (castL (L0.map (repN u v))) rfl hlen2.out HT.out.own2 ⟨e2, 0, none⟩ 1 r rfl (by rw [Addr.add_lit]; exact E2.one.1) (by omega) HT.out.base ?_
      intro A3 c3 W4 HO HG HS
      simp only [Act.put, List.setIfInBounds_toArray, List.set_cons_zero, List.set_cons_succ]
      refine hK.out _ _ (fun _ => HeldS.mk' (HT.out.tab.app HG.out (own_ne HT.out.own2 (by omega)))) ?_
      clear hK K
      replace HT := Lib.hid (HT.out.app2 HO.out HG.out HS.out)
      clear HO HG HS E2
      refine wpAnyU_ready (rs := [16]) (by kernel_rfl) (by simp) ?_
      refine AllReadyU.cons rfl (fun K hK => ?_) (AllReadyU.nil)
      go_simp
      go_wp2
      refine hK.out _ _ (fun _ => HeldS.mk' HT.out.tab) ?_
      clear hK K
      refine wpAnyU_ready (rs := [17]) (by kernel_rfl) (by simp) ?_
      refine AllReadyU.cons rfl (fun K hK => ?_) (AllReadyU.nil)
      go_simp
      go_wp2
      refine hK.out _ _ (fun _ => HeldS.mk' HT.out.tab) ?_
      clear hK K
      refine wpAnyU_ready (rs := [18]) (by kernel_rfl) (by simp) ?_
      refine AllReadyU.cons rfl (fun K hK => ?_) (AllReadyU.nil)
      have fT := HT.out.tab.four
      go_simp
      go_wp2
      refine hK.out _ _ (fun h => late_no h (by kernel_rfl)) ?_
      clear hK K fT
      replace HT := Lib.hid (HT.out.set1 (.slice A1 (n + 1) c1))
      refine wpAnyU_ready (rs := [19]) (by kernel_rfl) (by simp) ?_
      refine AllReadyU.cons rfl (fun K hK => ?_) (AllReadyU.nil)
      go_simp
      go_wp2
      refine hK.out _ _ (fun h => late_no h (by kernel_rfl)) ?_
      clear hK K
      refine wpAnyU_ready (rs := [20]) (by kernel_rfl) (by simp) ?_
      refine AllReadyU.cons rfl (fun K hK => ?_) (AllReadyU.nil)
      go_simp
      go_wp2
      refine hK.out _ _ (fun h => late_no h (by kernel_rfl)) ?_
      clear hK K
      refine wpAnyU_ready (rs := [21]) (by kernel_rfl) (by simp) ?_
      refine AllReadyU.cons rfl (fun K hK => ?_) (AllReadyU.nil)
      have fT := HT.out.tab.four
      go_simp
      go_wp2
      refine hK.out _ _ (fun h => late_no h (by kernel_rfl)) ?_
      clear hK K fT
      replace HT := Lib.hid (HT.out.set2 (.slice A3 (n + 1) c3))
      refine wpAnyU_done (by kernel_rfl) ?_ _
      refine NoPanic.normal ?_
      rw [← HL.out, ← HR.out] at HT
      have vh : IntKind.u64.wrap ((h : Int) + 1) = ((h + 1 : Nat) : Int) := by simp only [IntKind.wrap_u64]; omega
      go_wp2
      go_roundw
      case rel => exact ⟨n + 1, h + 1, L0 ++ [low], A1, c1, A3, c3, by omega, by show _ = _; rw [List.length_append, hLn.out]; rfl, by go_num, by omega, by omega, HT, HC2⟩
      case measure => simp [intOf]; omega
    ·go_simp
     go_wp2
     refine hK.out _ _ (fun _ => HeldS.mk' (HT.out.alloc _).tab) ?_
     clear hK K
     have E2 := At.new W0 #[.int .u64 r] 23
     obtain ⟨e2, he2⟩ : ∃ e, W0.heap.size = e := ⟨_, rfl⟩
     replace HT := Lib.hid (HT.out.alloc (.cells #[.int .u64 r] 23))
     have le2 : W0.heap.size ≤ e2 := by omega
     have hsz1 : W0.heap.size ≤ (W0.alloc (.cells #[.int .u64 r] 23)).heap.size := (by first | omega | (simp; done) | (simp; omega) | (simp [World.setCell]; omega))
     generalize W0.alloc (.cells #[.int .u64 r] 23) = W1 at HT E2 hsz1 ⊢
     simp only [he2] at E2 ⊢
     clear he2
     refine wpAnyU_ready (rs := [7]) (by kernel_rfl) (by simp) ?_
     refine AllReadyU.cons rfl (fun K hK => ?_) (AllReadyU.nil)
     go_simp
     go_wp2
     refine hK.out _ _ (fun _ => HeldS.mk' (HT.out.alloc _).tab) ?_
     clear hK K
     have E1 := At.new W1 #[.int .u64 low] 23
     obtain ⟨e1, he1⟩ : ∃ e, W1.heap.size = e := ⟨_, rfl⟩
     replace E2 := E2.alloc (.cells #[.int .u64 low] 23)
     replace HT := Lib.hid (HT.out.alloc (.cells #[.int .u64 low] 23))
     have le1 : W0.heap.size ≤ e1 := by have := hsz1; omega
     have hsz2 : W0.heap.size ≤ (W1.alloc (.cells #[.int .u64 low] 23)).heap.size := (by first | omega | (simp; done) | (simp; omega) | (simp [World.setCell]; omega))
     generalize W1.alloc (.cells #[.int .u64 low] 23) = W2 at HT E1 E2 hsz2 ⊢
     simp only [he1] at E1 ⊢
     clear he1
     refine wpAnyU_ready (rs := [8]) (by kernel_rfl) (by simp) ?_
     refine AllReadyU.cons rfl (fun K hK => ?_) (AllReadyU.nil)
     refine ite_ofN rfl ?_
     refine opwp_append_u64 _ _ rfl (b + 1) A c n (castL L0) rfl hlen1.out HT.out.own1 ⟨e1, 0, none⟩ 1 low rfl (by rw [Addr.add_lit]; exact E1.one.1) (by omega) HT.out.base ?_
     intro A1 c1 W3 HO HG HS
     simp only [Act.put, List.setIfInBounds_toArray, List.set_cons_zero, List.set_cons_succ]
     refine hK.out _ _ (fun _ => HeldS.mk' (HT.out.tab.app HG.out (own_ne HT.out.own1 (by omega)))) ?_
     clear hK K
     replace E2 := E2.app HG.out (NE.out _ le2)
     have hsz3 := Nat.le_trans hsz2 HG.out.size
     replace HT := Lib.hid (HT.out.app1 HO.out HG.out HS.out)
     clear HO HG HS E1
     refine wpAnyU_ready (rs := [15]) (by kernel_rfl) (by simp) ?_
     refine AllReadyU.cons rfl (fun K hK => ?_) (AllReadyU.nil)
     refine ite_ofN rfl ?_
     refine opwp_append_u64 _ _ rfl (b + 1) A2 c2 n (castL (L0.map (repN u v))) rfl hlen2.out HT.out.own2 ⟨e2, 0, none⟩ 1 r rfl (by rw [Addr.add_lit]; exact E2.one.1) (by omega) HT.out.base ?_
     intro A3 c3 W4 HO HG HS
     simp only [Act.put, List.setIfInBounds_toArray, List.set_cons_zero, List.set_cons_succ]
     refine hK.out _ _ (fun _ => HeldS.mk' (HT.out.tab.app HG.out (own_ne HT.out.own2 (by omega)))) ?_
     clear hK K
     replace HT := Lib.hid (HT.out.app2 HO.out HG.out HS.out)
     clear HO HG HS E2
     refine wpAnyU_ready (rs := [16]) (by kernel_rfl) (by simp) ?_
     refine AllReadyU.cons rfl (fun K hK => ?_) (AllReadyU.nil)
     go_simp
     go_wp2
     refine hK.out _ _ (fun _ => HeldS.mk' HT.out.tab) ?_
     clear hK K
     refine wpAnyU_ready (rs := [17]) (by kernel_rfl) (by simp) ?_
     refine AllReadyU.cons rfl (fun K hK => ?_) (AllReadyU.nil)
     go_simp
     go_wp2
     refine hK.out _ _ (fun _ => HeldS.mk' HT.out.tab) ?_
     clear hK K
     refine wpAnyU_ready (rs := [18]) (by kernel_rfl) (by simp) ?_
     refine AllReadyU.cons rfl (fun K hK => ?_) (AllReadyU.nil)
     have fT := HT.out.tab.four
     go_simp
     go_wp2
     refine hK.out _ _ (fun h => late_no h (by kernel_rfl)) ?_
     clear hK K fT
     replace HT := Lib.hid (HT.out.set1 (.slice A1 (n + 1) c1))
     refine wpAnyU_ready (rs := [19]) (by kernel_rfl) (by simp) ?_
     refine AllReadyU.cons rfl (fun K hK => ?_) (AllReadyU.nil)
     go_simp
     go_wp2
     refine hK.out _ _ (fun h => late_no h (by kernel_rfl)) ?_
     clear hK K
     refine wpAnyU_ready (rs := [20]) (by kernel_rfl) (by simp) ?_
     refine AllReadyU.cons rfl (fun K hK => ?_) (AllReadyU.nil)
     go_simp
     go_wp2
     refine hK.out _ _ (fun h => late_no h (by kernel_rfl)) ?_
     clear hK K
     refine wpAnyU_ready (rs := [21]) (by kernel_rfl) (by simp) ?_
     refine AllReadyU.cons rfl (fun K hK => ?_) (AllReadyU.nil)
     have fT := HT.out.tab.four
     go_simp
     go_wp2
     refine hK.out _ _ (fun h => late_no h (by kernel_rfl)) ?_
     clear hK K fT
     replace HT := Lib.hid (HT.out.set2 (.slice A3 (n + 1) c3))
     refine wpAnyU_done (by kernel_rfl) ?_ _
     refine NoPanic.normal ?_
     rw [← HL.out, ← HR.out] at HT
     have vh : IntKind.u64.wrap ((h : Int) + 1) = ((h + 1 : Nat) : Int) := by simp only [IntKind.wrap_u64]; omega
     go_wp2
     go_roundw
     case rel => exact ⟨n + 1, h + 1, L0 ++ [low], A1, c1, A3, c3, by omega, by show _ = _; rw [List.length_append, hLn.out]; rfl, by go_num, by omega, by omega, HT, HC2⟩
     case measure => simp [intOf]; omega
  ·have hle' : ¬ (low : Int) ≤ 9223372036854775808 := by omega
   have HN : Hid (cellsF u v 4096 1 = some L0) := by
    show _ = _
    rw [hV.out, HC.out]
    unfold cellsF
    rw [if_pos (by unfold mostN; omega)]
    simp
   have hbel := HT.out.below
   have hnl := hL.out
   have htab : Hid (TabN w.heap.size wr b u v L0 (L0.map (repN u v))) := by
    have h1 := HT.out.le
    have h2 := HT.out.lt
    refine ⟨by omega, A, c, A2, c2, ?_, HT.out.own1.rd, HT.out.own2.rd, fun g hg => ?_, fun g hg => ?_⟩
    ·rw [List.length_map, hnl]
     exact HT.out.tab
    ·have := (HT.out.own1.base_le g hg).1; omega
    ·have := (HT.out.own2.base_le g hg).1; omega
   clear hV HC hL hnl
   go_wp2
   go_ret2
   exact ⟨by unfold NewN; rw [HN.out]; exact ⟨b, rfl, htab.out⟩, hbel⟩
theorem cnew_bad (u v : Int) (w : World) (h1 : 0 ≤ u) (h2 : u < 18446744073709551616) (h3 : 0 ≤ v) (h4 : v < 18446744073709551616) (hg : goodC u v = false) :
  Calls Tryz.prog 56 #[.agg #[.int .u64 u, .int .u64 v]] w fun e w' => e = .returned (.tuple #[.pointer none, .int .i64 1]) ∧ Below w.heap.size w w' := by
 go_enter Tryz.func56, Tryz.ntmps56
 go_wp2_with fail
 refine (cgood_any u v _ h1 h2 h3 h4).mono ?_
 rintro e w1 ⟨rfl, hb⟩
 rw [hg]
 have hB : Below w.heap.size w w1 := Below.trans (by repeat (first | with_reducible assumption | with_reducible exact Below.refl _ _ | with_reducible refine Below.drew ?_ | with_reducible refine Below.drewN ?_ _ | with_reducible refine Below.setCell ?_ (by first | omega | (simp; done) | (simp; omega)) _ | with_reducible refine Below.alloc ?_ (by first | omega | (simp; done) | (simp; omega) | (simp [World.setCell]; omega)) _)) (hb.mono (by first | omega | (simp; done) | (simp; omega) | (simp [World.setCell]; omega)))
 clear hb hg
 go_wp2
 go_ret2
 exact ⟨rfl, hB⟩
end Go.Proofs.YtlbnlmhcpephbaaGreatDoor
namespace Go.Proofs.YtlbnlmhcpephbaaGreatDoor
open Go.RowKit
structure CellsOf (u v : Nat) (L : List Nat) : Prop where
 u0 : 0 < u
 uv : u < v
 v1 : v ≤ 2147483648
 pos : 0 < L.length
 len : L.length ≤ 4096
 first : L.getD 0 0 = 1
 sorted : L.Pairwise (· < ·)
 bd : ∀ x ∈ L, 1 ≤ x ∧ x ≤ mostN
 chain : Chain u v 1 L
def NewG (u v : Nat) (e : Ending) (w' : World) : Prop := (∃ p k, e = .returned (.tuple #[.pointer p, .int .i64 k]) ∧ (k = 1 ∨ k = 6)) ∨
 ∃ b L, e = .returned (.tuple #[.pointer (some ⟨b, 0, none⟩), .int .i64 0]) ∧ CellsOf u v L ∧ Tab w' b u v L (L.map (repN u v))
end Go.Proofs.YtlbnlmhcpephbaaGreatDoor
namespace Go.Proofs.YtlbnlmhcpephbaaGreatDoor
open Go.RowKit
structure Tw (w0 : World) (B0 : Nat) (u v : Int) (W : World) (A : Option Addr) (c : Nat) (xs : List Int) (A2 : Option Addr) (c2 : Nat) (ys : List Int) : Prop where
 own1 : OwnU (B0 + 1) W A c xs
 own2 : OwnU (B0 + 1) W A2 c2 ys
 sep : SepA A A2
 arg : At W B0 #[.int .u64 u, .int .u64 v] 25
 below : Below w0.heap.size w0 W
 le : w0.heap.size ≤ B0
section
variable {w0 W W' : World} {B0 : Nat} {u v : Int} {A A2 : Option Addr} {c c2 : Nat} {xs ys : List Int}
end
def RcR (u v : Nat) (e : Ending) (w' : World) : Prop := match cellsF u v 4096 1 with
 | none => e = .returned (.tuple #[.slice none 0 0, .slice none 0 0, .bool false])
 | some L => ∃ A c A2 c2, e = .returned (.tuple #[.slice A L.length c, .slice A2 L.length c2, .bool true]) ∧ RdU w' A (castL L) ∧ RdU w' A2 (castL (L.map (repN u v)))
def RcN (n0 : Nat) (u v : Nat) (e : Ending) (w' : World) : Prop := match cellsF u v 4096 1 with
 | none => e = .returned (.tuple #[.slice none 0 0, .slice none 0 0, .bool false])
 | some L => ∃ A c A2 c2, e = .returned (.tuple #[.slice A L.length c, .slice A2 L.length c2, .bool true]) ∧ RdU w' A (castL L) ∧ RdU w' A2 (castL (L.map (repN u v))) ∧ (∀ g, A = some g → n0 ≤ g.block) ∧ (∀ g, A2 = some g → n0 ≤ g.block)
end Go.Proofs.YtlbnlmhcpephbaaGreatDoor

namespace Go.Proofs.YtlbnlmhcpephbaaGreatDoor
open Go.RowKit
structure SKnd where
 T : TypeId
 fA : FuncId
 fT : FuncId
 fL : FuncId
 fP : FuncId
 fF : FuncId
 fB : FuncId
def sKnd : Bool → SKnd
 | true => ⟨242, 134, 135, 396, 397, 395, 394⟩
 | false => ⟨239, 132, 133, 392, 393, 391, 390⟩
def Meth (T : TypeId) (name : String) (f : FuncId) : Prop := (∀ (c : Nat) (w : World), (method 545 T (.pointer (some ⟨c, 0, none⟩)) name).run Tryz.prog w = .ok (f, .pointer (some ⟨c, 0, none⟩)) w) ∧ ∀ (args : Array Value) (w : World), (callFunc f args).run Tryz.prog w = .ok (.enter f args) w
theorem sAdd (s : Bool) : Meth (sKnd s).T "Add" (sKnd s).fA := by cases s <;> exact ⟨fun c w => by kernel_rfl, fun a w => by kernel_rfl⟩
theorem sTotal (s : Bool) : Meth (sKnd s).T "Total" (sKnd s).fT := by cases s <;> exact ⟨fun c w => by kernel_rfl, fun a w => by kernel_rfl⟩
theorem sLost (s : Bool) : Meth (sKnd s).T "Lost" (sKnd s).fL := by cases s <;> exact ⟨fun c w => by kernel_rfl, fun a w => by kernel_rfl⟩
theorem sPairs (s : Bool) : Meth (sKnd s).T "Pairs" (sKnd s).fP := by cases s <;> exact ⟨fun c w => by kernel_rfl, fun a w => by kernel_rfl⟩
theorem sFind (s : Bool) : Meth (sKnd s).T "Find" (sKnd s).fF := by cases s <;> exact ⟨fun c w => by kernel_rfl, fun a w => by kernel_rfl⟩
structure PKnd where
 T : TypeId
 fI : FuncId
 fR : FuncId
def pKnd : Bool → PKnd
 | true => ⟨155, 143, 104⟩
 | _ => ⟨147, 380, 382⟩
theorem pIndex (k : Bool) : Meth (pKnd k).T "Index" (pKnd k).fI := by cases k <;> exact ⟨fun c w => by kernel_rfl, fun a w => by kernel_rfl⟩
theorem pRep (k : Bool) : Meth (pKnd k).T "Rep" (pKnd k).fR := by cases k <;> exact ⟨fun c w => by kernel_rfl, fun a w => by kernel_rfl⟩
def Sto (w : World) : Bool → Nat → List Nat → Int → List (Int × Int) → Int → Prop
 | true => Lo.Low w
 | false => Hi.High w
section
variable {w w' : World} {s : Bool} {b : Nat} {S T : List Nat} {most tot : Int} {ps : List (Int × Int)}
theorem Sto.frame (h : Sto w s b S most ps tot) (hf : Frame T w w') (hn : Apart S T) : Sto w' s b S most ps tot := by
 cases s
 ·exact Hi.High.frame h hf hn
 ·exact Lo.Low.frame h hf hn
theorem Sto.below (h : Sto w s b S most ps tot) (hb : Below w.heap.size w w') : Sto w' s b S most ps tot := h.frame (T := []) (Frame.of_below hb) (fun _ _ => by simp)
theorem Sto.lt (h : Sto w s b S most ps tot) : ∀ k ∈ S, k < w.heap.size := by
 cases s
 ·exact Hi.High.lt h
 ·exact Lo.Low.lt h
theorem Sto.ok (h : Sto w s b S most ps tot) : okP ps := by
 cases s
 ·exact Hi.High.ok h
 ·exact Lo.Low.ok h
theorem Sto.m14 (h : Sto w s b S most ps tot) : 1 ≤ most ∧ most ≤ 4096 := by
 cases s
 ·exact ⟨Hi.High.m1 h, Hi.High.most4 h⟩
 ·exact ⟨Lo.Low.m1 h, Lo.Low.most4 h⟩
theorem Sto.sums (h : Sto w s b S most ps tot) : 0 ≤ sumP ps ∧ sumP ps ≤ tot ∧ tot ≤ 9223372036854775807 := by
 cases s
 ·exact ⟨Hi.High.sum0 h, Hi.High.lo h, Hi.High.hi h⟩
 ·exact ⟨Lo.Low.sum0 h, Lo.Low.lo h, Lo.Low.hi h⟩
end
theorem sto_total (s : Bool) (b : Nat) (S : List Nat) (most tot : Int) (ps : List (Int × Int)) (w : World) (h : Sto w s b S most ps tot) :
  Calls Tryz.prog (sKnd s).fT #[.pointer (some ⟨b, 0, none⟩)] w fun e w' => e = .returned (.int .u64 tot) ∧ Below w.heap.size w w' := by
 cases s
 ·exact Hi.ltotal_any b S most tot ps w h
 ·exact Lo.ltotal_any b S most tot ps w h
theorem sto_lost (s : Bool) (b : Nat) (S : List Nat) (most tot : Int) (ps : List (Int × Int)) (w : World) (h : Sto w s b S most ps tot) :
  Calls Tryz.prog (sKnd s).fL #[.pointer (some ⟨b, 0, none⟩)] w fun e w' => e = .returned (.int .u64 (tot - sumP ps)) ∧ w = w' := by
 cases s
 ·exact Hi.llost_any b S most tot ps w h
 ·exact Lo.llost_any b S most tot ps w h
theorem sto_pairs (s : Bool) (b : Nat) (S : List Nat) (most tot : Int) (ps : List (Int × Int)) (w : World) (h : Sto w s b S most ps tot) :
  Calls Tryz.prog (sKnd s).fP #[.pointer (some ⟨b, 0, none⟩)] w fun e w' => CloR ps w e w' := by
 cases s
 ·exact Hi.lpairs_any b S most tot ps w h
 ·exact Lo.lpairs_any b S most tot ps w h
def StoA (s : Bool) (b : Nat) (S : List Nat) (most : Int) (ps : List (Int × Int)) (tot : Int) (w w' : World) : Prop :=
 ∃ S', GrownS S S' w.heap.size ∧ Sto w' s b S' most ps tot ∧ Frame S w w'
theorem sto_add (s : Bool) (b : Nat) (S : List Nat) (most tot q cc : Int) (ps : List (Int × Int)) (w : World) (h : Sto w s b S most ps tot) (hc : 0 < cc) (ht : tot + cc ≤ 9223372036854775807) (hq : -9223372036854775808 ≤ q ∧ q ≤ 9223372036854775807) :
  Calls Tryz.prog (sKnd s).fA #[.pointer (some ⟨b, 0, none⟩), .int .i64 q, .int .u64 cc] w fun e w' => e = .returned (.int .i64 0) ∧ StoA s b S most (capRow s most ps q cc) (tot + cc) w w' := by
 cases s
 ·exact Hi.ladd_any b S most tot q cc ps w h hc ht hq
 ·exact Lo.ladd_any b S most tot q cc ps w h hc ht hq
def stoFind : Bool → Int → List (Int × Int) → Int → Option Int
 | true => Lo.lowFind
 | false => Hi.lowFind
theorem sto_find (s : Bool) (b : Nat) (S : List Nat) (most tot t : Int) (ps : List (Int × Int)) (w : World) (h : Sto w s b S most ps tot) (ht : 0 ≤ t ∧ t < 18446744073709551616) :
  Calls Tryz.prog (sKnd s).fF #[.pointer (some ⟨b, 0, none⟩), .int .u64 t] w fun e w' => e = .returned (optI (stoFind s (tot - sumP ps) ps t)) ∧ Below w.heap.size w w' := by
 cases s
 ·exact Hi.lfind_any b S most tot t ps w h ht
 ·exact Lo.lfind_any b S most tot t ps w h ht
def stoBelow : Bool → Int → Int → List (Int × Int) → Int → Int × Int
 | true => Lo.lowBelow
 | false => Hi.lowBelow
structure Prt (w : World) (k : Bool) (a : Nat) (part : Nat → Int) (rep : Int → Int) : Prop where
 ix : ∀ W, Below w.heap.size w W → ∀ m : Nat, 0 < m → m ≤ 9223372036854775808 →
  Calls Tryz.prog (pKnd k).fI #[.pointer (some ⟨a, 0, none⟩), .int .u64 m] W fun e W' => e = .returned (.tuple #[.int .i64 (part m), .bool true]) ∧ Below W.heap.size W W'
 i0 : ∀ W, Below w.heap.size w W → Calls Tryz.prog (pKnd k).fI #[.pointer (some ⟨a, 0, none⟩), .int .u64 0] W fun e W' => e = .returned (.tuple #[.int .i64 0, .bool false]) ∧ Below W.heap.size W W'
 rp : ∀ W, Below w.heap.size w W → ∀ i : Int, -9223372036854775808 ≤ i → i ≤ 9223372036854775807 →
  Calls Tryz.prog (pKnd k).fR #[.pointer (some ⟨a, 0, none⟩), .int .i64 i] W fun e W' => e = .returned (.int .u64 (rep i)) ∧ Below W.heap.size W W'
 rng : ∀ m : Nat, 0 < m → m ≤ 9223372036854775808 → 0 ≤ part m ∧ part m ≤ 1048576
 some : ∀ m : Nat, 0 < m → m ≤ 9223372036854775808 → 0 < rep (part m)
 hi : ∀ i, 0 ≤ rep i ∧ rep i ≤ 9223372036854775808
 mono : PartMono part
end Go.Proofs.YtlbnlmhcpephbaaGreatDoor

namespace Go.Proofs.YtlbnlmhcpephbaaGreatDoor
open Go.RowKit
theorem prt_span (a : Nat) (d : Int) (w : World) (h : SpanAt w a d) : Prt w true a (partD d) (repD d) := by
 refine ⟨fun W hW m h1 h2 => ?_, fun W _ => spindex_zero a W, fun W hW i h1 h2 => ?_, fun m h1 h2 => ?_, fun m h1 h2 => ?_, fun i => ?_, partD_mono d⟩
 ·have := spindex_any a m d W (h.below hW) h1 h2
  exact this
 ·by_cases hi : 0 < i ∧ i ≤ topD d
  ·unfold repD
   rw [if_pos hi]
   obtain ⟨j, rfl⟩ := Int.eq_ofNat_of_zero_le (Int.le_of_lt hi.1)
   rw [Int.toNat_natCast]
   exact sprep_any a j d W (h.below hW) (by omega) (by have := hi.2; unfold topD at this; omega)
  ·unfold repD
   rw [if_neg hi]
   exact sprep_bad a i d W (h.below hW) (by unfold topD at hi; omega)
 ·have := partD_rng (d := d) h1 h2; omega
 ·rw [repD_part h1 h2]
  have := repM_le (g := gOf d) h1 h2
  have := lo_pos (g := gOf d) h1
  omega
 ·unfold repD
  split
  ·next hi =>
   have := repI_le (d := d) (i := i.toNat) (by omega) (by omega)
   omega
  ·omega
def partT (L : List Nat) (m : Nat) : Int := ((L.filter fun x => decide (x ≤ m)).length : Int) - 1
theorem sorted_at {L : List Nat} (hs : L.Pairwise (· < ·)) {i j : Nat} (hij : i ≤ j) (hj : j < L.length) : L.getD i 0 ≤ L.getD j 0 := sorted_getD hs hij hj
theorem filter_cell {L : List Nat} (hs : L.Pairwise (· < ·)) {m i : Nat} (h : cellAt L m i) : (L.filter fun x => decide (x ≤ m)).length = i + 1 := by
 obtain ⟨h1, h2, h3⟩ := h
 have e : L = L.take (i + 1) ++ L.drop (i + 1) := (List.take_append_drop _ _).symm
 have f1 : (L.take (i + 1)).filter (fun x => decide (x ≤ m)) = L.take (i + 1) := List.filter_eq_self.2 fun x hx => by
  obtain ⟨j, hj, rfl⟩ := List.getElem_of_mem hx
  rw [List.length_take] at hj
  rw [List.getElem_take, getD_at]
  have := sorted_at hs (i := j) (j := i) (by omega) h1
  exact decide_eq_true (by omega)
 have f2 : (L.drop (i + 1)).filter (fun x => decide (x ≤ m)) = [] := List.filter_eq_nil_iff.2 fun x hx => by
  obtain ⟨j, hj, rfl⟩ := List.getElem_of_mem hx
  rw [List.length_drop] at hj
  rw [List.getElem_drop, getD_at]
  have h4 := h3 (by omega)
  have := sorted_at hs (i := i + 1) (j := i + 1 + j) (by omega) (by omega)
  simp only [decide_eq_true_eq]
  omega
 rw [e, List.filter_append, f1, f2, List.append_nil, List.length_take]
 omega
theorem partT_cell {L : List Nat} (hs : L.Pairwise (· < ·)) {m i : Nat} (h : cellAt L m i) : partT L m = i := by
 unfold partT
 rw [filter_cell hs h]
 omega
structure TabOk (u v : Nat) (L : List Nat) : Prop where
 h : cellsF u v 4096 1 = some L
 u0 : 0 < u
 uv : u < v
 v1 : v ≤ 2147483648
section
variable {u v : Nat} {L : List Nat}
theorem TabOk.chain (h : TabOk u v L) : Chain u v 1 L := (chain_of h.h).1
theorem TabOk.len (h : TabOk u v L) : L.length ≤ 4096 := (chain_of h.h).2
theorem TabOk.srt (h : TabOk u v L) : L.Pairwise (· < ·) := chain_sorted h.uv h.chain
theorem TabOk.pos (h : TabOk u v L) : 0 < L.length := by
 have hc := h.chain
 cases L with
 | nil => unfold Chain mostN at hc; omega
 | cons x L => simp
theorem TabOk.one (h : TabOk u v L) : L.getD 0 0 = 1 := by
 have := ((chain_at h.uv h.chain).2.2 h.pos).1
 rwa [getD_at] at this
theorem TabOk.bd (h : TabOk u v L) {i : Nat} (hi : i < L.length) : 1 ≤ L.getD i 0 ∧ L.getD i 0 ≤ mostN := by
 have := (chain_at h.uv h.chain).1 i hi
 rwa [getD_at] at this
theorem TabOk.part (h : TabOk u v L) {m : Nat} (h1 : 0 < m) : 0 ≤ partT L m ∧ partT L m < L.length := by
 have h2 : (L.filter fun x => decide (x ≤ m)).length ≤ L.length := List.length_filter_le _ _
 have h3 : 0 < (L.filter fun x => decide (x ≤ m)).length := List.length_pos_of_mem (a := L.getD 0 0) (List.mem_filter.2 ⟨by rw [← getD_at h.pos]; exact List.getElem_mem _, decide_eq_true (by rw [h.one]; omega)⟩)
 unfold partT
 omega
theorem repN_pos {u v low : Nat} (hv : 0 < v) (hl : 1 ≤ low) : 0 < repN u v low ∧ repN u v low ≤ topN := by
 have := repR_ge (u := u) (low := low) hv
 unfold repN topN
 omega
theorem TabOk.rep (h : TabOk u v L) (i : Int) : atL (L.map (repN u v)) i ≤ topN ∧ (0 ≤ i ∧ i < L.length → 0 < atL (L.map (repN u v)) i) := by
 unfold atL
 rw [List.length_map]
 split
 ·next hi =>
  have hj : i.toNat < L.length := by omega
  have e : (L.map (repN u v)).getD i.toNat 0 = repN u v (L.getD i.toNat 0) := by
   rw [List.getD_eq_getElem?_getD, List.getElem?_map, List.getElem?_eq_getElem hj, List.getD_eq_getElem?_getD, List.getElem?_eq_getElem hj]
   rfl
  rw [e]
  have := repN_pos (u := u) (v := v) (by have := h.uv; omega) (h.bd hj).1
  exact ⟨this.2, fun _ => this.1⟩
 ·next hi => exact ⟨by unfold topN; omega, fun h => absurd h hi⟩
end
def repT (u v : Nat) (L : List Nat) (i : Int) : Int := (atL (L.map (repN u v)) i : Nat)
theorem prt_tab (a u v : Nat) (L : List Nat) (w : World) (ht : TabOk u v L) (h : Tab w a u v L (L.map (repN u v))) : Prt w false a (partT L) (repT u v L) := by
 refine ⟨fun W hW m h1 h2 => ?_, fun W hW => ?_, fun W hW i h1 h2 => ?_, fun m h1 h2 => ?_, fun m h1 h2 => ?_, fun i => ?_, fun x y hx hxy hy => ?_⟩
 ·refine (cindex_any a u v L _ m W (h.below hW) ht.srt ht.pos ht.one (by omega)).mono ?_
  rintro e w' ⟨hI, rfl⟩
  rcases hI with ⟨hno, _⟩ | ⟨_, _, i, rfl, hc⟩
  ·unfold mostN at hno; omega
  ·rw [partT_cell ht.srt hc]
   exact ⟨rfl, Below.refl _ _⟩
 ·refine (cindex_any a u v L _ 0 W (h.below hW) ht.srt ht.pos ht.one (by omega)).mono ?_
  rintro e w' ⟨hI, rfl⟩
  rcases hI with ⟨_, rfl⟩ | ⟨hno, _⟩
  ·exact ⟨rfl, Below.refl _ _⟩
  ·omega
 ·refine (crep_any a u v L _ i W (h.below hW)).mono ?_
  rintro e w' ⟨rfl, rfl⟩
  exact ⟨rfl, Below.refl _ _⟩
 ·have := ht.part (m := m) h1
  have := ht.len
  omega
 ·have h3 := ht.part (m := m) h1
  have := (ht.rep (partT L m)).2 h3
  unfold repT
  omega
 ·have := (ht.rep i).1
  unfold topN at this
  unfold repT
  omega
 ·have : (L.filter fun z => decide (z ≤ x)).length ≤ (L.filter fun z => decide (z ≤ y)).length := by
   rw [← List.countP_eq_length_filter, ← List.countP_eq_length_filter]
   exact List.countP_mono_left fun z _ hz => by simp only [decide_eq_true_eq] at hz ⊢; omega
  unfold partT
  omega
def PAt (w : World) : Bool → Nat → (Nat → Int) → (Int → Int) → List Nat → Prop
 | true, a, part, rep, PB => ∃ d, SpanAt w a d ∧ part = partD d ∧ rep = repD d ∧ PB = [a]
 | false, a, part, rep, PB => ∃ u v L, TabOk u v L ∧ part = partT L ∧ rep = repT u v L ∧ ∃ A c A2 c2, At w a #[.int .u64 (u : Nat), .int .u64 (v : Nat), .slice A L.length c, .slice A2 L.length c2] 198 ∧ RdU w A (castL L) ∧ RdU w A2 (castL (L.map (repN u v))) ∧ PB = a :: (blk A ++ blk A2)
theorem Rd.blk_lt {w : World} {A : Option Addr} {xs : List Int} (h : RdU w A xs) (hx : xs ≠ []) : ∀ j ∈ blk A, j < w.heap.size := by
 intro j hj
 obtain ⟨g, o, rfl, hg, _⟩ := h.at 0 (List.length_pos_iff.2 hx)
 simp only [blk, List.mem_singleton] at hj
 subst hj
 exact hg
section
variable {w w' : World} {k : Bool} {a : Nat} {part : Nat → Int} {rep : Int → Int} {PB T : List Nat}
theorem PAt.prt (h : PAt w k a part rep PB) : Prt w k a part rep := by
 cases k
 ·obtain ⟨u, v, L, ht, rfl, rfl, A, c, A2, c2, h1, h2, h3, _⟩ := h
  exact prt_tab a u v L w ht ⟨⟨A, c, A2, c2, by rw [List.length_map]; exact h1, h2, h3⟩, ht.len, by rw [List.length_map]; exact ht.len⟩
 ·obtain ⟨d, h1, rfl, rfl, _⟩ := h
  exact prt_span a d w h1
theorem PAt.frame (h : PAt w k a part rep PB) (hf : Frame T w w') (hn : Apart PB T) : PAt w' k a part rep PB := by
 cases k
 ·obtain ⟨u, v, L, ht, e1, e2, A, c, A2, c2, h1, h2, h3, rfl⟩ := h
  exact ⟨u, v, L, ht, e1, e2, A, c, A2, c2, hf.at h1 (hn a (by simp)), Frame.rd hf h2 (fun x e => hn _ (by subst e; simp [blk])), Frame.rd hf h3 (fun x e => hn _ (by subst e; simp [blk])), rfl⟩
 ·obtain ⟨d, h1, e1, e2, rfl⟩ := h
  exact ⟨d, ⟨hf.at h1.at' (hn a (by simp)), h1.d1, h1.d4⟩, e1, e2, rfl⟩
theorem PAt.below (h : PAt w k a part rep PB) (hb : Below w.heap.size w w') : PAt w' k a part rep PB := h.frame (T := []) (Frame.of_below hb) (fun _ _ => by simp)
theorem PAt.lt (h : PAt w k a part rep PB) : ∀ j ∈ PB, j < w.heap.size := by
 cases k
 ·obtain ⟨u, v, L, ht, e1, e2, A, c, A2, c2, h1, h2, h3, rfl⟩ := h
  have hp := ht.pos
  intro j hj
  simp only [List.mem_cons, List.mem_append] at hj
  rcases hj with rfl | hj | hj
  ·exact h1.lt
  ·exact Rd.blk_lt h2 (fun e => by have := congrArg List.length e; rw [castL_length, List.length_nil] at this; omega) j hj
  ·exact Rd.blk_lt h3 (fun e => by have := congrArg List.length e; rw [castL_length, List.length_map, List.length_nil] at this; omega) j hj
 ·obtain ⟨d, h1, e1, e2, rfl⟩ := h
  intro j hj
  simp at hj
  subst hj
  exact h1.at'.lt
end
def BnQ (b : Nat) (v0 v1 v2 v3 v4 v5 : Value) (W : World) : Prop := At W b #[v0, v1, v2, v3, v4, v5] 83
def repTN (u v : Nat) (L : List Nat) (m : Nat) : Nat := atL (L.map (repN u v)) (partT L m)
theorem repT_part (u v : Nat) (L : List Nat) (m : Nat) : repT u v L (partT L m) = (repTN u v L m : Nat) := rfl
end Go.Proofs.YtlbnlmhcpephbaaGreatDoor

namespace Go.Proofs.YtlbnlmhcpephbaaGreatDoor
open Go.RowKit
def sideZ : Bool → Int
 | true => 0
 | false => 1
structure BnB (PB : List Nat) (w : World) (b : Nat) (k : Bool) (pa : Nat) (part : Nat → Int) (rep : Int → Int) (s : Bool) (most : Int) (c0 c1 : Nat) (S0 S1 : List Nat) (ps0 ps1 : List (Int × Int)) (t0 t1 zero : Int) : Prop where
 at' : At w b #[.iface (pKnd k).T (.pointer (some ⟨pa, 0, none⟩)), .int .i64 (sideZ s), .int .i64 most, .iface (sKnd s).T (.pointer (some ⟨c0, 0, none⟩)), .iface (sKnd s).T (.pointer (some ⟨c1, 0, none⟩)), .int .u64 zero] 208
 pr : PAt w k pa part rep PB
 s0 : Sto w s c0 S0 most ps0 t0
 s1 : Sto w s c1 S1 most ps1 t1
 n0 : b ∉ S0
 n1 : b ∉ S1
 ap : Apart S0 S1
 nb : b ∉ PB
 a0 : Apart PB S0
 a1 : Apart PB S1
section
variable {PB : List Nat} {w w' : World} {b pa c0 c1 : Nat} {k s : Bool} {part : Nat → Int} {rep : Int → Int} {S0 S1 T : List Nat} {most t0 t1 zero zero' t : Int} {ps0 ps1 ps : List (Int × Int)}
theorem BnB.prt (h : BnB PB w b k pa part rep s most c0 c1 S0 S1 ps0 ps1 t0 t1 zero) : Prt w k pa part rep := h.pr.prt
theorem BnB.frame (h : BnB PB w b k pa part rep s most c0 c1 S0 S1 ps0 ps1 t0 t1 zero) (hf : Frame T w w') (hp : Apart PB T) (hb : b ∉ T) (h0 : Apart S0 T) (h1 : Apart S1 T) : BnB PB w' b k pa part rep s most c0 c1 S0 S1 ps0 ps1 t0 t1 zero :=
 ⟨hf.at h.at' hb, h.pr.frame hf hp, h.s0.frame hf h0, h.s1.frame hf h1, h.n0, h.n1, h.ap, h.nb, h.a0, h.a1⟩
theorem BnB.below (h : BnB PB w b k pa part rep s most c0 c1 S0 S1 ps0 ps1 t0 t1 zero) (hb : Below w.heap.size w w') : BnB PB w' b k pa part rep s most c0 c1 S0 S1 ps0 ps1 t0 t1 zero :=
 h.frame (T := []) (Frame.of_below hb) (fun _ _ => by simp) (by simp) (fun _ _ => by simp) (fun _ _ => by simp)
theorem BnB.side0 (h : BnB PB w b k pa part rep s most c0 c1 S0 S1 ps0 ps1 t0 t1 zero) (hg : GrownS S0 T w.heap.size) (hs : Sto w' s c0 T most ps t) (hf : Frame S0 w w') : BnB PB w' b k pa part rep s most c0 c1 T S1 ps ps1 t t1 zero := by
 have n : ∀ j, j < w.heap.size → j ∉ S0 → j ∉ T := fun j hj hn hm => by
  rcases hg j hm with h1 | h1
  ·exact hn h1
  ·omega
 exact ⟨hf.at h.at' h.n0, h.pr.frame hf h.a0, hs, h.s1.frame hf h.ap.symm, n _ h.at'.lt h.n0, h.n1, fun j hj hm => n j (h.s1.lt j hm) (h.ap.symm j hm) hj, h.nb, fun j hj => n j (h.pr.lt j hj) (h.a0 j hj), h.a1⟩
theorem BnB.side1 (h : BnB PB w b k pa part rep s most c0 c1 S0 S1 ps0 ps1 t0 t1 zero) (hg : GrownS S1 T w.heap.size) (hs : Sto w' s c1 T most ps t) (hf : Frame S1 w w') : BnB PB w' b k pa part rep s most c0 c1 S0 T ps0 ps t0 t zero := by
 have n : ∀ j, j < w.heap.size → j ∉ S1 → j ∉ T := fun j hj hn hm => by
  rcases hg j hm with h1 | h1
  ·exact hn h1
  ·omega
 exact ⟨hf.at h.at' h.n1, h.pr.frame hf h.a1, h.s0.frame hf h.ap, hs, h.n0, n _ h.at'.lt h.n1, fun j hj => n j (h.s0.lt j hj) (h.ap j hj), h.nb, h.a0, fun j hj => n j (h.pr.lt j hj) (h.a1 j hj)⟩
theorem BnB.noughts (h : BnB PB w b k pa part rep s most c0 c1 S0 S1 ps0 ps1 t0 t1 zero) : BnB PB (w.setCell ⟨b, 5, none⟩ (.int .u64 zero')) b k pa part rep s most c0 c1 S0 S1 ps0 ps1 t0 t1 zero' := by
 have hF := Frame.set [b] w b 5 (.int .u64 zero') (by simp)
 exact ⟨h.at'.set_any 5 _ rfl, h.pr.frame hF (fun j hj hn => h.nb (by simp at hn; rwa [← hn])), h.s0.frame hF (fun j hj hn => h.n0 (by simp at hn; rwa [← hn])), h.s1.frame hF (fun j hj hn => h.n1 (by simp at hn; rwa [← hn])), h.n0, h.n1, h.ap, h.nb, h.a0, h.a1⟩
end
def Bn (w : World) (b : Nat) (S : List Nat) (k : Bool) (part : Nat → Int) (rep : Int → Int) (s : Bool) (most : Int) (ps0 ps1 : List (Int × Int)) (t0 t1 zero : Int) : Prop :=
 ∃ PB pa c0 c1 S0 S1, S = PB ++ (b :: (S0 ++ S1)) ∧ BnB PB w b k pa part rep s most c0 c1 S0 S1 ps0 ps1 t0 t1 zero
section
variable {w w' : World} {b : Nat} {k s : Bool} {part : Nat → Int} {rep : Int → Int} {S T : List Nat} {most t0 t1 zero : Int} {ps0 ps1 : List (Int × Int)}
theorem Bn.frame (h : Bn w b S k part rep s most ps0 ps1 t0 t1 zero) (hf : Frame T w w') (hn : Apart S T) : Bn w' b S k part rep s most ps0 ps1 t0 t1 zero := by
 obtain ⟨PB, pa, c0, c1, S0, S1, rfl, h⟩ := h
 exact ⟨PB, pa, c0, c1, S0, S1, rfl, h.frame hf (fun k hk => hn k (by simp [hk])) (hn b (by simp)) (fun k hk => hn k (by simp [hk])) (fun k hk => hn k (by simp [hk]))⟩
theorem Bn.below (h : Bn w b S k part rep s most ps0 ps1 t0 t1 zero) (hb : Below w.heap.size w w') : Bn w' b S k part rep s most ps0 ps1 t0 t1 zero := h.frame (T := []) (Frame.of_below hb) (fun _ _ => by simp)
theorem Bn.lt (h : Bn w b S k part rep s most ps0 ps1 t0 t1 zero) : ∀ j ∈ S, j < w.heap.size := by
 obtain ⟨PB, pa, c0, c1, S0, S1, rfl, h⟩ := h
 intro j hj
 simp only [List.mem_cons, List.mem_append] at hj
 rcases hj with hj | rfl | hj | hj
 ·exact h.pr.lt j hj
 ·exact h.at'.lt
 ·exact h.s0.lt j hj
 ·exact h.s1.lt j hj
end
theorem fresh_any (s : Bool) (most : Int) (w : World) (h1 : 1 ≤ most) (h2 : most ≤ 4096) :
  Calls Tryz.prog 77 #[.int .i64 (sideZ s), .int .i64 most] w fun e w' => (∃ c S, e = .returned (.tuple #[.iface (sKnd s).T (.pointer (some ⟨c, 0, none⟩)), .int .i64 0]) ∧ Within S w.heap.size w'.heap.size ∧ Sto w' s c S most [] 0) ∧ Below w.heap.size w w' := by
 cases s
 ·have HN := Lib.hid (Hi.lnew_any most w h1 h2)
  show Calls _ _ #[.int .i64 1, .int .i64 most] _ _
  clear h1 h2
  go_enter Tryz.func77, Tryz.ntmps77
  go_wp2_with fail
  refine HN.out.mono ?_
  rintro e w1 ⟨⟨c, S, rfl, _, hW, hS⟩, hb⟩
  have HF : Hid ((∃ c' S', Ending.returned (.tuple #[.iface 239 (.pointer (some ⟨c, 0, none⟩)), .int .i64 0]) = .returned (.tuple #[.iface (sKnd false).T (.pointer (some ⟨c', 0, none⟩)), .int .i64 0]) ∧ Within S' w.heap.size w1.heap.size ∧ Sto w1 false c' S' most [] 0) ∧ Below w.heap.size w w1) := ⟨⟨c, S, rfl, hW, hS⟩, hb⟩
  clear hW hS hb HN
  go_wp2
  go_ret2
  exact HF.out
 ·have HN := Lib.hid (Lo.lnew_any most w h1 h2)
  show Calls _ _ #[.int .i64 0, .int .i64 most] _ _
  clear h1 h2
  go_enter Tryz.func77, Tryz.ntmps77
  go_wp2_with fail
  refine HN.out.mono ?_
  rintro e w1 ⟨⟨c, S, rfl, _, hW, hS⟩, hb⟩
  have HF : Hid ((∃ c' S', Ending.returned (.tuple #[.iface 242 (.pointer (some ⟨c, 0, none⟩)), .int .i64 0]) = .returned (.tuple #[.iface (sKnd true).T (.pointer (some ⟨c', 0, none⟩)), .int .i64 0]) ∧ Within S' w.heap.size w1.heap.size ∧ Sto w1 true c' S' most [] 0) ∧ Below w.heap.size w w1) := ⟨⟨c, S, rfl, hW, hS⟩, hb⟩
  clear hW hS hb HN
  go_wp2
  go_ret2
  exact HF.out
theorem fresh_bad (s : Bool) (most : Int) (w : World) (h : most < 1 ∨ 4096 < most) :
  Calls Tryz.prog 77 #[.int .i64 (sideZ s), .int .i64 most] w fun e w' => (∃ v, e = .returned (.tuple #[v, .int .i64 1])) ∧ w = w' := by
 cases s
 ·have HN := Lib.hid (Hi.lnew_bad most w h)
  show Calls _ _ #[.int .i64 1, .int .i64 most] _ _
  clear h
  go_enter Tryz.func77, Tryz.ntmps77
  go_wp2_with fail
  refine HN.out.mono ?_
  rintro e w1 ⟨rfl, rfl⟩
  clear HN
  go_wp2
  go_ret2
  exact ⟨⟨_, rfl⟩, rfl⟩
 ·have HN := Lib.hid (Lo.lnew_bad most w h)
  show Calls _ _ #[.int .i64 0, .int .i64 most] _ _
  clear h
  go_enter Tryz.func77, Tryz.ntmps77
  go_wp2_with fail
  refine HN.out.mono ?_
  rintro e w1 ⟨rfl, rfl⟩
  clear HN
  go_wp2
  go_ret2
  exact ⟨⟨_, rfl⟩, rfl⟩
theorem nil77 (k : Bool) (pa : Nat) (w : World) : (binOp .eql 202 (.iface (pKnd k).T (.pointer (some ⟨pa, 0, none⟩))) .nilIface).run Tryz.prog w = .ok (.bool false) w := by cases k <;> kernel_rfl
theorem bn_new {w w1 w2 : World} {k s : Bool} {pa c0 c1 : Nat} {part : Nat → Int} {rep : Int → Int} {PB S0 S1 : List Nat} {most z : Int} {T sT : TypeId} (hp : PAt w k pa part rep PB) (h1 : Below w.heap.size w w1) (h2 : Below w1.heap.size w1 w2)
  (hS0 : Sto w1 s c0 S0 most [] 0) (hW0 : Within S0 w.heap.size w1.heap.size) (hS1 : Sto w2 s c1 S1 most [] 0) (hW1 : Within S1 w1.heap.size w2.heap.size) (hz : sideZ s = z) (hT : (pKnd k).T = T) (hs : (sKnd s).T = sT) :
  (∃ b S, Ending.returned (.tuple #[.pointer (some ⟨w2.heap.size, 0, none⟩), .int .i64 0]) = .returned (.tuple #[.pointer (some ⟨b, 0, none⟩), .int .i64 0]) ∧ Within S w.heap.size (w2.alloc (.cells #[.iface T (.pointer (some ⟨pa, 0, none⟩)), .int .i64 z, .int .i64 most, .iface sT (.pointer (some ⟨c0, 0, none⟩)), .iface sT (.pointer (some ⟨c1, 0, none⟩)), .int .u64 0] 208)).heap.size ∧
   Bn (w2.alloc (.cells #[.iface T (.pointer (some ⟨pa, 0, none⟩)), .int .i64 z, .int .i64 most, .iface sT (.pointer (some ⟨c0, 0, none⟩)), .iface sT (.pointer (some ⟨c1, 0, none⟩)), .int .u64 0] 208)) b (PB ++ S) k part rep s most [] [] 0 0 0) ∧
  Below w.heap.size w (w2.alloc (.cells #[.iface T (.pointer (some ⟨pa, 0, none⟩)), .int .i64 z, .int .i64 most, .iface sT (.pointer (some ⟨c0, 0, none⟩)), .iface sT (.pointer (some ⟨c1, 0, none⟩)), .int .u64 0] 208)) := by
 subst hz hT hs
 have ha := At.new w2 #[.iface (pKnd k).T (.pointer (some ⟨pa, 0, none⟩)), .int .i64 (sideZ s), .int .i64 most, .iface (sKnd s).T (.pointer (some ⟨c0, 0, none⟩)), .iface (sKnd s).T (.pointer (some ⟨c1, 0, none⟩)), .int .u64 0] 208
 have hba : Below w2.heap.size w2 (w2.alloc (.cells #[.iface (pKnd k).T (.pointer (some ⟨pa, 0, none⟩)), .int .i64 (sideZ s), .int .i64 most, .iface (sKnd s).T (.pointer (some ⟨c0, 0, none⟩)), .iface (sKnd s).T (.pointer (some ⟨c1, 0, none⟩)), .int .u64 0] 208)) := (Below.refl _ _).alloc (Nat.le_refl _) _
 obtain ⟨W3, hW3⟩ : ∃ W, w2.alloc (.cells #[.iface (pKnd k).T (.pointer (some ⟨pa, 0, none⟩)), .int .i64 (sideZ s), .int .i64 most, .iface (sKnd s).T (.pointer (some ⟨c0, 0, none⟩)), .iface (sKnd s).T (.pointer (some ⟨c1, 0, none⟩)), .int .u64 0] 208) = W := ⟨_, rfl⟩
 rw [hW3] at ha hba ⊢
 have z1 := h1.size
 have z2 := h2.size
 have z3 := hba.size
 have l3 := ha.lt
 have h12 := keep1 h1 h2
 have h13 := keep1 h12 hba
 have hH : BnB PB W3 w2.heap.size k pa part rep s most c0 c1 S0 S1 [] [] 0 0 0 := by
  refine ⟨ha, hp.below h13, hS0.below (keep1 h2 hba), hS1.below hba, fun h => ?_, fun h => ?_, fun j hj hm => ?_, fun h => ?_, fun j hj hm => ?_, fun j hj hm => ?_⟩
  ·have := (hW0 _ h).2; omega
  ·have := (hW1 _ h).2; omega
  ·have := (hW0 j hj).2; have := (hW1 j hm).1; omega
  ·have := hp.lt _ h; omega
  ·have := hp.lt j hj; have := (hW0 j hm).1; omega
  ·have := hp.lt j hj; have := (hW1 j hm).1; omega
 refine ⟨⟨_, w2.heap.size :: (S0 ++ S1), rfl, fun j hj => ?_, PB, pa, c0, c1, S0, S1, rfl, hH⟩, h13⟩
 simp only [List.mem_cons, List.mem_append] at hj
 rcases hj with rfl | hj | hj
 ·omega
 ·have := hW0 j hj; omega
 ·have := hW1 j hj; omega
set_option maxHeartbeats 1000000 in
theorem bnew_any (PB : List Nat) (k : Bool) (pa : Nat) (part : Nat → Int) (rep : Int → Int) (s : Bool) (most : Int) (w : World) (hp : PAt w k pa part rep PB) (h1 : 1 ≤ most) (h2 : most ≤ 4096) :
  Calls Tryz.prog 57 #[.iface (pKnd k).T (.pointer (some ⟨pa, 0, none⟩)), .int .i64 (sideZ s), .int .i64 most] w fun e w' => (∃ b S, e = .returned (.tuple #[.pointer (some ⟨b, 0, none⟩), .int .i64 0]) ∧ Within S w.heap.size w'.heap.size ∧ Bn w' b (PB ++ S) k part rep s most [] [] 0 0 0) ∧ Below w.heap.size w w' := by
 have HN := Lib.hid fun W => fresh_any s most W h1 h2
 have hnil := nil77 k pa
 have HFN := Lib.hid fun (c0 c1 : Nat) (S0 S1 : List Nat) (w1 w2 : World) (z : Int) (T sT : TypeId) (a1 : Below w.heap.size w w1) (a2 : Below w1.heap.size w1 w2) (a3 : Sto w1 s c0 S0 most [] 0) a4 (a5 : Sto w2 s c1 S1 most [] 0) a6 a7 a8 a9 => bn_new (z := z) (T := T) (sT := sT) hp a1 a2 a3 a4 a5 a6 a7 a8 a9
 obtain ⟨T, hT⟩ : ∃ T, (pKnd k).T = T := ⟨_, rfl⟩
 have HT := Lib.hid hT
 rw [hT] at hnil ⊢
 obtain ⟨zz, hzz⟩ : ∃ z, sideZ s = z := ⟨_, rfl⟩
 have HZ : Hid (zz = 0 ∨ zz = 1) := by show _ ∨ _; rw [← hzz]; cases s; exact .inr rfl; exact .inl rfl
 have HZZ := Lib.hid hzz
 rw [hzz] at HN ⊢
 obtain ⟨sT, hsT⟩ : ∃ z, (sKnd s).T = z := ⟨_, rfl⟩
 have HST := Lib.hid hsT
 rw [hsT] at HN
 clear hp h1 h2 hT hzz hsT
 rcases HZ.out with rfl | rfl
 all_goals
  go_enter Tryz.func57, Tryz.ntmps57
  go_wp2_with fail
  refine (HN.out w).mono ?_
  rintro e w1 ⟨⟨c0, S0, rfl, hW0, hS0⟩, hb1⟩
  have HS0 := Lib.hid hS0
  have HW0 := Lib.hid hW0
  have HB1 := Lib.hid hb1
  clear hW0 hS0 hb1
  go_wp2_with fail
  refine (HN.out w1).mono ?_
  rintro e w2 ⟨⟨c1, S1, rfl, hW1, hS1⟩, hb2⟩
  have HF := Lib.hid (HFN.out c0 c1 S0 S1 w1 w2 _ T sT HB1.out hb2 HS0.out HW0.out hS1 hW1 HZZ.out HT.out HST.out)
  clear HS0 HW0 HB1 hW1 hS1 hb2 HN HFN
  go_wp2
  go_ret2
  exact HF.out
theorem bnew_bad (k : Bool) (pa : Nat) (s : Bool) (most : Int) (w : World) (h : most < 1 ∨ 4096 < most) :
  Calls Tryz.prog 57 #[.iface (pKnd k).T (.pointer (some ⟨pa, 0, none⟩)), .int .i64 (sideZ s), .int .i64 most] w fun e w' => e = .returned (.tuple #[.pointer none, .int .i64 1]) ∧ w = w' := by
 have HN := Lib.hid (fresh_bad s most w h)
 have hnil := nil77 k pa
 obtain ⟨T, hT⟩ : ∃ T, (pKnd k).T = T := ⟨_, rfl⟩
 rw [hT] at hnil ⊢
 obtain ⟨zz, hzz⟩ : ∃ z, sideZ s = z := ⟨_, rfl⟩
 have HZ : Hid (zz = 0 ∨ zz = 1) := by show _ ∨ _; rw [← hzz]; cases s; exact .inr rfl; exact .inl rfl
 rw [hzz] at HN ⊢
 clear hT hzz h
 rcases HZ.out with rfl | rfl
 all_goals
  go_enter Tryz.func57, Tryz.ntmps57
  go_wp2_with fail
  refine HN.out.mono ?_
  rintro e w1 ⟨⟨v, rfl⟩, rfl⟩
  clear HN
  go_wp2
  go_ret2
  exact ⟨rfl, rfl⟩
theorem bnew_side (k : Bool) (pa : Nat) (z most : Int) (w : World) (h : z ≠ 0 ∧ z ≠ 1) :
  Calls Tryz.prog 57 #[.iface (pKnd k).T (.pointer (some ⟨pa, 0, none⟩)), .int .i64 z, .int .i64 most] w fun e w' => e = .returned (.tuple #[.pointer none, .int .i64 1]) ∧ w = w' := by
 have hnil := nil77 k pa
 obtain ⟨T, hT⟩ : ∃ T, (pKnd k).T = T := ⟨_, rfl⟩
 rw [hT] at hnil ⊢
 have d0 : (z != 0) = true := bne_iff_ne.2 h.1
 have d1 : (z != 1) = true := bne_iff_ne.2 h.2
 clear hT h
 go_enter Tryz.func57, Tryz.ntmps57
 go_wp2
 go_ret2
 exact ⟨rfl, rfl⟩
set_option maxRecDepth 100000 in
set_option maxHeartbeats 1000000 in
theorem btot_at (PB : List Nat) (b : Nat) (k : Bool) (pa : Nat) (part : Nat → Int) (rep : Int → Int) (s : Bool) (most : Int) (c0 c1 : Nat) (S0 S1 : List Nat) (ps0 ps1 : List (Int × Int)) (t0 t1 zero t : Int) (w : World)
  (h : BnB PB w b k pa part rep s most c0 c1 S0 S1 ps0 ps1 t0 t1 zero) (hz : 0 ≤ zero) (he : t0 + zero + t1 = t) (ht : t ≤ 9223372036854775807) :
  Calls Tryz.prog 103 #[.pointer (some ⟨b, 0, none⟩)] w fun e w' => e = .returned (.int .u64 t) ∧ Below w.heap.size w w' := by
 have s1 := h.at'
 have p0 := h.s0.sums
 have p1 := h.s1.sums
 have HT0 := Lib.hid fun W (hb : Below w.heap.size w W) => sto_total s c0 S0 most t0 ps0 W (h.s0.below hb)
 have HT1 := Lib.hid fun W (hb : Below w.heap.size w W) => sto_total s c1 S1 most t1 ps1 W (h.s1.below hb)
 have m1 := (sTotal s).1
 have m2 := (sTotal s).2
 have HW : Hid (IntKind.u64.wrap (IntKind.u64.wrap (t0 + zero) + t1) = t) := by show _ = _; simp only [IntKind.wrap_u64]; omega
 obtain ⟨sT, hsT⟩ : ∃ z, (sKnd s).T = z := ⟨_, rfl⟩
 obtain ⟨sF, hsF⟩ : ∃ z, (sKnd s).fT = z := ⟨_, rfl⟩
 rw [hsT] at s1 m1
 rw [hsF] at m1 m2 HT0 HT1
 clear h hz he ht p0 p1 hsT hsF
 go_enter Tryz.func103, Tryz.ntmps103
 go_wp2
 have hfar1 := fun x : Far w => (x.at s1).six
 refine wp_region_far (by kernel_rfl) (by kernel_rfl) ?_
 repeat (first | go_big_quiet_skip | (go_big_quiet_want; go_big_quiet_op; first | go_big_quiet_on | (apply Exists.intro; refine ⟨fun _ => ?_, ?_⟩; (focus (first | (with_reducible refine far_of (HT0.out _ (Far.below _))) | (with_reducible refine far_of (HT1.out _ (Far.below _))))); go_big_quiet_on)))
 refine wpQuiet_nil ?_
 rintro _ ⟨xq, rfl⟩
 clear hfar1
 have hb := xq.below
 rw [HW.out]
 clear HT0 HT1 s1
 go_wp2
 go_ret
 exact ⟨rfl, hb⟩
end Go.Proofs.YtlbnlmhcpephbaaGreatDoor

namespace Go.Proofs.YtlbnlmhcpephbaaGreatDoor
open Go.RowKit
theorem badd_zero (b : Nat) (x : Int) (w : World) : Calls Tryz.prog 185 #[.pointer (some ⟨b, 0, none⟩), .int .i64 x, .int .u64 0] w fun e w' => e = .returned (.int .i64 1) ∧ w = w' := by
 go_enter Tryz.func185, Tryz.ntmps185
 go_wp2
 go_ret
 exact ⟨rfl, rfl⟩
def BaddR (b : Nat) (S : List Nat) (k : Bool) (part : Nat → Int) (rep : Int → Int) (s : Bool) (most : Int) (ps0 ps1 : List (Int × Int)) (t0 t1 zero : Int) (w w' : World) : Prop :=
 ∃ S', GrownS S S' w.heap.size ∧ Bn w' b S' k part rep s most ps0 ps1 t0 t1 zero ∧ Frame S w w'
theorem badd_fin0 {PB : List Nat} {w w1 w2 : World} {b pa c0 c1 : Nat} {k s : Bool} {part : Nat → Int} {rep : Int → Int} {S0 S1 : List Nat} {most t0 t1 zero t : Int} {ps0 ps1 ps : List (Int × Int)} (h : BnB PB w1 b k pa part rep s most c0 c1 S0 S1 ps0 ps1 t0 t1 zero) (hb : Below w.heap.size w w1)
  (hA : StoA s c0 S0 most ps t w1 w2) : BaddR b (PB ++ (b :: (S0 ++ S1))) k part rep s most ps ps1 t t1 zero w w2 := by
 obtain ⟨T, hg, hS, hF⟩ := hA
 have hz := hb.size
 refine ⟨PB ++ (b :: (T ++ S1)), fun j hj => ?_, ⟨_, _, _, _, _, _, rfl, h.side0 hg hS hF⟩, (Frame.of_below hb).trans (hF.mono fun j hj => by simp [hj])⟩
 simp only [List.mem_cons, List.mem_append] at hj ⊢
 rcases hj with hj | rfl | hj | hj
 ·exact .inl (.inl hj)
 ·exact .inl (.inr (.inl rfl))
 ·rcases hg j hj with h1 | h1
  ·exact .inl (.inr (.inr (.inl h1)))
  ·exact .inr (Nat.le_trans hz h1)
 ·exact .inl (.inr (.inr (.inr hj)))
theorem badd_fin1 {PB : List Nat} {w w1 w2 : World} {b pa c0 c1 : Nat} {k s : Bool} {part : Nat → Int} {rep : Int → Int} {S0 S1 : List Nat} {most t0 t1 zero t : Int} {ps0 ps1 ps : List (Int × Int)} (h : BnB PB w1 b k pa part rep s most c0 c1 S0 S1 ps0 ps1 t0 t1 zero) (hb : Below w.heap.size w w1)
  (hA : StoA s c1 S1 most ps t w1 w2) : BaddR b (PB ++ (b :: (S0 ++ S1))) k part rep s most ps0 ps t0 t zero w w2 := by
 obtain ⟨T, hg, hS, hF⟩ := hA
 have hz := hb.size
 refine ⟨PB ++ (b :: (S0 ++ T)), fun j hj => ?_, ⟨_, _, _, _, _, _, rfl, h.side1 hg hS hF⟩, (Frame.of_below hb).trans (hF.mono fun j hj => by simp [hj])⟩
 simp only [List.mem_cons, List.mem_append] at hj ⊢
 rcases hj with hj | rfl | hj | hj
 ·exact .inl (.inl hj)
 ·exact .inl (.inr (.inl rfl))
 ·exact .inl (.inr (.inr (.inl hj)))
 ·rcases hg j hj with h1 | h1
  ·exact .inl (.inr (.inr (.inr h1)))
  ·exact .inr (Nat.le_trans hz h1)
set_option maxRecDepth 100000 in
set_option maxHeartbeats 1000000 in
theorem badd_neg (PB : List Nat) (b : Nat) (k : Bool) (pa : Nat) (part : Nat → Int) (rep : Int → Int) (s : Bool) (most : Int) (c0 c1 : Nat) (S0 S1 : List Nat) (ps0 ps1 : List (Int × Int)) (t0 t1 zero t x c : Int) (w : World)
  (h : BnB PB w b k pa part rep s most c0 c1 S0 S1 ps0 ps1 t0 t1 zero) (hz : 0 ≤ zero) (he : t0 + zero + t1 = t) (hc : 0 < c) (hf : t + c ≤ 9223372036854775807) (hx1 : -9223372036854775808 ≤ x) (hx : x < 0) :
  Calls Tryz.prog 185 #[.pointer (some ⟨b, 0, none⟩), .int .i64 x, .int .u64 c] w fun e w' => e = .returned (.int .i64 0) ∧ BaddR b (PB ++ (b :: (S0 ++ S1))) k part rep s most (capRow s most ps0 (part x.natAbs) c) ps1 (t0 + c) t1 zero w w' := by
 have HT := Lib.hid (btot_at _ _ _ _ _ _ _ _ _ _ _ _ _ _ _ _ _ _ w h hz he (by omega))
 have c0' : (c == 0) = false := beq_eq_false_iff_ne.2 (by omega)
 have p0 := h.s0.sums
 have p1 := h.s1.sums
 have H := Lib.hid h
 have HSG := Lib.hid fun W => sgof_any x W hx1 (by omega)
 have HIX := Lib.hid fun W (hb : Below w.heap.size w W) => h.prt.ix W hb x.natAbs (by omega) (by omega)
 have H0 : Hid (0 ≤ t ∧ t + c ≤ 9223372036854775807 ∧ 0 < c ∧ 0 ≤ zero ∧ t0 ≤ t ∧ t1 ≤ t ∧ zero ≤ t) := ⟨by omega, hf, hc, hz, by omega, by omega, by omega⟩
 obtain ⟨q1, q2⟩ := plus2_yes (a := t) (b := c) (by omega)
 have HP := Lib.hid (And.intro q1 q2)
 have s1 := h.at'
 have m1 := (pIndex k).1
 have m2 := (pIndex k).2
 have HAD := Lib.hid fun W (hb : Below w.heap.size w W) => sto_add s c0 S0 most t0 (part x.natAbs) c ps0 W ((H.out.below hb).s0) H0.out.2.2.1 (by have := H0.out; omega) (by have := h.prt.rng x.natAbs (by omega) (by omega); omega)
 have m3 := (sAdd s).1
 have m4 := (sAdd s).2
 obtain ⟨q, hq⟩ : ∃ q, part x.natAbs = q := ⟨_, rfl⟩
 rw [hq] at HIX HAD
 rw [hq]
 obtain ⟨sT, hsT⟩ : ∃ z, (sKnd s).T = z := ⟨_, rfl⟩
 obtain ⟨sF, hsF⟩ : ∃ z, (sKnd s).fA = z := ⟨_, rfl⟩
 rw [hsT] at s1 m3
 rw [hsF] at m3 m4 HAD
 obtain ⟨m, hm⟩ : ∃ m : Int, (x.natAbs : Int) = m := ⟨_, rfl⟩
 rw [hm] at HSG HIX
 obtain ⟨pT, hpT⟩ : ∃ z, (pKnd k).T = z := ⟨_, rfl⟩
 obtain ⟨pF, hpF⟩ : ∃ z, (pKnd k).fI = z := ⟨_, rfl⟩
 rw [hpT] at s1 m1
 rw [hpF] at m1 m2 HIX
 clear h hz he hc hf p0 p1 q1 q2 hpT hpF hsT hsF hm hq hx1
 go_enter Tryz.func185, Tryz.ntmps185
 go_wp2_with fail
 refine HT.out.mono ?_
 rintro e w1 ⟨rfl, hb⟩
 have z1 := hb.size
 clear HT
 go_wp2_with fail
 have a1 := At.new w1 #[.int .u64 t, .int .u64 c] 23
 refine (plus2_any w1.heap.size t c _ (by have := H0.out; omega) (by have := H0.out; omega) (by have := H0.out; omega) (by have := H0.out; omega) (a1.cell rfl) (a1.cell rfl)).mono ?_
 rintro e w2 ⟨rfl, rfl⟩
 rw [HP.out.1, HP.out.2]
 have hB2 : Below w.heap.size w (w1.alloc (.cells #[.int .u64 t, .int .u64 c] 23)) := (by repeat (first | with_reducible assumption | with_reducible exact Below.refl _ _ | with_reducible refine Below.drew ?_ | with_reducible refine Below.drewN ?_ _ | with_reducible refine Below.setCell ?_ (by first | omega | (simp; done) | (simp; omega)) _ | with_reducible refine Below.alloc ?_ (by first | omega | (simp; done) | (simp; omega) | (simp [World.setCell]; omega)) _))
 obtain ⟨W2, hW2⟩ : ∃ W2, w1.alloc (.cells #[.int .u64 t, .int .u64 c] 23) = W2 := ⟨_, rfl⟩
 have HB2 := Lib.hid hB2
 rw [hW2] at HB2
 try rw [hW2]
 clear hB2 hW2 hb a1 z1
 go_wp2_with fail
 refine (HSG.out W2).mono ?_
 rintro e w3 ⟨rfl, rfl⟩
 rw [decide_eq_true hx]
 clear hx
 have s2 := s1.below HB2.out
 have f2 := s2.six
 have l2 := s2.lt
 clear HSG s1
 go_wp2_with fail
 refine (HIX.out W2 HB2.out).mono ?_
 rintro e w4 ⟨rfl, hb⟩
 have HB4 := Lib.hid (keep1 HB2.out hb)
 have s4 := s2.below hb
 have f4 := s4.six
 have l4 := s4.lt
 clear hb HB2 f2 l2 s2 HIX
 go_wp2_with fail
 refine (HAD.out w4 HB4.out).mono ?_
 rintro e w5 ⟨rfl, hA⟩
 have HF := Lib.hid (badd_fin0 (H.out.below HB4.out) HB4.out hA)
 clear hA f4 l4 s4 HAD H
 go_wp2
 go_ret
 exact ⟨rfl, HF.out⟩
set_option maxRecDepth 100000 in
set_option maxHeartbeats 1000000 in
theorem badd_pos (PB : List Nat) (b : Nat) (k : Bool) (pa : Nat) (part : Nat → Int) (rep : Int → Int) (s : Bool) (most : Int) (c0 c1 : Nat) (S0 S1 : List Nat) (ps0 ps1 : List (Int × Int)) (t0 t1 zero t x c : Int) (w : World)
  (h : BnB PB w b k pa part rep s most c0 c1 S0 S1 ps0 ps1 t0 t1 zero) (hz : 0 ≤ zero) (he : t0 + zero + t1 = t) (hc : 0 < c) (hf : t + c ≤ 9223372036854775807) (hx2 : x ≤ 9223372036854775807) (hx : 0 < x) :
  Calls Tryz.prog 185 #[.pointer (some ⟨b, 0, none⟩), .int .i64 x, .int .u64 c] w fun e w' => e = .returned (.int .i64 0) ∧ BaddR b (PB ++ (b :: (S0 ++ S1))) k part rep s most ps0 (capRow s most ps1 (part x.natAbs) c) t0 (t1 + c) zero w w' := by
 have HT := Lib.hid (btot_at _ _ _ _ _ _ _ _ _ _ _ _ _ _ _ _ _ _ w h hz he (by omega))
 have c0' : (c == 0) = false := beq_eq_false_iff_ne.2 (by omega)
 have p0 := h.s0.sums
 have p1 := h.s1.sums
 have H := Lib.hid h
 have HSG := Lib.hid fun W => sgof_any x W (by omega) hx2
 have HIX := Lib.hid fun W (hb : Below w.heap.size w W) => h.prt.ix W hb x.natAbs (by omega) (by omega)
 have H0 : Hid (0 ≤ t ∧ t + c ≤ 9223372036854775807 ∧ 0 < c ∧ 0 ≤ zero ∧ t0 ≤ t ∧ t1 ≤ t ∧ zero ≤ t) := ⟨by omega, hf, hc, hz, by omega, by omega, by omega⟩
 obtain ⟨q1, q2⟩ := plus2_yes (a := t) (b := c) (by omega)
 have HP := Lib.hid (And.intro q1 q2)
 have s1 := h.at'
 have m1 := (pIndex k).1
 have m2 := (pIndex k).2
 have HAD := Lib.hid fun W (hb : Below w.heap.size w W) => sto_add s c1 S1 most t1 (part x.natAbs) c ps1 W ((H.out.below hb).s1) H0.out.2.2.1 (by have := H0.out; omega) (by have := h.prt.rng x.natAbs (by omega) (by omega); omega)
 have m3 := (sAdd s).1
 have m4 := (sAdd s).2
 obtain ⟨q, hq⟩ : ∃ q, part x.natAbs = q := ⟨_, rfl⟩
 rw [hq] at HIX HAD
 rw [hq]
 obtain ⟨sT, hsT⟩ : ∃ z, (sKnd s).T = z := ⟨_, rfl⟩
 obtain ⟨sF, hsF⟩ : ∃ z, (sKnd s).fA = z := ⟨_, rfl⟩
 rw [hsT] at s1 m3
 rw [hsF] at m3 m4 HAD
 obtain ⟨m, hm⟩ : ∃ m : Int, (x.natAbs : Int) = m := ⟨_, rfl⟩
 rw [hm] at HSG HIX
 obtain ⟨pT, hpT⟩ : ∃ z, (pKnd k).T = z := ⟨_, rfl⟩
 obtain ⟨pF, hpF⟩ : ∃ z, (pKnd k).fI = z := ⟨_, rfl⟩
 rw [hpT] at s1 m1
 rw [hpF] at m1 m2 HIX
 clear h hz he hc hf p0 p1 q1 q2 hpT hpF hsT hsF hm hq hx2
 go_enter Tryz.func185, Tryz.ntmps185
 go_wp2_with fail
 refine HT.out.mono ?_
 rintro e w1 ⟨rfl, hb⟩
 have z1 := hb.size
 clear HT
 go_wp2_with fail
 have a1 := At.new w1 #[.int .u64 t, .int .u64 c] 23
 refine (plus2_any w1.heap.size t c _ (by have := H0.out; omega) (by have := H0.out; omega) (by have := H0.out; omega) (by have := H0.out; omega) (a1.cell rfl) (a1.cell rfl)).mono ?_
 rintro e w2 ⟨rfl, rfl⟩
 rw [HP.out.1, HP.out.2]
 have hB2 : Below w.heap.size w (w1.alloc (.cells #[.int .u64 t, .int .u64 c] 23)) := (by repeat (first | with_reducible assumption | with_reducible exact Below.refl _ _ | with_reducible refine Below.drew ?_ | with_reducible refine Below.drewN ?_ _ | with_reducible refine Below.setCell ?_ (by first | omega | (simp; done) | (simp; omega)) _ | with_reducible refine Below.alloc ?_ (by first | omega | (simp; done) | (simp; omega) | (simp [World.setCell]; omega)) _))
 obtain ⟨W2, hW2⟩ : ∃ W2, w1.alloc (.cells #[.int .u64 t, .int .u64 c] 23) = W2 := ⟨_, rfl⟩
 have HB2 := Lib.hid hB2
 rw [hW2] at HB2
 try rw [hW2]
 clear hB2 hW2 hb a1 z1
 go_wp2_with fail
 refine (HSG.out W2).mono ?_
 rintro e w3 ⟨rfl, rfl⟩
 rw [decide_eq_false (by omega : ¬ x < 0)]
 clear hx
 have s2 := s1.below HB2.out
 have f2 := s2.six
 have l2 := s2.lt
 clear HSG s1
 go_wp2_with fail
 refine (HIX.out W2 HB2.out).mono ?_
 rintro e w4 ⟨rfl, hb⟩
 have HB4 := Lib.hid (keep1 HB2.out hb)
 have s4 := s2.below hb
 have f4 := s4.six
 have l4 := s4.lt
 clear hb HB2 f2 l2 s2 HIX
 go_wp2_with fail
 refine (HAD.out w4 HB4.out).mono ?_
 rintro e w5 ⟨rfl, hA⟩
 have HF := Lib.hid (badd_fin1 (H.out.below HB4.out) HB4.out hA)
 clear hA f4 l4 s4 HAD H
 go_wp2
 go_ret
 exact ⟨rfl, HF.out⟩
set_option maxRecDepth 100000 in
set_option maxHeartbeats 1000000 in
theorem badd_nought (PB : List Nat) (b : Nat) (k : Bool) (pa : Nat) (part : Nat → Int) (rep : Int → Int) (s : Bool) (most : Int) (c0 c1 : Nat) (S0 S1 : List Nat) (ps0 ps1 : List (Int × Int)) (t0 t1 zero t c : Int) (w : World)
  (h : BnB PB w b k pa part rep s most c0 c1 S0 S1 ps0 ps1 t0 t1 zero) (hz : 0 ≤ zero) (he : t0 + zero + t1 = t) (hc : 0 < c) (hf : t + c ≤ 9223372036854775807) :
  Calls Tryz.prog 185 #[.pointer (some ⟨b, 0, none⟩), .int .i64 0, .int .u64 c] w fun e w' => e = .returned (.int .i64 0) ∧ BaddR b (PB ++ (b :: (S0 ++ S1))) k part rep s most ps0 ps1 t0 t1 (zero + c) w w' := by
 have HT := Lib.hid (btot_at _ _ _ _ _ _ _ _ _ _ _ _ _ _ _ _ _ _ w h hz he (by omega))
 have c0' : (c == 0) = false := beq_eq_false_iff_ne.2 (by omega)
 have p0 := h.s0.sums
 have p1 := h.s1.sums
 have H := Lib.hid h
 have HSG := Lib.hid fun W => sgof_any 0 W (by omega) (by omega)
 have HIX := Lib.hid fun W (hb : Below w.heap.size w W) => h.prt.i0 W hb
 have H0 : Hid (0 ≤ t ∧ t + c ≤ 9223372036854775807 ∧ 0 < c ∧ 0 ≤ zero ∧ t0 ≤ t ∧ t1 ≤ t ∧ zero ≤ t) := ⟨by omega, hf, hc, hz, by omega, by omega, by omega⟩
 obtain ⟨q1, q2⟩ := plus2_yes (a := t) (b := c) (by omega)
 have HP := Lib.hid (And.intro q1 q2)
 have s1 := h.at'
 have m1 := (pIndex k).1
 have m2 := (pIndex k).2
 have HW : Hid (IntKind.u64.wrap (zero + c) = zero + c) := by show _ = _; simp only [IntKind.wrap_u64]; have := H0.out; omega
 obtain ⟨pT, hpT⟩ : ∃ z, (pKnd k).T = z := ⟨_, rfl⟩
 obtain ⟨pF, hpF⟩ : ∃ z, (pKnd k).fI = z := ⟨_, rfl⟩
 rw [hpT] at s1 m1
 rw [hpF] at m1 m2 HIX
 clear h hz he hc hf p0 p1 q1 q2 hpT hpF
 go_enter Tryz.func185, Tryz.ntmps185
 go_wp2_with fail
 refine HT.out.mono ?_
 rintro e w1 ⟨rfl, hb⟩
 have z1 := hb.size
 clear HT
 go_wp2_with fail
 have a1 := At.new w1 #[.int .u64 t, .int .u64 c] 23
 refine (plus2_any w1.heap.size t c _ (by have := H0.out; omega) (by have := H0.out; omega) (by have := H0.out; omega) (by have := H0.out; omega) (a1.cell rfl) (a1.cell rfl)).mono ?_
 rintro e w2 ⟨rfl, rfl⟩
 rw [HP.out.1, HP.out.2]
 have hB2 : Below w.heap.size w (w1.alloc (.cells #[.int .u64 t, .int .u64 c] 23)) := (by repeat (first | with_reducible assumption | with_reducible exact Below.refl _ _ | with_reducible refine Below.drew ?_ | with_reducible refine Below.drewN ?_ _ | with_reducible refine Below.setCell ?_ (by first | omega | (simp; done) | (simp; omega)) _ | with_reducible refine Below.alloc ?_ (by first | omega | (simp; done) | (simp; omega) | (simp [World.setCell]; omega)) _))
 obtain ⟨W2, hW2⟩ : ∃ W2, w1.alloc (.cells #[.int .u64 t, .int .u64 c] 23) = W2 := ⟨_, rfl⟩
 have HB2 := Lib.hid hB2
 rw [hW2] at HB2
 try rw [hW2]
 clear hB2 hW2 hb a1 z1
 go_wp2_with fail
 refine (HSG.out W2).mono ?_
 rintro e w3 ⟨rfl, rfl⟩
 rw [show ((Int.natAbs 0 : Nat) : Int) = 0 from rfl, show decide ((0 : Int) < 0) = false from rfl]
 have s2 := s1.below HB2.out
 have f2 := s2.six
 have l2 := s2.lt
 clear HSG s1
 go_wp2_with fail
 refine (HIX.out W2 HB2.out).mono ?_
 rintro e w4 ⟨rfl, hb⟩
 have HB4 := Lib.hid (keep1 HB2.out hb)
 have s4 := s2.below hb
 have f4 := s4.six
 have l4 := s4.lt
 clear hb HB2 f2 l2 s2 HIX
 have HR : Hid (BaddR b (PB ++ (b :: (S0 ++ S1))) k part rep s most ps0 ps1 t0 t1 (zero + c) w (w4.setCell ⟨b, 5, none⟩ (.int .u64 (zero + c)))) :=
  ⟨_, GrownS.refl _ _, ⟨_, _, _, _, _, _, rfl, (H.out.below HB4.out).noughts⟩, ((Frame.of_below HB4.out).trans (Frame.refl _ _)).setc (.inl (by simp)) 5 _⟩
 clear s4 H
 go_wp2
 rw [HW.out]
 go_ret
 exact ⟨rfl, HR.out⟩
end Go.Proofs.YtlbnlmhcpephbaaGreatDoor
