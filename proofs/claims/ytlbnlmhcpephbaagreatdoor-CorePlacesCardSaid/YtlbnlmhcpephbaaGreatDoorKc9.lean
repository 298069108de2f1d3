/- Texts of this claim, joined, indents halved: CellsAll, Sto, Prt, Bn, BnAdd, BnAsk, BnFind, BnRank, BnMerge, Exact13, Ref13, VEnds. -/
import Derived.Test.YtlbnlmhcpephbaaGreatDoorProg
import Derived.Maps.AppendAt
import Derived.OwnWalk
import Derived.Below
import Derived.Test.YtlbnlmhcpephbaaGreatDoorKc8
namespace Go.Proofs.YtlbnlmhcpephbaaGreatDoor
def mostN : Nat := 9223372036854775808
def topN : Nat := 9223372036854775807
def repR (u v low : Nat) : Nat := low * (v + u) / v
def repN (u v low : Nat) : Nat := min (repR u v low) topN
def highN (u v low : Nat) : Nat := if mostN < repR u v low then mostN else min (repR u v low * v / (v - u)) mostN
def cellsF (u v : Nat) : Nat → Nat → Option (List Nat)
  | fuel, low => if mostN < low then some [] else match fuel with
    | 0 => none
    | f + 1 => (cellsF u v f (highN u v low + 1)).map (low :: ·)
def Chain (u v : Nat) : Nat → List Nat → Prop
 | low, [] => mostN < low
 | low, x :: L => x = low ∧ low ≤ mostN ∧ Chain u v (highN u v low + 1) L
theorem chain_of : ∀ {fuel low : Nat} {u v : Nat} {L : List Nat}, cellsF u v fuel low = some L → Chain u v low L ∧ L.length ≤ fuel := by
  intro fuel
  induction fuel with
  | zero =>
    intro low u v L h
    unfold cellsF at h
    by_cases hl : mostN < low
    · rw [if_pos hl] at h; cases h; exact ⟨hl, by simp⟩
    · rw [if_neg hl] at h; cases h
  | succ f ih =>
    intro low u v L h
    unfold cellsF at h
    by_cases hl : mostN < low
    · rw [if_pos hl] at h; cases h; exact ⟨hl, by simp⟩
    · rw [if_neg hl] at h
      dsimp only at h
      cases hc : cellsF u v f (highN u v low + 1) with
      | none => rw [hc] at h; cases h
      | some M =>
        rw [hc] at h
        cases h
        have := ih hc
        exact ⟨⟨rfl, by omega, this.1⟩, by simp; exact this.2⟩
theorem repR_ge {u v low : Nat} (hv : 0 < v) : low ≤ repR u v low := by
 unfold repR
 rw [Nat.le_div_iff_mul_le hv, Nat.mul_add]
 omega
theorem highN_ge {u v low : Nat} (hu : u < v) (hl : low ≤ mostN) : low ≤ highN u v low := by
 unfold highN
 split
 ·exact hl
 ·rw [Nat.le_min]
  refine ⟨?_, hl⟩
  have h1 := repR_ge (u := u) (v := v) (low := low) (by omega)
  rw [Nat.le_div_iff_mul_le (by omega)]
  exact Nat.mul_le_mul h1 (by omega)
theorem highN_le {u v low : Nat} : highN u v low ≤ mostN := by
 unfold highN
 split
 ·exact Nat.le_refl _
 ·exact Nat.min_le_right _ _
theorem chain_at {u v : Nat} (hv : u < v) : ∀ {L : List Nat} {low : Nat}, Chain u v low L → (∀ i (h : i < L.length), low ≤ L[i]'h ∧ L[i]'h ≤ mostN) ∧ (∀ i (h : i + 1 < L.length), L[i + 1]'h = highN u v (L[i]'(by omega)) + 1) ∧ (∀ h : 0 < L.length, L[0]'h = low ∧ highN u v (L[L.length - 1]'(by omega)) = mostN)
  | [], low, hc => ⟨fun i h => by simp at h, fun i h => by simp at h, fun h => by simp at h⟩
  | x :: L, low, ⟨hx, h3, hc⟩ => by
    subst hx
    obtain ⟨a1, a2, a3⟩ := chain_at hv hc
    have hg := highN_ge hv h3
    refine ⟨fun i h => ?_, fun i h => ?_, fun h => ?_⟩
    · cases i with
      | zero => exact ⟨Nat.le_refl _, h3⟩
      | succ i => have := a1 i (by simpa using h); exact ⟨by simp only [List.getElem_cons_succ]; omega, by simpa using this.2⟩
    · cases i with
      | zero => simpa using (a3 (by simpa using h)).1
      | succ i => simpa using a2 i (by simpa using h)
    · refine ⟨rfl, ?_⟩
      cases L with
      | nil =>
        have h4 : mostN < highN u v x + 1 := hc
        have h5 := highN_le (u := u) (v := v) (low := x)
        simp only [List.length_cons, List.length_nil, Nat.zero_add, Nat.sub_self, List.getElem_cons_zero]
        omega
      | cons y L =>
        have := (a3 (by simp)).2
        simpa using this
theorem chain_sorted {u v : Nat} (hv : u < v) {L : List Nat} {low : Nat} (hc : Chain u v low L) : L.Pairwise (· < ·) := by
  induction L generalizing low with
  | nil => exact List.Pairwise.nil
  | cons x L ih =>
    obtain ⟨rfl, h3, hc⟩ := hc
    refine List.pairwise_cons.2 ⟨fun y hy => ?_, ih hc⟩
    obtain ⟨i, hi, rfl⟩ := List.getElem_of_mem hy
    have := ((chain_at hv hc).1 i hi).1
    have := highN_ge hv h3
    omega
structure At' (L : List Nat) (m k : Nat) : Prop where
 le : k ≤ L.length
 under : ∀ j (h : j < L.length), j < k → L[j]'h < m
 over : ∀ h : k < L.length, m ≤ L[k]'h
end Go.Proofs.YtlbnlmhcpephbaaGreatDoor
namespace Go.Proofs.YtlbnlmhcpephbaaGreatDoor
open Go.RowKit
def OwnU (base : Nat) (w : World) (A : Option Addr) (cap : Nat) (xs : List Int) : Prop := w.ownsRow base 23 1 (.slice A xs.length cap) xs.length (xs.map (Value.int .u64))
def RdU (w : World) (A : Option Addr) (xs : List Int) : Prop := Rd w A (xs.map (Value.int .u64))
theorem RdU.below {w w' : World} {A : Option Addr} {xs : List Int} (h : RdU w A xs) (hb : Below w.heap.size w w') : RdU w' A xs := Rd.below h hb
theorem RdU.at {w : World} {A : Option Addr} {xs : List Int} (h : RdU w A xs) (j : Nat) (hj : j < xs.length) : ∃ g o, A = some ⟨g, o, none⟩ ∧ g < w.heap.size ∧ w.cell? ⟨g, o + j, none⟩ = some (.int .u64 (xs[j]'hj)) := by
 obtain ⟨g, o, e, hg, hc⟩ := h j (.int .u64 (xs[j]'hj)) (by rw [List.getElem?_map, List.getElem?_eq_getElem hj]; rfl)
 exact ⟨g, o, e, hg, hc⟩
def SepA (A B : Option Addr) : Prop := ∀ a b, A = some a → B = some b → a.block ≠ b.block
end Go.Proofs.YtlbnlmhcpephbaaGreatDoor
namespace Go.Proofs.YtlbnlmhcpephbaaGreatDoor
open Go.RowKit
def goodC (u v : Int) : Bool := decide (0 < u ∧ u < v ∧ v ≤ 2147483648)
def castL (L : List Nat) : List Int := L.map fun n : Nat => (n : Int)
theorem castL_length (L : List Nat) : (castL L).length = L.length := by simp [castL]
theorem castL_getD {L : List Nat} {j : Nat} (hj : j < L.length) : (castL L)[j]'(by rw [castL_length]; exact hj) = ((L.getD j 0 : Nat) : Int) := by
 simp [castL, List.getD_eq_getElem?_getD, hj]
theorem RdU.atN {w : World} {A : Option Addr} {L : List Nat} (h : RdU w A (castL L)) (j : Nat) (hj : j < L.length) : ∃ g o, A = some ⟨g, o, none⟩ ∧ g < w.heap.size ∧ w.cell? ⟨g, o + j, none⟩ = some (.int .u64 (L.getD j 0 : Nat)) := by
 obtain ⟨g, o, e, hg, hc⟩ := h.at j (by rw [castL_length]; exact hj)
 rw [castL_getD hj] at hc
 exact ⟨g, o, e, hg, hc⟩
theorem At.four {w : World} {b : Nat} {T : TypeId} {v0 v1 v2 v3 : Value} (h : At w b #[v0, v1, v2, v3] T) : (w.cell? ⟨b, 0, none⟩ = some v0 ∧ w.cell? ⟨b, 1, none⟩ = some v1 ∧ w.cell? ⟨b, 2, none⟩ = some v2 ∧ w.cell? ⟨b, 3, none⟩ = some v3) ∧
  (w.frozen? ⟨b, 0, none⟩ = false ∧ w.frozen? ⟨b, 1, none⟩ = false ∧ w.frozen? ⟨b, 2, none⟩ = false ∧ w.frozen? ⟨b, 3, none⟩ = false) := ⟨⟨h.cell rfl, h.cell rfl, h.cell rfl, h.cell rfl⟩, h.frozen 0, h.frozen 1, h.frozen 2, h.frozen 3⟩
structure Tab (W : World) (b : Nat) (u v : Int) (L R : List Nat) : Prop where
 tab : ∃ A c A2 c2, At W b #[.int .u64 u, .int .u64 v, .slice A L.length c, .slice A2 R.length c2] 198 ∧ RdU W A (castL L) ∧ RdU W A2 (castL R)
 len : L.length ≤ 4096
 len2 : R.length ≤ 4096
theorem Tab.below {W W' : World} {b : Nat} {u v : Int} {L R : List Nat} (h : Tab W b u v L R) (hb : Below W.heap.size W W') : Tab W' b u v L R := by
 obtain ⟨⟨A, c, A2, c2, h1, h2, h3⟩, h4, h5⟩ := h
 exact ⟨⟨A, c, A2, c2, h1.below hb, h2.below hb, h3.below hb⟩, h4, h5⟩
def atL (L : List Nat) (i : Int) : Nat := if 0 ≤ i ∧ i < L.length then L.getD i.toNat 0 else 0
def highL (L : List Nat) (i : Int) : Nat := if 0 ≤ i ∧ i < L.length then (if i = L.length - 1 then mostN else L.getD (i.toNat + 1) 0 - 1) else 0
set_option maxRecDepth 100000 in
theorem crep_any (b : Nat) (u v : Int) (L R : List Nat) (i : Int) (w : World) (h : Tab w b u v L R) :
  Calls Tryz.prog 382 #[.pointer (some ⟨b, 0, none⟩), .int .i64 i] w fun e w' => e = .returned (.int .u64 (atL R i : Nat)) ∧ w = w' := by
 obtain ⟨⟨A, c, A2, c2, h1, h2, h3⟩, h4, h5⟩ := h
 have f1 := h1.four.1
 by_cases a : 0 ≤ i ∧ i < R.length
 ·obtain ⟨a1, a2⟩ := a
  obtain ⟨k, rfl⟩ := Int.eq_ofNat_of_zero_le a1
  obtain ⟨g, o, rfl, hg, hc⟩ := h3.atN k (by omega)
  have HE : Hid (atL R k = R.getD k 0) := by show _ = _; unfold atL; rw [if_pos ⟨a1, a2⟩]; rfl
  rw [HE.out]
  obtain ⟨x, hx⟩ : ∃ x, R.getD k 0 = x := ⟨_, rfl⟩
  rw [hx] at hc ⊢
  obtain ⟨n, hn⟩ : ∃ n, R.length = n := ⟨_, rfl⟩
  rw [hn] at f1 a2 h5
  have a3 : ¬ (k : Int) < 0 := by omega
  have a4 : ¬ (n : Int) ≤ k := by omega
  clear h1 h2 h3 hx hn HE
  go_enter Tryz.func382, Tryz.ntmps382
  go_wp2
  go_ret
  exact ⟨rfl, rfl⟩
 ·have HE : Hid (atL R i = 0) := by show _ = _; unfold atL; rw [if_neg a]
  rw [HE.out]
  obtain ⟨n, hn⟩ : ∃ n, R.length = n := ⟨_, rfl⟩
  rw [hn] at f1 a h5
  clear h1 h2 h3 hn HE
  by_cases a1 : i < 0
  ·clear a
   go_enter Tryz.func382, Tryz.ntmps382
   go_wp2
   go_ret
   exact ⟨rfl, rfl⟩
  ·have a2 : (n : Int) ≤ i := by omega
   clear a
   go_enter Tryz.func382, Tryz.ntmps382
   go_wp2
   go_ret
   exact ⟨rfl, rfl⟩
end Go.Proofs.YtlbnlmhcpephbaaGreatDoor
namespace Go.Proofs.YtlbnlmhcpephbaaGreatDoor
open Go.RowKit
theorem nan1_any (x : Int) (w : World) : Calls Tryz.prog 386 #[.int .u64 x] w fun e w' => e = .returned (.bool false) ∧ w = w' := by
 go_enter Tryz.func386, Tryz.ntmps386
 go_wp2
 go_ret
 exact ⟨by first | rfl | simp, rfl⟩
theorem nan2_any (x : Int) (w : World) : Calls Tryz.prog 385 #[.int .u64 x] w fun e w' => e = .returned (.bool false) ∧ w = w' := by
 go_enter Tryz.func385, Tryz.ntmps385
 go_wp2
 go_ret
 exact ⟨by first | rfl | simp, rfl⟩
theorem cmpless_any (x y : Int) (w : World) : Calls Tryz.prog 384 #[.int .u64 x, .int .u64 y] w fun e w' => e = .returned (.bool (decide (x < y))) ∧ w = w' := by
 go_enter Tryz.func384, Tryz.ntmps384
 go_wp2_with fail
 refine (nan1_any x w).mono ?_
 rintro e w1 ⟨rfl, rfl⟩
 go_wp2
 go_ret
 exact ⟨by first | rfl | simp, rfl⟩
theorem sorted_getD {L : List Nat} (hs : L.Pairwise (· < ·)) {x y : Nat} (h : x ≤ y) (hy : y < L.length) : L.getD x 0 ≤ L.getD y 0 := by
 rw [List.getD_eq_getElem?_getD, List.getD_eq_getElem?_getD, List.getElem?_eq_getElem hy, List.getElem?_eq_getElem (by omega)]
 rcases Nat.lt_or_eq_of_le h with h | rfl
 ·exact Nat.le_of_lt (List.pairwise_iff_getElem.1 hs x y (by omega) hy h)
 ·exact Nat.le_refl _
theorem getD_at {L : List Nat} {j : Nat} (h : j < L.length) : L[j]'h = L.getD j 0 := by
 rw [List.getD_eq_getElem?_getD, List.getElem?_eq_getElem h]; rfl
def BsR (L : List Nat) (m : Nat) (e : Ending) : Prop := ∃ k : Nat, ∃ f : Bool, e = .returned (.tuple #[.int .i64 k, .bool f]) ∧ At' L m k ∧ (f = true ↔ k < L.length ∧ L.getD k 0 = m)
set_option maxRecDepth 100000 in
set_option maxHeartbeats 2000000 in
theorem bsearch_any (A : Option Addr) (c : Nat) (L : List Nat) (m : Nat) (w : World) (h : RdU w A (castL L)) (hs : L.Pairwise (· < ·)) (hl : L.length ≤ 4096) :
  Calls Tryz.prog 383 #[.slice A L.length c, .int .u64 m] w fun e w' => BsR L m e ∧ w = w' := by
 have HA := Lib.hid (fun j (hj : j < L.length) => h.atN j hj)
 have HS := Lib.hid (fun (x y : Nat) (h : x ≤ y) (hy : y < L.length) => sorted_getD hs h hy)
 obtain ⟨n, hn⟩ : ∃ n, L.length = n := ⟨_, rfl⟩
 rw [hn] at HA HS hl ⊢
 replace hn := Lib.hid hn
 clear h hs
 go_enter Tryz.func383, Tryz.ntmps383
 go_wp2
 go_loop [7, 8] (fun I J => ∃ i j : Nat, i ≤ j ∧ j ≤ n ∧ I = .int .i64 i ∧ J = .int .i64 j ∧ Hid (∀ x, x < i → L.getD x 0 < m) ∧ Hid (∀ x, j ≤ x → x < n → m ≤ L.getD x 0)) (fun I J => (intOf J).toNat - (intOf I).toNat)
 case atStart => exact ⟨0, n, by omega, by omega, rfl, rfl, Lib.hid (fun x hx => by omega), Lib.hid (fun x h1 h2 => by omega)⟩
 case round =>
  obtain ⟨i, j, hij, hjn, rfl, rfl, Hlo, Hhi⟩ := hrel
  by_cases hlt : i < j
  ·have hlt' : (i : Int) < j := by omega
   obtain ⟨H, hH⟩ : ∃ H, (i + j) / 2 = H := ⟨_, rfl⟩
   obtain ⟨g, o, rfl, hg, hc⟩ := HA.out H (by omega)
   have v1 : ((i : Int) + j) / 2 = (H : Int) := by omega
   have hHj : i ≤ H ∧ H < j := by omega
   obtain ⟨y, hy⟩ : ∃ y, L.getD H 0 = y := ⟨_, rfl⟩
   rw [hy] at hc
   replace hy := Lib.hid hy
   have k0 : (0 : Int) ≤ H := by omega
   have k1 : (H : Int) < n := by omega
   have v2 : IntKind.i64.wrap ((H : Int) + 1) = H + 1 := by simp only [IntKind.wrap_i64]; omega
   clear hH
   go_wp2_with fail
   refine (cmpless_any y m w).mono ?_
   rintro e w1 ⟨rfl, rfl⟩
   by_cases hym : y < m
   ·have hym' : (y : Int) < m := by omega
    have Hlo2 : Hid (∀ x, x < H + 1 → L.getD x 0 < m) := fun x hx => by
     have := HS.out x H (by omega) (by omega)
     rw [hy.out] at this
     omega
    clear Hlo
    go_wp2
    go_round
    case rel => exact ⟨H + 1, j, by omega, hjn, by go_num, rfl, Hlo2, Hhi⟩
    case measure => simp [intOf]; omega
   ·have hym' : ¬ (y : Int) < m := by omega
    have Hhi2 : Hid (∀ x, H ≤ x → x < n → m ≤ L.getD x 0) := fun x h1 h2 => by
     have := HS.out H x h1 (by omega)
     rw [hy.out] at this
     omega
    clear Hhi
    go_wp2
    go_round
    case rel => exact ⟨i, H, by omega, by omega, rfl, rfl, Hlo, Hhi2⟩
    case measure => simp [intOf]; omega
  ·obtain rfl : i = j := by omega
   have HAt : Hid (At' L m i) := ⟨by rw [hn.out]; omega, fun j hj h => by rw [getD_at]; exact Hlo.out j h, fun h => by rw [getD_at]; exact Hhi.out i (Nat.le_refl _) (by rw [← hn.out]; exact h)⟩
   clear Hlo Hhi HS
   by_cases hin : i < n
   ·obtain ⟨g, o, rfl, hg, hc⟩ := HA.out i hin
    obtain ⟨y, hy⟩ : ∃ y, L.getD i 0 = y := ⟨_, rfl⟩
    rw [hy] at hc
    replace hy := Lib.hid hy
    have k0 : (0 : Int) ≤ i := by omega
    have k1 : (i : Int) < n := by omega
    by_cases e : y = m
    ·have HE : Hid (L.getD i 0 = m) := hy.out.trans e
     subst e
     clear hy
     go_wp2
     go_ret2
     exact ⟨⟨i, true, rfl, HAt.out, ⟨fun _ => ⟨by rw [hn.out]; exact hin, HE.out⟩, fun _ => rfl⟩⟩, rfl⟩
    ·have e' : ((y : Int) == (m : Int)) = false := beq_eq_false_iff_ne.2 (by omega)
     have HNe := Lib.hid e
     clear e
     go_wp2_with fail
     refine (nan2_any y w).mono ?_
     rintro e w1 ⟨rfl, rfl⟩
     go_wp2
     go_ret2
     exact ⟨⟨i, false, rfl, HAt.out, ⟨fun h => (by cases h), fun h => absurd (hy.out.symm.trans h.2) HNe.out⟩⟩, rfl⟩
   ·obtain rfl : i = n := by omega
    have hin' : ¬ (i : Int) < i := by omega
    clear HA
    go_wp2
    go_ret2
    exact ⟨⟨i, false, rfl, HAt.out, ⟨fun h => (by cases h), fun h => absurd (h.1) (by rw [hn.out]; exact Nat.lt_irrefl _)⟩⟩, rfl⟩
def cellAt (L : List Nat) (m : Nat) (i : Nat) : Prop := i < L.length ∧ L.getD i 0 ≤ m ∧ (i + 1 < L.length → m < L.getD (i + 1) 0)
def IxR (L : List Nat) (m : Nat) (e : Ending) : Prop := ((m = 0 ∨ mostN < m) ∧ e = .returned (.tuple #[.int .i64 0, .bool false])) ∨ (1 ≤ m ∧ m ≤ mostN ∧ ∃ i : Nat, e = .returned (.tuple #[.int .i64 i, .bool true]) ∧ cellAt L m i)
set_option maxRecDepth 100000 in
theorem cindex_any (b : Nat) (u v : Int) (L R : List Nat) (m : Nat) (w : World) (h : Tab w b u v L R) (hs : L.Pairwise (· < ·)) (h0 : 0 < L.length) (h1 : L.getD 0 0 = 1) (hm : m < 18446744073709551616) :
    Calls Tryz.prog 380 #[.pointer (some ⟨b, 0, none⟩), .int .u64 m] w fun e w' =>
      IxR L m e ∧ w = w' := by
  obtain ⟨⟨A, c, A2, c2, t1, t2, t3⟩, h4, h5⟩ := h
  have f1 := t1.four.1
  by_cases a : m = 0
  · subst a
    clear t1 t2 t3
    go_enter Tryz.func380, Tryz.ntmps380
    go_wp2
    go_ret2
    exact ⟨.inl ⟨.inl rfl, rfl⟩, rfl⟩
  have a' : ((m : Int) == 0) = false := beq_eq_false_iff_ne.2 (by omega)
  by_cases a2 : mostN < m
  · have a2' : (9223372036854775808 : Int) < m := by unfold mostN at a2; omega
    have HM := Lib.hid a2
    clear t1 t2 t3 a2
    go_enter Tryz.func380, Tryz.ntmps380
    go_wp2
    go_ret2
    exact ⟨.inl ⟨.inr HM.out, rfl⟩, rfl⟩
  have a2' : ¬ (9223372036854775808 : Int) < m := by unfold mostN at a2; omega
  have HM : Hid (1 ≤ m ∧ m ≤ mostN) := ⟨by omega, by omega⟩
  have H0 := Lib.hid h0
  have H1 := Lib.hid h1
  clear a a2 h0 h1
  go_enter Tryz.func380, Tryz.ntmps380
  go_wp2_with fail
  refine (bsearch_any A c L m w t2 hs h4).mono ?_
  rintro e w1 ⟨⟨k, f, rfl, HAt, Hf⟩, rfl⟩
  have HC : Hid (cellAt L m (if f = true then k else k - 1) ∧ (f = false → 1 ≤ k) ∧ k ≤ 4096) := by
    have z0 := H0.out
    have z1 := H1.out
    have z2 := HM.out
    have zle := HAt.le
    refine ⟨?_, ?_, by omega⟩
    · cases f with
      | true =>
        obtain ⟨k1, k2⟩ := Hf.1 rfl
        rw [if_pos rfl]
        refine ⟨k1, by omega, fun h => ?_⟩
        have := List.pairwise_iff_getElem.1 hs k (k + 1) k1 h (by omega)
        rw [getD_at, getD_at] at this
        omega
      | false =>
        have hk : 1 ≤ k := by
          rcases Nat.eq_zero_or_pos k with rfl | h
          · have h1 := HAt.over z0
            rw [getD_at] at h1
            have : ¬ (0 < L.length ∧ L.getD 0 0 = m) := fun h => by have := Hf.2 h; cases this
            exact absurd ⟨z0, by omega⟩ this
          · exact h
        have h2 := HAt.under (k - 1) (by omega) (by omega)
        rw [getD_at] at h2
        rw [if_neg (by decide)]
        refine ⟨by omega, by omega, fun h => ?_⟩
        rw [Nat.sub_add_cancel hk] at h ⊢
        have h3 := HAt.over h
        rw [getD_at] at h3
        rcases Nat.lt_or_eq_of_le h3 with h4 | h4
        · exact h4
        · have := Hf.2 ⟨h, h4.symm⟩; cases this
    · rintro rfl
      rcases Nat.eq_zero_or_pos k with rfl | h
      · have h1 := HAt.over z0
        rw [getD_at] at h1
        have : ¬ (0 < L.length ∧ L.getD 0 0 = m) := fun h => by have := Hf.2 h; cases this
        exact absurd ⟨z0, by omega⟩ this
      · exact h
  clear HAt Hf t1 t2 t3 hs
  cases f with
  | true =>
    go_wp2
    go_ret2
    exact ⟨.inr ⟨HM.out.1, HM.out.2, k, rfl, HC.out.1⟩, rfl⟩
  | false =>
    have hk := HC.out.2.1 rfl
    have hk2 := HC.out.2.2
    have v1 : IntKind.i64.wrap ((k : Int) - 1) = ((k - 1 : Nat) : Int) := by simp only [IntKind.wrap_i64]; omega
    go_wp2
    go_ret2
    exact ⟨.inr ⟨HM.out.1, HM.out.2, k - 1, rfl, HC.out.1⟩, rfl⟩
end Go.Proofs.YtlbnlmhcpephbaaGreatDoor
namespace Go.Proofs.YtlbnlmhcpephbaaGreatDoor
open Go.RowKit
structure Tb (w0 : World) (B0 b : Nat) (u v : Int) (W : World) (fa fb : Value) (A : Option Addr) (c : Nat) (xs : List Int) (A2 : Option Addr) (c2 : Nat) (ys : List Int) : Prop where
 tab : At W b #[.int .u64 u, .int .u64 v, fa, fb] 198
 own1 : OwnU (b + 1) W A c xs
 own2 : OwnU (b + 1) W A2 c2 ys
 sep : SepA A A2
 arg : At W B0 #[.int .u64 u, .int .u64 v] 25
 below : Below w0.heap.size w0 W
 lt : B0 < b
 le : w0.heap.size ≤ B0
section
variable {w0 W W' : World} {B0 b : Nat} {u v : Int} {fa fb : Value} {A A2 : Option Addr} {c c2 : Nat} {xs ys : List Int}
end
def TabW (b : Nat) (u v : Int) (fa fb : Value) (W : World) : Prop := At W b #[.int .u64 u, .int .u64 v, fa, fb] 198
def NewR (u v : Nat) (e : Ending) (w' : World) : Prop := match cellsF u v 4096 1 with
 | none => e = .returned (.tuple #[.pointer none, .int .i64 6])
 | some L => ∃ b, e = .returned (.tuple #[.pointer (some ⟨b, 0, none⟩), .int .i64 0]) ∧ Tab w' b u v L (L.map (repN u v))
def TabN (n0 : Nat) (W : World) (b : Nat) (u v : Int) (L R : List Nat) : Prop := n0 ≤ b ∧ ∃ A c A2 c2, At W b #[.int .u64 u, .int .u64 v, .slice A L.length c, .slice A2 R.length c2] 198 ∧ RdU W A (castL L) ∧ RdU W A2 (castL R) ∧ (∀ g, A = some g → n0 ≤ g.block) ∧ (∀ g, A2 = some g → n0 ≤ g.block)
def NewN (u v n0 : Nat) (e : Ending) (w' : World) : Prop := match cellsF u v 4096 1 with
 | none => e = .returned (.tuple #[.pointer none, .int .i64 6])
 | some L => ∃ b, e = .returned (.tuple #[.pointer (some ⟨b, 0, none⟩), .int .i64 0]) ∧ TabN n0 w' b u v L (L.map (repN u v))
end Go.Proofs.YtlbnlmhcpephbaaGreatDoor
namespace Go.Proofs.YtlbnlmhcpephbaaGreatDoor
open Go.RowKit
structure CellsOf (u v : Nat) (L : List Nat) : Prop where
 u0 : 0 < u
 uv : u < v
 v1 : v ≤ 2147483648
 pos : 0 < L.length
 len : L.length ≤ 4096
 first : L.getD 0 0 = 1
 sorted : L.Pairwise (· < ·)
 bd : ∀ x ∈ L, 1 ≤ x ∧ x ≤ mostN
 chain : Chain u v 1 L
def NewG (u v : Nat) (e : Ending) (w' : World) : Prop := (∃ p k, e = .returned (.tuple #[.pointer p, .int .i64 k]) ∧ (k = 1 ∨ k = 6)) ∨
 ∃ b L, e = .returned (.tuple #[.pointer (some ⟨b, 0, none⟩), .int .i64 0]) ∧ CellsOf u v L ∧ Tab w' b u v L (L.map (repN u v))
end Go.Proofs.YtlbnlmhcpephbaaGreatDoor
namespace Go.Proofs.YtlbnlmhcpephbaaGreatDoor
open Go.RowKit
structure Tw (w0 : World) (B0 : Nat) (u v : Int) (W : World) (A : Option Addr) (c : Nat) (xs : List Int) (A2 : Option Addr) (c2 : Nat) (ys : List Int) : Prop where
 own1 : OwnU (B0 + 1) W A c xs
 own2 : OwnU (B0 + 1) W A2 c2 ys
 sep : SepA A A2
 arg : At W B0 #[.int .u64 u, .int .u64 v] 25
 below : Below w0.heap.size w0 W
 le : w0.heap.size ≤ B0
section
variable {w0 W W' : World} {B0 : Nat} {u v : Int} {A A2 : Option Addr} {c c2 : Nat} {xs ys : List Int}
end
def RcR (u v : Nat) (e : Ending) (w' : World) : Prop := match cellsF u v 4096 1 with
 | none => e = .returned (.tuple #[.slice none 0 0, .slice none 0 0, .bool false])
 | some L => ∃ A c A2 c2, e = .returned (.tuple #[.slice A L.length c, .slice A2 L.length c2, .bool true]) ∧ RdU w' A (castL L) ∧ RdU w' A2 (castL (L.map (repN u v)))
def RcN (n0 : Nat) (u v : Nat) (e : Ending) (w' : World) : Prop := match cellsF u v 4096 1 with
 | none => e = .returned (.tuple #[.slice none 0 0, .slice none 0 0, .bool false])
 | some L => ∃ A c A2 c2, e = .returned (.tuple #[.slice A L.length c, .slice A2 L.length c2, .bool true]) ∧ RdU w' A (castL L) ∧ RdU w' A2 (castL (L.map (repN u v))) ∧ (∀ g, A = some g → n0 ≤ g.block) ∧ (∀ g, A2 = some g → n0 ≤ g.block)
end Go.Proofs.YtlbnlmhcpephbaaGreatDoor

namespace Go.Proofs.YtlbnlmhcpephbaaGreatDoor
open Go.RowKit
structure SKnd where
 T : TypeId
 fA : FuncId
 fT : FuncId
 fL : FuncId
 fP : FuncId
 fF : FuncId
 fB : FuncId
def sKnd : Bool → SKnd
 | true => ⟨242, 134, 135, 396, 397, 395, 394⟩
 | false => ⟨239, 132, 133, 392, 393, 391, 390⟩
def Meth (T : TypeId) (name : String) (f : FuncId) : Prop := (∀ (c : Nat) (w : World), (method 545 T (.pointer (some ⟨c, 0, none⟩)) name).run Tryz.prog w = .ok (f, .pointer (some ⟨c, 0, none⟩)) w) ∧ ∀ (args : Array Value) (w : World), (callFunc f args).run Tryz.prog w = .ok (.enter f args) w
theorem sTotal (s : Bool) : Meth (sKnd s).T "Total" (sKnd s).fT := by cases s <;> exact ⟨fun c w => by kernel_rfl, fun a w => by kernel_rfl⟩
theorem sFind (s : Bool) : Meth (sKnd s).T "Find" (sKnd s).fF := by cases s <;> exact ⟨fun c w => by kernel_rfl, fun a w => by kernel_rfl⟩
structure PKnd where
 T : TypeId
 fI : FuncId
 fR : FuncId
def pKnd : Bool → PKnd
 | true => ⟨155, 143, 104⟩
 | _ => ⟨147, 380, 382⟩
theorem pRep (k : Bool) : Meth (pKnd k).T "Rep" (pKnd k).fR := by cases k <;> exact ⟨fun c w => by kernel_rfl, fun a w => by kernel_rfl⟩
def Sto (w : World) : Bool → Nat → List Nat → Int → List (Int × Int) → Int → Prop
 | true => Lo.Low w
 | false => Hi.High w
section
variable {w w' : World} {s : Bool} {b : Nat} {S T : List Nat} {most tot : Int} {ps : List (Int × Int)}
theorem Sto.frame (h : Sto w s b S most ps tot) (hf : Frame T w w') (hn : Apart S T) : Sto w' s b S most ps tot := by
 cases s
 ·exact Hi.High.frame h hf hn
 ·exact Lo.Low.frame h hf hn
theorem Sto.below (h : Sto w s b S most ps tot) (hb : Below w.heap.size w w') : Sto w' s b S most ps tot := h.frame (T := []) (Frame.of_below hb) (fun _ _ => by simp)
theorem Sto.ok (h : Sto w s b S most ps tot) : okP ps := by
 cases s
 ·exact Hi.High.ok h
 ·exact Lo.Low.ok h
theorem Sto.sums (h : Sto w s b S most ps tot) : 0 ≤ sumP ps ∧ sumP ps ≤ tot ∧ tot ≤ 9223372036854775807 := by
 cases s
 ·exact ⟨Hi.High.sum0 h, Hi.High.lo h, Hi.High.hi h⟩
 ·exact ⟨Lo.Low.sum0 h, Lo.Low.lo h, Lo.Low.hi h⟩
end
theorem sto_total (s : Bool) (b : Nat) (S : List Nat) (most tot : Int) (ps : List (Int × Int)) (w : World) (h : Sto w s b S most ps tot) :
  Calls Tryz.prog (sKnd s).fT #[.pointer (some ⟨b, 0, none⟩)] w fun e w' => e = .returned (.int .u64 tot) ∧ Below w.heap.size w w' := by
 cases s
 ·exact Hi.ltotal_any b S most tot ps w h
 ·exact Lo.ltotal_any b S most tot ps w h
def StoA (s : Bool) (b : Nat) (S : List Nat) (most : Int) (ps : List (Int × Int)) (tot : Int) (w w' : World) : Prop :=
 ∃ S', GrownS S S' w.heap.size ∧ Sto w' s b S' most ps tot ∧ Frame S w w'
def stoFind : Bool → Int → List (Int × Int) → Int → Option Int
 | true => Lo.lowFind
 | false => Hi.lowFind
theorem sto_find (s : Bool) (b : Nat) (S : List Nat) (most tot t : Int) (ps : List (Int × Int)) (w : World) (h : Sto w s b S most ps tot) (ht : 0 ≤ t ∧ t < 18446744073709551616) :
  Calls Tryz.prog (sKnd s).fF #[.pointer (some ⟨b, 0, none⟩), .int .u64 t] w fun e w' => e = .returned (optI (stoFind s (tot - sumP ps) ps t)) ∧ Below w.heap.size w w' := by
 cases s
 ·exact Hi.lfind_any b S most tot t ps w h ht
 ·exact Lo.lfind_any b S most tot t ps w h ht
def stoBelow : Bool → Int → Int → List (Int × Int) → Int → Int × Int
 | true => Lo.lowBelow
 | false => Hi.lowBelow
structure Prt (w : World) (k : Bool) (a : Nat) (part : Nat → Int) (rep : Int → Int) : Prop where
 ix : ∀ W, Below w.heap.size w W → ∀ m : Nat, 0 < m → m ≤ 9223372036854775808 →
  Calls Tryz.prog (pKnd k).fI #[.pointer (some ⟨a, 0, none⟩), .int .u64 m] W fun e W' => e = .returned (.tuple #[.int .i64 (part m), .bool true]) ∧ Below W.heap.size W W'
 i0 : ∀ W, Below w.heap.size w W → Calls Tryz.prog (pKnd k).fI #[.pointer (some ⟨a, 0, none⟩), .int .u64 0] W fun e W' => e = .returned (.tuple #[.int .i64 0, .bool false]) ∧ Below W.heap.size W W'
 rp : ∀ W, Below w.heap.size w W → ∀ i : Int, -9223372036854775808 ≤ i → i ≤ 9223372036854775807 →
  Calls Tryz.prog (pKnd k).fR #[.pointer (some ⟨a, 0, none⟩), .int .i64 i] W fun e W' => e = .returned (.int .u64 (rep i)) ∧ Below W.heap.size W W'
 rng : ∀ m : Nat, 0 < m → m ≤ 9223372036854775808 → 0 ≤ part m ∧ part m ≤ 1048576
 some : ∀ m : Nat, 0 < m → m ≤ 9223372036854775808 → 0 < rep (part m)
 hi : ∀ i, 0 ≤ rep i ∧ rep i ≤ 9223372036854775808
 mono : PartMono part
end Go.Proofs.YtlbnlmhcpephbaaGreatDoor

namespace Go.Proofs.YtlbnlmhcpephbaaGreatDoor
open Go.RowKit
theorem prt_span (a : Nat) (d : Int) (w : World) (h : SpanAt w a d) : Prt w true a (partD d) (repD d) := by
 refine ⟨fun W hW m h1 h2 => ?_, fun W _ => spindex_zero a W, fun W hW i h1 h2 => ?_, fun m h1 h2 => ?_, fun m h1 h2 => ?_, fun i => ?_, partD_mono d⟩
 ·have := spindex_any a m d W (h.below hW) h1 h2
  exact this
 ·by_cases hi : 0 < i ∧ i ≤ topD d
  ·unfold repD
   rw [if_pos hi]
   obtain ⟨j, rfl⟩ := Int.eq_ofNat_of_zero_le (Int.le_of_lt hi.1)
   rw [Int.toNat_natCast]
   exact sprep_any a j d W (h.below hW) (by omega) (by have := hi.2; unfold topD at this; omega)
  ·unfold repD
   rw [if_neg hi]
   exact sprep_bad a i d W (h.below hW) (by unfold topD at hi; omega)
 ·have := partD_rng (d := d) h1 h2; omega
 ·rw [repD_part h1 h2]
  have := repM_le (g := gOf d) h1 h2
  have := lo_pos (g := gOf d) h1
  omega
 ·unfold repD
  split
  ·next hi =>
   have := repI_le (d := d) (i := i.toNat) (by omega) (by omega)
   omega
  ·omega
def partT (L : List Nat) (m : Nat) : Int := ((L.filter fun x => decide (x ≤ m)).length : Int) - 1
theorem sorted_at {L : List Nat} (hs : L.Pairwise (· < ·)) {i j : Nat} (hij : i ≤ j) (hj : j < L.length) : L.getD i 0 ≤ L.getD j 0 := sorted_getD hs hij hj
theorem filter_cell {L : List Nat} (hs : L.Pairwise (· < ·)) {m i : Nat} (h : cellAt L m i) : (L.filter fun x => decide (x ≤ m)).length = i + 1 := by
 obtain ⟨h1, h2, h3⟩ := h
 have e : L = L.take (i + 1) ++ L.drop (i + 1) := (List.take_append_drop _ _).symm
 have f1 : (L.take (i + 1)).filter (fun x => decide (x ≤ m)) = L.take (i + 1) := List.filter_eq_self.2 fun x hx => by
  obtain ⟨j, hj, rfl⟩ := List.getElem_of_mem hx
  rw [List.length_take] at hj
  rw [List.getElem_take, getD_at]
  have := sorted_at hs (i := j) (j := i) (by omega) h1
  exact decide_eq_true (by omega)
 have f2 : (L.drop (i + 1)).filter (fun x => decide (x ≤ m)) = [] := List.filter_eq_nil_iff.2 fun x hx => by
  obtain ⟨j, hj, rfl⟩ := List.getElem_of_mem hx
  rw [List.length_drop] at hj
  rw [List.getElem_drop, getD_at]
  have h4 := h3 (by omega)
  have := sorted_at hs (i := i + 1) (j := i + 1 + j) (by omega) (by omega)
  simp only [decide_eq_true_eq]
  omega
 rw [e, List.filter_append, f1, f2, List.append_nil, List.length_take]
 omega
theorem partT_cell {L : List Nat} (hs : L.Pairwise (· < ·)) {m i : Nat} (h : cellAt L m i) : partT L m = i := by
 unfold partT
 rw [filter_cell hs h]
 omega
structure TabOk (u v : Nat) (L : List Nat) : Prop where
 h : cellsF u v 4096 1 = some L
 u0 : 0 < u
 uv : u < v
 v1 : v ≤ 2147483648
section
variable {u v : Nat} {L : List Nat}
theorem TabOk.chain (h : TabOk u v L) : Chain u v 1 L := (chain_of h.h).1
theorem TabOk.len (h : TabOk u v L) : L.length ≤ 4096 := (chain_of h.h).2
theorem TabOk.srt (h : TabOk u v L) : L.Pairwise (· < ·) := chain_sorted h.uv h.chain
theorem TabOk.pos (h : TabOk u v L) : 0 < L.length := by
 have hc := h.chain
 cases L with
 | nil => unfold Chain mostN at hc; omega
 | cons x L => simp
theorem TabOk.one (h : TabOk u v L) : L.getD 0 0 = 1 := by
 have := ((chain_at h.uv h.chain).2.2 h.pos).1
 rwa [getD_at] at this
theorem TabOk.bd (h : TabOk u v L) {i : Nat} (hi : i < L.length) : 1 ≤ L.getD i 0 ∧ L.getD i 0 ≤ mostN := by
 have := (chain_at h.uv h.chain).1 i hi
 rwa [getD_at] at this
theorem TabOk.part (h : TabOk u v L) {m : Nat} (h1 : 0 < m) : 0 ≤ partT L m ∧ partT L m < L.length := by
 have h2 : (L.filter fun x => decide (x ≤ m)).length ≤ L.length := List.length_filter_le _ _
 have h3 : 0 < (L.filter fun x => decide (x ≤ m)).length := List.length_pos_of_mem (a := L.getD 0 0) (List.mem_filter.2 ⟨by rw [← getD_at h.pos]; exact List.getElem_mem _, decide_eq_true (by rw [h.one]; omega)⟩)
 unfold partT
 omega
theorem repN_pos {u v low : Nat} (hv : 0 < v) (hl : 1 ≤ low) : 0 < repN u v low ∧ repN u v low ≤ topN := by
 have := repR_ge (u := u) (low := low) hv
 unfold repN topN
 omega
theorem TabOk.rep (h : TabOk u v L) (i : Int) : atL (L.map (repN u v)) i ≤ topN ∧ (0 ≤ i ∧ i < L.length → 0 < atL (L.map (repN u v)) i) := by
 unfold atL
 rw [List.length_map]
 split
 ·next hi =>
  have hj : i.toNat < L.length := by omega
  have e : (L.map (repN u v)).getD i.toNat 0 = repN u v (L.getD i.toNat 0) := by
   rw [List.getD_eq_getElem?_getD, List.getElem?_map, List.getElem?_eq_getElem hj, List.getD_eq_getElem?_getD, List.getElem?_eq_getElem hj]
   rfl
  rw [e]
  have := repN_pos (u := u) (v := v) (by have := h.uv; omega) (h.bd hj).1
  exact ⟨this.2, fun _ => this.1⟩
 ·next hi => exact ⟨by unfold topN; omega, fun h => absurd h hi⟩
end
def repT (u v : Nat) (L : List Nat) (i : Int) : Int := (atL (L.map (repN u v)) i : Nat)
theorem prt_tab (a u v : Nat) (L : List Nat) (w : World) (ht : TabOk u v L) (h : Tab w a u v L (L.map (repN u v))) : Prt w false a (partT L) (repT u v L) := by
 refine ⟨fun W hW m h1 h2 => ?_, fun W hW => ?_, fun W hW i h1 h2 => ?_, fun m h1 h2 => ?_, fun m h1 h2 => ?_, fun i => ?_, fun x y hx hxy hy => ?_⟩
 ·refine (cindex_any a u v L _ m W (h.below hW) ht.srt ht.pos ht.one (by omega)).mono ?_
  rintro e w' ⟨hI, rfl⟩
  rcases hI with ⟨hno, _⟩ | ⟨_, _, i, rfl, hc⟩
  ·unfold mostN at hno; omega
  ·rw [partT_cell ht.srt hc]
   exact ⟨rfl, Below.refl _ _⟩
 ·refine (cindex_any a u v L _ 0 W (h.below hW) ht.srt ht.pos ht.one (by omega)).mono ?_
  rintro e w' ⟨hI, rfl⟩
  rcases hI with ⟨_, rfl⟩ | ⟨hno, _⟩
  ·exact ⟨rfl, Below.refl _ _⟩
  ·omega
 ·refine (crep_any a u v L _ i W (h.below hW)).mono ?_
  rintro e w' ⟨rfl, rfl⟩
  exact ⟨rfl, Below.refl _ _⟩
 ·have := ht.part (m := m) h1
  have := ht.len
  omega
 ·have h3 := ht.part (m := m) h1
  have := (ht.rep (partT L m)).2 h3
  unfold repT
  omega
 ·have := (ht.rep i).1
  unfold topN at this
  unfold repT
  omega
 ·have : (L.filter fun z => decide (z ≤ x)).length ≤ (L.filter fun z => decide (z ≤ y)).length := by
   rw [← List.countP_eq_length_filter, ← List.countP_eq_length_filter]
   exact List.countP_mono_left fun z _ hz => by simp only [decide_eq_true_eq] at hz ⊢; omega
  unfold partT
  omega
def PAt (w : World) : Bool → Nat → (Nat → Int) → (Int → Int) → List Nat → Prop
 | true, a, part, rep, PB => ∃ d, SpanAt w a d ∧ part = partD d ∧ rep = repD d ∧ PB = [a]
 | false, a, part, rep, PB => ∃ u v L, TabOk u v L ∧ part = partT L ∧ rep = repT u v L ∧ ∃ A c A2 c2, At w a #[.int .u64 (u : Nat), .int .u64 (v : Nat), .slice A L.length c, .slice A2 L.length c2] 198 ∧ RdU w A (castL L) ∧ RdU w A2 (castL (L.map (repN u v))) ∧ PB = a :: (blk A ++ blk A2)
section
variable {w w' : World} {k : Bool} {a : Nat} {part : Nat → Int} {rep : Int → Int} {PB T : List Nat}
theorem PAt.prt (h : PAt w k a part rep PB) : Prt w k a part rep := by
 cases k
 ·obtain ⟨u, v, L, ht, rfl, rfl, A, c, A2, c2, h1, h2, h3, _⟩ := h
  exact prt_tab a u v L w ht ⟨⟨A, c, A2, c2, by rw [List.length_map]; exact h1, h2, h3⟩, ht.len, by rw [List.length_map]; exact ht.len⟩
 ·obtain ⟨d, h1, rfl, rfl, _⟩ := h
  exact prt_span a d w h1
theorem PAt.frame (h : PAt w k a part rep PB) (hf : Frame T w w') (hn : Apart PB T) : PAt w' k a part rep PB := by
 cases k
 ·obtain ⟨u, v, L, ht, e1, e2, A, c, A2, c2, h1, h2, h3, rfl⟩ := h
  exact ⟨u, v, L, ht, e1, e2, A, c, A2, c2, hf.at h1 (hn a (by simp)), Frame.rd hf h2 (fun x e => hn _ (by subst e; simp [blk])), Frame.rd hf h3 (fun x e => hn _ (by subst e; simp [blk])), rfl⟩
 ·obtain ⟨d, h1, e1, e2, rfl⟩ := h
  exact ⟨d, ⟨hf.at h1.at' (hn a (by simp)), h1.d1, h1.d4⟩, e1, e2, rfl⟩
end
def BnQ (b : Nat) (v0 v1 v2 v3 v4 v5 : Value) (W : World) : Prop := At W b #[v0, v1, v2, v3, v4, v5] 83
def repTN (u v : Nat) (L : List Nat) (m : Nat) : Nat := atL (L.map (repN u v)) (partT L m)
theorem repT_part (u v : Nat) (L : List Nat) (m : Nat) : repT u v L (partT L m) = (repTN u v L m : Nat) := rfl
end Go.Proofs.YtlbnlmhcpephbaaGreatDoor

namespace Go.Proofs.YtlbnlmhcpephbaaGreatDoor
open Go.RowKit
def sideZ : Bool → Int
 | true => 0
 | false => 1
structure BnB (PB : List Nat) (w : World) (b : Nat) (k : Bool) (pa : Nat) (part : Nat → Int) (rep : Int → Int) (s : Bool) (most : Int) (c0 c1 : Nat) (S0 S1 : List Nat) (ps0 ps1 : List (Int × Int)) (t0 t1 zero : Int) : Prop where
 at' : At w b #[.iface (pKnd k).T (.pointer (some ⟨pa, 0, none⟩)), .int .i64 (sideZ s), .int .i64 most, .iface (sKnd s).T (.pointer (some ⟨c0, 0, none⟩)), .iface (sKnd s).T (.pointer (some ⟨c1, 0, none⟩)), .int .u64 zero] 208
 pr : PAt w k pa part rep PB
 s0 : Sto w s c0 S0 most ps0 t0
 s1 : Sto w s c1 S1 most ps1 t1
 n0 : b ∉ S0
 n1 : b ∉ S1
 ap : Apart S0 S1
 nb : b ∉ PB
 a0 : Apart PB S0
 a1 : Apart PB S1
section
variable {PB : List Nat} {w w' : World} {b pa c0 c1 : Nat} {k s : Bool} {part : Nat → Int} {rep : Int → Int} {S0 S1 T : List Nat} {most t0 t1 zero zero' t : Int} {ps0 ps1 ps : List (Int × Int)}
theorem BnB.prt (h : BnB PB w b k pa part rep s most c0 c1 S0 S1 ps0 ps1 t0 t1 zero) : Prt w k pa part rep := h.pr.prt
theorem BnB.frame (h : BnB PB w b k pa part rep s most c0 c1 S0 S1 ps0 ps1 t0 t1 zero) (hf : Frame T w w') (hp : Apart PB T) (hb : b ∉ T) (h0 : Apart S0 T) (h1 : Apart S1 T) : BnB PB w' b k pa part rep s most c0 c1 S0 S1 ps0 ps1 t0 t1 zero :=
 ⟨hf.at h.at' hb, h.pr.frame hf hp, h.s0.frame hf h0, h.s1.frame hf h1, h.n0, h.n1, h.ap, h.nb, h.a0, h.a1⟩
theorem BnB.below (h : BnB PB w b k pa part rep s most c0 c1 S0 S1 ps0 ps1 t0 t1 zero) (hb : Below w.heap.size w w') : BnB PB w' b k pa part rep s most c0 c1 S0 S1 ps0 ps1 t0 t1 zero :=
 h.frame (T := []) (Frame.of_below hb) (fun _ _ => by simp) (by simp) (fun _ _ => by simp) (fun _ _ => by simp)
end
def Bn (w : World) (b : Nat) (S : List Nat) (k : Bool) (part : Nat → Int) (rep : Int → Int) (s : Bool) (most : Int) (ps0 ps1 : List (Int × Int)) (t0 t1 zero : Int) : Prop :=
 ∃ PB pa c0 c1 S0 S1, S = PB ++ (b :: (S0 ++ S1)) ∧ BnB PB w b k pa part rep s most c0 c1 S0 S1 ps0 ps1 t0 t1 zero
section
variable {w w' : World} {b : Nat} {k s : Bool} {part : Nat → Int} {rep : Int → Int} {S T : List Nat} {most t0 t1 zero : Int} {ps0 ps1 : List (Int × Int)}
theorem Bn.frame (h : Bn w b S k part rep s most ps0 ps1 t0 t1 zero) (hf : Frame T w w') (hn : Apart S T) : Bn w' b S k part rep s most ps0 ps1 t0 t1 zero := by
 obtain ⟨PB, pa, c0, c1, S0, S1, rfl, h⟩ := h
 exact ⟨PB, pa, c0, c1, S0, S1, rfl, h.frame hf (fun k hk => hn k (by simp [hk])) (hn b (by simp)) (fun k hk => hn k (by simp [hk])) (fun k hk => hn k (by simp [hk]))⟩
theorem Bn.below (h : Bn w b S k part rep s most ps0 ps1 t0 t1 zero) (hb : Below w.heap.size w w') : Bn w' b S k part rep s most ps0 ps1 t0 t1 zero := h.frame (T := []) (Frame.of_below hb) (fun _ _ => by simp)
end
set_option maxRecDepth 100000 in
set_option maxHeartbeats 1000000 in
theorem btot_at (PB : List Nat) (b : Nat) (k : Bool) (pa : Nat) (part : Nat → Int) (rep : Int → Int) (s : Bool) (most : Int) (c0 c1 : Nat) (S0 S1 : List Nat) (ps0 ps1 : List (Int × Int)) (t0 t1 zero t : Int) (w : World)
  (h : BnB PB w b k pa part rep s most c0 c1 S0 S1 ps0 ps1 t0 t1 zero) (hz : 0 ≤ zero) (he : t0 + zero + t1 = t) (ht : t ≤ 9223372036854775807) :
  Calls Tryz.prog 103 #[.pointer (some ⟨b, 0, none⟩)] w fun e w' => e = .returned (.int .u64 t) ∧ Below w.heap.size w w' := by
 have s1 := h.at'
 have p0 := h.s0.sums
 have p1 := h.s1.sums
 have HT0 := Lib.hid fun W (hb : Below w.heap.size w W) => sto_total s c0 S0 most t0 ps0 W (h.s0.below hb)
 have HT1 := Lib.hid fun W (hb : Below w.heap.size w W) => sto_total s c1 S1 most t1 ps1 W (h.s1.below hb)
 have m1 := (sTotal s).1
 have m2 := (sTotal s).2
 have HW : Hid (IntKind.u64.wrap (IntKind.u64.wrap (t0 + zero) + t1) = t) := by show _ = _; simp only [IntKind.wrap_u64]; omega
 obtain ⟨sT, hsT⟩ : ∃ z, (sKnd s).T = z := ⟨_, rfl⟩
 obtain ⟨sF, hsF⟩ : ∃ z, (sKnd s).fT = z := ⟨_, rfl⟩
 rw [hsT] at s1 m1
 rw [hsF] at m1 m2 HT0 HT1
 clear h hz he ht p0 p1 hsT hsF
 go_enter Tryz.func103, Tryz.ntmps103
 go_wp2
 have hfar1 := fun x : Far w => (x.at s1).six
 refine wp_region_far (by kernel_rfl) (by kernel_rfl) ?_
 repeat (first | go_big_quiet_skip | (go_big_quiet_want; go_big_quiet_op; first | go_big_quiet_on | (apply Exists.intro; refine ⟨fun _ => ?_, ?_⟩; (focus (first | (with_reducible refine far_of (HT0.out _ (Far.below _))) | (with_reducible refine far_of (HT1.out _ (Far.below _))))); go_big_quiet_on)))
 refine wpQuiet_nil ?_
 rintro _ ⟨xq, rfl⟩
 clear hfar1
 have hb := xq.below
 rw [HW.out]
 clear HT0 HT1 s1
 go_wp2
 go_ret
 exact ⟨rfl, hb⟩
end Go.Proofs.YtlbnlmhcpephbaaGreatDoor

namespace Go.Proofs.YtlbnlmhcpephbaaGreatDoor
open Go.RowKit
def BaddR (b : Nat) (S : List Nat) (k : Bool) (part : Nat → Int) (rep : Int → Int) (s : Bool) (most : Int) (ps0 ps1 : List (Int × Int)) (t0 t1 zero : Int) (w w' : World) : Prop :=
 ∃ S', GrownS S S' w.heap.size ∧ Bn w' b S' k part rep s most ps0 ps1 t0 t1 zero ∧ Frame S w w'
end Go.Proofs.YtlbnlmhcpephbaaGreatDoor

namespace Go.Proofs.YtlbnlmhcpephbaaGreatDoor
open Go.RowKit
def valZ (rep : Int → Int) (i : Int) (below : Bool) : Int := if below then -(rep i) else min (rep i) 9223372036854775807
theorem bvalue_at (PB : List Nat) (b : Nat) (k : Bool) (pa : Nat) (part : Nat → Int) (rep : Int → Int) (s : Bool) (most : Int) (c0 c1 : Nat) (S0 S1 : List Nat) (ps0 ps1 : List (Int × Int)) (t0 t1 zero i : Int) (below : Bool) (w : World)
  (h : BnB PB w b k pa part rep s most c0 c1 S0 S1 ps0 ps1 t0 t1 zero) (h1 : -9223372036854775808 ≤ i) (h2 : i ≤ 9223372036854775807) :
  Calls Tryz.prog 191 #[.pointer (some ⟨b, 0, none⟩), .int .i64 i, .bool below] w fun e w' => e = .returned (.int .i64 (valZ rep i below)) ∧ Below w.heap.size w w' := by
 have s1 := h.at'
 have hr := h.prt.hi i
 have HIX := Lib.hid (h.prt.rp w (Below.refl _ _) i h1 h2)
 have m1 := (pRep k).1
 have m2 := (pRep k).2
 have HV : Hid (valZ rep i below = if below then -(rep i) else min (rep i) 9223372036854775807) := rfl
 rw [HV.out]
 obtain ⟨pT, hpT⟩ : ∃ z, (pKnd k).T = z := ⟨_, rfl⟩
 obtain ⟨pF, hpF⟩ : ∃ z, (pKnd k).fR = z := ⟨_, rfl⟩
 rw [hpT] at s1 m1
 rw [hpF] at m1 m2 HIX
 obtain ⟨r, hre⟩ : ∃ r, rep i = r := ⟨_, rfl⟩
 rw [hre] at hr HIX ⊢
 have HSV := Lib.hid fun W => sgval_any r below W hr.1 (by omega)
 have hvm : (below = true ∧ valM r below = -r ∧ valOk r below = true) ∨ (below = false ∧ ((r ≤ 9223372036854775807 ∧ valM r below = r ∧ valOk r below = true) ∨ (r = 9223372036854775808 ∧ valM r below = 0 ∧ valOk r below = false))) := by
  cases below
  ·refine .inr ⟨rfl, ?_⟩
   unfold valM valOk
   by_cases h : r < 9223372036854775808
   ·exact .inl ⟨by omega, by simp [h], by simp [h]⟩
   ·exact .inr ⟨by omega, by simp [h], by simp [h]⟩
  ·refine .inl ⟨rfl, ?_, ?_⟩
   ·unfold valM; rw [if_pos rfl, if_pos hr.2]
   ·unfold valOk; rw [if_pos rfl]; exact decide_eq_true hr.2
 have f1 := s1.six
 have l1 := s1.lt
 clear h h1 h2 hpT hpF hre HV
 rcases hvm with ⟨rfl, e1, e2⟩ | ⟨rfl, ⟨hr3, e1, e2⟩ | ⟨rfl, e1, e2⟩⟩
 all_goals
  rw [e1, e2] at HSV
  clear e1 e2
 ·rw [if_pos rfl]
  clear hr
  go_enter Tryz.func191, Tryz.ntmps191
  go_wp2_with fail
  refine HIX.out.mono ?_
  rintro e w1 ⟨rfl, hb⟩
  have HB := Lib.hid hb
  clear hb HIX f1 l1 s1
  go_wp2_with fail
  refine (HSV.out w1).mono ?_
  rintro e w2 ⟨rfl, rfl⟩
  clear HSV
  go_wp2
  go_ret
  exact ⟨rfl, HB.out⟩
 ·have HM : Hid ((if (false : Bool) = true then -r else min r 9223372036854775807) = r) := by show _ = _; rw [if_neg (by simp)]; omega
  rw [HM.out]
  clear hr hr3 HM
  go_enter Tryz.func191, Tryz.ntmps191
  go_wp2_with fail
  refine HIX.out.mono ?_
  rintro e w1 ⟨rfl, hb⟩
  have HB := Lib.hid hb
  clear hb HIX f1 l1 s1
  go_wp2_with fail
  refine (HSV.out w1).mono ?_
  rintro e w2 ⟨rfl, rfl⟩
  clear HSV
  go_wp2
  go_ret
  exact ⟨rfl, HB.out⟩
 ·have HM : Hid ((if (false : Bool) = true then -(9223372036854775808 : Int) else min 9223372036854775808 9223372036854775807) = 9223372036854775807) := by show _ = _; rw [if_neg (by simp)]; omega
  rw [HM.out]
  clear hr HM
  go_enter Tryz.func191, Tryz.ntmps191
  go_wp2_with fail
  refine HIX.out.mono ?_
  rintro e w1 ⟨rfl, hb⟩
  have HB := Lib.hid hb
  clear hb HIX f1 l1 s1
  go_wp2_with fail
  refine (HSV.out w1).mono ?_
  rintro e w2 ⟨rfl, rfl⟩
  clear HSV
  go_wp2
  go_ret
  exact ⟨rfl, HB.out⟩
def BnW (b : Nat) (cs : Array Value) (W : World) : Prop := At W b cs 208
def RowsR (ps0 ps1 : List (Int × Int)) (w : World) (e : Ending) (w' : World) : Prop :=
 ∃ A0 c0 A1 c1, e = .returned (.tuple #[.slice A0 ps0.length c0, .slice A1 ps1.length c1]) ∧ RdP w' A0 ps0 ∧ RdP w' A1 ps1 ∧ Below w.heap.size w w'
end Go.Proofs.YtlbnlmhcpephbaaGreatDoor

namespace Go.Proofs.YtlbnlmhcpephbaaGreatDoor
open Go.RowKit
def binFind (rep : Int → Int) (s : Bool) (ps0 ps1 : List (Int × Int)) (t0 t1 zero t : Int) : Option Int :=
 if t = 0 ∨ t0 + zero + t1 < t then none
 else if t ≤ t0 then (stoFind s (t0 - sumP ps0) ps0 (t0 - t + 1)).map fun i => valZ rep i true
 else if t - t0 ≤ zero then some 0
 else (stoFind s (t1 - sumP ps1) ps1 (t - t0 - zero)).map fun i => valZ rep i false
theorem stoFind_mem {s : Bool} {lo t i : Int} {ps : List (Int × Int)} (h : stoFind s lo ps t = some i) : ∃ x ∈ ps, x.1 = i := by
 cases s
 ·exact Hi.findP_mem h
 ·unfold stoFind Lo.lowFind at h
  dsimp only at h
  split at h
  ·cases h
  ·exact Lo.findP_mem h
set_option maxRecDepth 100000 in
set_option maxHeartbeats 4000000 in
theorem bfind_at (PB : List Nat) (b : Nat) (k : Bool) (pa : Nat) (part : Nat → Int) (rep : Int → Int) (s : Bool) (most : Int) (c0 c1 : Nat) (S0 S1 : List Nat) (ps0 ps1 : List (Int × Int)) (t0 t1 zero t : Int) (w : World)
    (h : BnB PB w b k pa part rep s most c0 c1 S0 S1 ps0 ps1 t0 t1 zero) (hz : 0 ≤ zero) (hT : t0 + zero + t1 ≤ 9223372036854775807) (ht : 0 ≤ t ∧ t < 18446744073709551616) :
    Calls Tryz.prog 187 #[.pointer (some ⟨b, 0, none⟩), .int .u64 t] w fun e w' => e = .returned (optI (binFind rep s ps0 ps1 t0 t1 zero t)) ∧ Below w.heap.size w w' := by
  have p0 := h.s0.sums
  have p1 := h.s1.sums
  have H := Lib.hid h
  have HTO := Lib.hid (btot_at _ _ _ _ _ _ _ _ _ _ _ _ _ _ _ _ _ _ w h hz rfl hT)
  have HT0 := Lib.hid fun W (hb : Below w.heap.size w W) => sto_total s c0 S0 most t0 ps0 W (h.s0.below hb)
  have HE : Hid (binFind rep s ps0 ps1 t0 t1 zero t = if t = 0 ∨ t0 + zero + t1 < t then none else if t ≤ t0 then (stoFind s (t0 - sumP ps0) ps0 (t0 - t + 1)).map fun i => valZ rep i true else if t - t0 ≤ zero then some 0 else (stoFind s (t1 - sumP ps1) ps1 (t - t0 - zero)).map fun i => valZ rep i false) := rfl
  rw [HE.out]
  have s1 := h.at'
  have m1 := (sTotal s).1
  have m2 := (sTotal s).2
  have m3 := (sFind s).1
  have m4 := (sFind s).2
  have HSF0 := Lib.hid fun (ht' : 0 ≤ t0 - t + 1 ∧ t0 - t + 1 < 18446744073709551616) W (hb : Below w.heap.size w W) => sto_find s c0 S0 most t0 (t0 - t + 1) ps0 W (h.s0.below hb) ht'
  have HSF1 := Lib.hid fun (ht' : 0 ≤ t - t0 - zero ∧ t - t0 - zero < 18446744073709551616) W (hb : Below w.heap.size w W) => sto_find s c1 S1 most t1 (t - t0 - zero) ps1 W (h.s1.below hb) ht'
  have HOK0 := Lib.hid h.s0.ok
  have HOK1 := Lib.hid h.s1.ok
  obtain ⟨sT, hsT⟩ : ∃ z, (sKnd s).T = z := ⟨_, rfl⟩
  obtain ⟨sF, hsF⟩ : ∃ z, (sKnd s).fT = z := ⟨_, rfl⟩
  obtain ⟨sG, hsG⟩ : ∃ z, (sKnd s).fF = z := ⟨_, rfl⟩
  rw [hsT] at s1 m1 m3
  rw [hsF] at m1 m2 HT0
  rw [hsG] at m3 m4 HSF0 HSF1
  obtain ⟨T, hTT⟩ : ∃ T, t0 + zero + t1 = T := ⟨_, rfl⟩
  rw [hTT] at HTO ⊢
  have HB0 : Hid (0 ≤ t0 ∧ 0 ≤ t1 ∧ 0 ≤ zero ∧ t0 + zero + t1 = T ∧ T ≤ 9223372036854775807 ∧ 0 ≤ t ∧ t < 18446744073709551616) := ⟨by omega, by omega, hz, hTT, by omega, ht.1, ht.2⟩
  clear h hsT hsF hsG p0 p1 HE hTT hT hz
  by_cases ht0 : t = 0
  · subst ht0
    rw [if_pos (.inl rfl)]
    clear ht HSF0 HSF1 HT0 HTO
    go_enter Tryz.func187, Tryz.ntmps187
    go_wp2
    go_ret2
    exact ⟨rfl, Below.refl _ _⟩
  · have ht0' : (t == 0) = false := beq_eq_false_iff_ne.2 ht0
    by_cases hTt : T < t
    · have hd : decide (T < t) = true := decide_eq_true hTt
      rw [if_pos (.inr hTt)]
      clear ht HSF0 HSF1 HT0 hTt ht0
      go_enter Tryz.func187, Tryz.ntmps187
      go_wp2_with fail
      refine HTO.out.mono ?_
      rintro e w1 ⟨rfl, hb⟩
      clear HTO s1
      go_wp2
      go_ret2
      exact ⟨rfl, hb⟩
    · have hd : decide (T < t) = false := decide_eq_false hTt
      rw [if_neg (by omega)]
      by_cases h1 : t ≤ t0
      · have hd1 : decide (t ≤ t0) = true := decide_eq_true h1
        rw [if_pos h1]
        have v1 : IntKind.u64.wrap (t0 - t) = t0 - t := by simp only [IntKind.wrap_u64]; have := HB0.out; omega
        have v2 : IntKind.u64.wrap (t0 - t + 1) = t0 - t + 1 := by simp only [IntKind.wrap_u64]; have := HB0.out; omega
        have HF := Lib.hid (HSF0.out (by have := HB0.out; omega))
        clear HSF0 HSF1 ht hTt h1 ht0
        obtain ⟨o, ho⟩ : ∃ o, stoFind s (t0 - sumP ps0) ps0 (t0 - t + 1) = o := ⟨_, rfl⟩
        rw [ho] at HF ⊢
        cases o with
        | none =>
          have HF' : Hid (∀ W, Below w.heap.size w W → Calls Tryz.prog sG #[.pointer (some ⟨c0, 0, none⟩), .int .u64 (t0 - t + 1)] W fun e w' => e = .returned (.tuple #[.int .i64 0, .bool false]) ∧ Below W.heap.size W w') := HF.out
          replace HF := HF'
          show Calls _ _ _ _ (fun e w' => e = .returned (.tuple #[.int .i64 0, .bool false]) ∧ _)
          clear HF'
          go_enter Tryz.func187, Tryz.ntmps187
          go_wp2_with fail
          refine HTO.out.mono ?_
          rintro e w1 ⟨rfl, hb⟩
          have HB1 := Lib.hid hb
          have s2 := s1.below hb
          have f2 := s2.six
          have l2 := s2.lt
          clear HTO s1 hb
          go_wp2_with fail
          refine (HT0.out w1 HB1.out).mono ?_
          rintro e w2 ⟨rfl, hb⟩
          have HB2 := Lib.hid (keep1 HB1.out hb)
          have s3 := s2.below hb
          have f3 := s3.six
          have l3 := s3.lt
          clear HT0 hb s2 f2 l2
          go_wp2_with fail
          refine (HF.out w2 HB2.out).mono ?_
          rintro e w3 ⟨rfl, hb⟩
          have HB3 := Lib.hid (keep1 HB2.out hb)
          clear hb HF s3 f3 l3
          go_wp2
          go_ret2
          exact ⟨rfl, HB3.out⟩
        | some i =>
          have HI := Lib.hid (stoFind_mem ho)
          have HIR : Hid (-9223372036854775808 ≤ i ∧ i ≤ 9223372036854775807) := by
            obtain ⟨x, hx, rfl⟩ := HI.out
            exact (HOK0.out x hx).1
          have HF' : Hid (∀ W, Below w.heap.size w W → Calls Tryz.prog sG #[.pointer (some ⟨c0, 0, none⟩), .int .u64 (t0 - t + 1)] W fun e w' => e = .returned (.tuple #[.int .i64 i, .bool true]) ∧ Below W.heap.size W w') := HF.out
          replace HF := HF'
          show Calls _ _ _ _ (fun e w' => e = .returned (.tuple #[.int .i64 (valZ rep i true), .bool true]) ∧ _)
          have HVL := Lib.hid fun W (hb : Below w.heap.size w W) => bvalue_at _ _ _ _ _ _ _ _ _ _ _ _ _ _ _ _ _ i true W (H.out.below hb) HIR.out.1 HIR.out.2
          clear HF' ho HI
          go_enter Tryz.func187, Tryz.ntmps187
          go_wp2_with fail
          refine HTO.out.mono ?_
          rintro e w1 ⟨rfl, hb⟩
          have HB1 := Lib.hid hb
          have s2 := s1.below hb
          have f2 := s2.six
          have l2 := s2.lt
          clear HTO s1 hb
          go_wp2_with fail
          refine (HT0.out w1 HB1.out).mono ?_
          rintro e w2 ⟨rfl, hb⟩
          have HB2 := Lib.hid (keep1 HB1.out hb)
          have s3 := s2.below hb
          have f3 := s3.six
          have l3 := s3.lt
          clear HT0 hb s2 f2 l2
          go_wp2_with fail
          refine (HF.out w2 HB2.out).mono ?_
          rintro e w3 ⟨rfl, hb⟩
          have HB3 := Lib.hid (keep1 HB2.out hb)
          clear hb HF s3 f3 l3
          go_wp2_with fail
          refine (HVL.out w3 HB3.out).mono ?_
          rintro e w4 ⟨rfl, hb⟩
          have HB4 := Lib.hid (keep1 HB3.out hb)
          clear hb HVL
          go_wp2
          go_ret2
          exact ⟨rfl, HB4.out⟩
      · rw [if_neg h1]
        have hd1 : decide (t ≤ t0) = false := decide_eq_false h1
        have v1 : IntKind.u64.wrap (t - t0) = t - t0 := by simp only [IntKind.wrap_u64]; have := HB0.out; omega
        by_cases h2 : t - t0 ≤ zero
        · have hd2 : decide (t - t0 ≤ zero) = true := decide_eq_true h2
          rw [if_pos h2]
          clear HSF0 HSF1 ht hTt h1 ht0 h2
          go_enter Tryz.func187, Tryz.ntmps187
          go_wp2_with fail
          refine HTO.out.mono ?_
          rintro e w1 ⟨rfl, hb⟩
          have HB1 := Lib.hid hb
          have s2 := s1.below hb
          have f2 := s2.six
          have l2 := s2.lt
          clear HTO s1 hb
          go_wp2_with fail
          refine (HT0.out w1 HB1.out).mono ?_
          rintro e w2 ⟨rfl, hb⟩
          have HB2 := Lib.hid (keep1 HB1.out hb)
          have s3 := s2.below hb
          have f3 := s3.six
          have l3 := s3.lt
          clear HT0 hb s2 f2 l2
          go_wp2
          go_ret2
          exact ⟨rfl, HB2.out⟩
        · have hd2 : decide (t - t0 ≤ zero) = false := decide_eq_false h2
          rw [if_neg h2]
          have v2 : IntKind.u64.wrap (t - t0 - zero) = t - t0 - zero := by simp only [IntKind.wrap_u64]; have := HB0.out; omega
          have HF := Lib.hid (HSF1.out (by have := HB0.out; omega))
          clear HSF0 HSF1 ht hTt h1 ht0 h2
          obtain ⟨o, ho⟩ : ∃ o, stoFind s (t1 - sumP ps1) ps1 (t - t0 - zero) = o := ⟨_, rfl⟩
          rw [ho] at HF ⊢
          cases o with
          | none =>
            have HF' : Hid (∀ W, Below w.heap.size w W → Calls Tryz.prog sG #[.pointer (some ⟨c1, 0, none⟩), .int .u64 (t - t0 - zero)] W fun e w' => e = .returned (.tuple #[.int .i64 0, .bool false]) ∧ Below W.heap.size W w') := HF.out
            replace HF := HF'
            show Calls _ _ _ _ (fun e w' => e = .returned (.tuple #[.int .i64 0, .bool false]) ∧ _)
            clear HF'
            go_enter Tryz.func187, Tryz.ntmps187
            go_wp2_with fail
            refine HTO.out.mono ?_
            rintro e w1 ⟨rfl, hb⟩
            have HB1 := Lib.hid hb
            have s2 := s1.below hb
            have f2 := s2.six
            have l2 := s2.lt
            clear HTO s1 hb
            go_wp2_with fail
            refine (HT0.out w1 HB1.out).mono ?_
            rintro e w2 ⟨rfl, hb⟩
            have HB2 := Lib.hid (keep1 HB1.out hb)
            have s3 := s2.below hb
            have f3 := s3.six
            have l3 := s3.lt
            clear HT0 hb s2 f2 l2
            have HF3 := Lib.hid fun W (hb : Below w2.heap.size w2 W) => HF.out W (keep1 HB2.out hb)
            clear HF
            go_wp2
            have hfar1 := fun x : Far w2 => (x.at s3).six
            refine wp_region_far (by kernel_rfl) (by kernel_rfl) ?_
            repeat (first | go_big_quiet_skip | (go_big_quiet_want; go_big_quiet_op; first | go_big_quiet_on | (apply Exists.intro; refine ⟨fun _ => ?_, ?_⟩; (focus (first | (with_reducible refine far_of (HF3.out _ (Far.below _))))); go_big_quiet_on)))
            refine wpQuiet_nil ?_
            rintro _ ⟨xq, rfl⟩
            clear hfar1
            have hbf := xq.below
            obtain ⟨w3, hw3⟩ : ∃ w3, xq.far = w3 := ⟨_, rfl⟩
            rw [hw3] at hbf ⊢
            have HB3 := Lib.hid (keep1 HB2.out hbf)
            clear hw3 xq hbf HF3 s3 f3 l3
            go_wp2
            go_ret2
            exact ⟨rfl, HB3.out⟩
          | some i =>
            have HI := Lib.hid (stoFind_mem ho)
            have HIR : Hid (-9223372036854775808 ≤ i ∧ i ≤ 9223372036854775807) := by
              obtain ⟨x, hx, rfl⟩ := HI.out
              exact (HOK1.out x hx).1
            have HF' : Hid (∀ W, Below w.heap.size w W → Calls Tryz.prog sG #[.pointer (some ⟨c1, 0, none⟩), .int .u64 (t - t0 - zero)] W fun e w' => e = .returned (.tuple #[.int .i64 i, .bool true]) ∧ Below W.heap.size W w') := HF.out
            replace HF := HF'
            show Calls _ _ _ _ (fun e w' => e = .returned (.tuple #[.int .i64 (valZ rep i false), .bool true]) ∧ _)
            have HVL := Lib.hid fun W (hb : Below w.heap.size w W) => bvalue_at _ _ _ _ _ _ _ _ _ _ _ _ _ _ _ _ _ i false W (H.out.below hb) HIR.out.1 HIR.out.2
            clear HF' ho HI
            go_enter Tryz.func187, Tryz.ntmps187
            go_wp2_with fail
            refine HTO.out.mono ?_
            rintro e w1 ⟨rfl, hb⟩
            have HB1 := Lib.hid hb
            have s2 := s1.below hb
            have f2 := s2.six
            have l2 := s2.lt
            clear HTO s1 hb
            go_wp2_with fail
            refine (HT0.out w1 HB1.out).mono ?_
            rintro e w2 ⟨rfl, hb⟩
            have HB2 := Lib.hid (keep1 HB1.out hb)
            have s3 := s2.below hb
            have f3 := s3.six
            have l3 := s3.lt
            clear HT0 hb s2 f2 l2
            have HF3 := Lib.hid fun W (hb : Below w2.heap.size w2 W) => HF.out W (keep1 HB2.out hb)
            clear HF
            go_wp2
            have hfar1 := fun x : Far w2 => (x.at s3).six
            refine wp_region_far (by kernel_rfl) (by kernel_rfl) ?_
            repeat (first | go_big_quiet_skip | (go_big_quiet_want; go_big_quiet_op; first | go_big_quiet_on | (apply Exists.intro; refine ⟨fun _ => ?_, ?_⟩; (focus (first | (with_reducible refine far_of (HF3.out _ (Far.below _))))); go_big_quiet_on)))
            refine wpQuiet_nil ?_
            rintro _ ⟨xq, rfl⟩
            clear hfar1
            have hbf := xq.below
            obtain ⟨w3, hw3⟩ : ∃ w3, xq.far = w3 := ⟨_, rfl⟩
            rw [hw3] at hbf ⊢
            have HB3 := Lib.hid (keep1 HB2.out hbf)
            clear hw3 xq hbf HF3 s3 f3 l3
            go_wp2_with fail
            refine (HVL.out w3 HB3.out).mono ?_
            rintro e w4 ⟨rfl, hb⟩
            have HB4 := Lib.hid (keep1 HB3.out hb)
            clear hb HVL
            go_wp2
            go_ret2
            exact ⟨rfl, HB4.out⟩
end Go.Proofs.YtlbnlmhcpephbaaGreatDoor

namespace Go.Proofs.YtlbnlmhcpephbaaGreatDoor
open Go.RowKit
def binRank (part : Nat → Int) (s : Bool) (most : Int) (ps0 ps1 : List (Int × Int)) (t0 t1 zero x : Int) : Int × Int :=
 if x = 0 then (t0 + zero, t0 + zero)
 else if x < 0 then (t0 - (stoBelow s most (t0 - sumP ps0) ps0 (part x.natAbs)).2, t0 - (stoBelow s most (t0 - sumP ps0) ps0 (part x.natAbs - 1)).1)
 else (t0 + zero + (stoBelow s most (t1 - sumP ps1) ps1 (part x.natAbs - 1)).1, t0 + zero + (stoBelow s most (t1 - sumP ps1) ps1 (part x.natAbs)).2)
end Go.Proofs.YtlbnlmhcpephbaaGreatDoor

namespace Go.Proofs.YtlbnlmhcpephbaaGreatDoor
open Go.RowKit
def BnWW (b o : Nat) (cs ds : Array Value) (W : World) : Prop := At W b cs 208 ∧ At W o ds 208
end Go.Proofs.YtlbnlmhcpephbaaGreatDoor

namespace Go.Proofs.YtlbnlmhcpephbaaGreatDoor
open Go.RowKit
end Go.Proofs.YtlbnlmhcpephbaaGreatDoor

namespace Go.Proofs.YtlbnlmhcpephbaaGreatDoor
open Go.RowKit
def KeptR (ps : List (Int × Int)) (s : Bool) (most : Int) (w : World) (e : Ending) (w' : World) : Prop :=
 ∃ A' c', e = .returned (.tuple #[.slice A' (keptP s most ps).length c', .int .u64 (sumP ps - sumP (keptP s most ps))]) ∧ RdP w' A' (keptP s most ps) ∧ Below w.heap.size w w'
def docFind13 (part : Nat → Int) (stand : Int → Int) (s : Bool) (most : Int) (l : List (Int × Int)) (t : Int) : Option Int :=
 match exactV l t with
 | none => none
 | some x => if x ≠ 0 ∧ cnt (keptP s most (rowV part (decide (x < 0)) l)) (part x.natAbs) = 0 then none else some (stand x)
end Go.Proofs.YtlbnlmhcpephbaaGreatDoor

namespace Go.Proofs.YtlbnlmhcpephbaaGreatDoor
open Go.RowKit
def eLow (l : List (Int × Int)) : Int := if l.length = 0 then 0 else lowV (l.headD (0, 0)).1 l
def eHigh (l : List (Int × Int)) : Int := if l.length = 0 then 0 else highV (l.headD (0, 0)).1 l
def eIs (l : List (Int × Int)) : Bool := decide (l.length ≠ 0)
theorem lowV_append (a : Int) (l l' : List (Int × Int)) : lowV a (l ++ l') = lowV (lowV a l) l' := by unfold lowV; rw [List.foldl_append]
theorem highV_append (a : Int) (l l' : List (Int × Int)) : highV a (l ++ l') = highV (highV a l) l' := by unfold highV; rw [List.foldl_append]
end Go.Proofs.YtlbnlmhcpephbaaGreatDoor
