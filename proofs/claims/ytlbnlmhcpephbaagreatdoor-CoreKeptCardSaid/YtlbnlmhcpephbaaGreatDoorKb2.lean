/- Texts of this claim, joined, indents halved: Slices, RunsFind, RunsAll, Plus, StripAll. -/
import Derived.Maps.AppendAt
import Derived.Laws.CopyRow
import Derived.Laws.CopyOwn
import Derived.Laws.OwnMore
import Derived.Lib.AppendZeros
import Derived.OwnWalk
import Derived.Lib.Hide
import Derived.Test.YtlbnlmhcpephbaaGreatDoorProg
import Derived.Lib.Overlaps
import Derived.Laws.Externs
import Derived.Lib.SliceRun
import Derived.BigQuiet
import Derived.Deep.QuietTactic
import Derived.WalkMore
import Derived.ScopeJumps
import Derived.Test.YtlbnlmhcpephbaaGreatDoorKb1
namespace Go.Proofs.YtlbnlmhcpephbaaGreatDoor
open Go.RowKit
theorem take_splice {α : Type} (l : List α) (o N : Nat) (cs : List α) (h : o + cs.length ≤ N) (hN : N ≤ l.length) : (l.take o ++ cs ++ l.drop (o + cs.length)).take N = splice (l.take N) o cs := by
 unfold splice
 apply List.ext_getElem?
 intro j
 simp only [List.getElem?_take, List.getElem?_append, List.getElem?_drop, List.length_take, List.length_append]
 have e1 : min o l.length = o := by omega
 have e2 : min N l.length = N := by omega
 have e3 : min o (min N l.length) = o := by omega
 have e4 : min o N = o := by omega
 simp only [e1, e2, e3, e4]
 by_cases a : j < o
 ·simp only [a, show j < o + cs.length by omega, show j < N by omega, if_true]
 ·by_cases b : j < o + cs.length
  ·simp only [a, b, show j < N by omega, show j - o < cs.length by omega, if_true, if_false]
  ·simp only [a, b, show ¬ j - o < cs.length by omega, if_false]
   rw [show o + cs.length + (j - (o + cs.length)) = j by omega, show o + cs.length + (j - o - cs.length) = j by omega]
section
variable {P : Program} (w : World)
theorem own_setRow {base elem k g n cap : Nat} {xs : List Value} (hown : w.ownsRow base elem k (.slice (some ⟨g, 0, none⟩) n cap) n xs) :
  ∃ cur : Array Value, w.heap[g]? = some (.cells cur elem (0, 0)) ∧ cur.size = cap * k ∧ n ≤ cap ∧ cur.toList.take (n * k) = xs ∧
   ∀ (o N : Nat) (cs : List Value), N ≤ cap → o + cs.length ≤ cap * k → (w.setRow g (cur.toList.take o ++ cs ++ cur.toList.drop (o + cs.length)).toArray).ownsRow base elem k (.slice (some ⟨g, 0, none⟩) N cap) N ((cur.toList.take o ++ cs ++ cur.toList.drop (o + cs.length)).take (N * k)) ∧
    w.grownBy (w.setRow g (cur.toList.take o ++ cs ++ cur.toList.drop (o + cs.length)).toArray) (some g) := by
 rcases hown.2 with ⟨h, _⟩ | ⟨g', cap', cur, h, hbg, hg, hnc, hcm, hcs, htake⟩
 ·simp at h
 ·simp only [Value.slice.injEq, Option.some.injEq, Addr.mk.injEq, and_true, true_and] at h
  obtain ⟨rfl, rfl⟩ := h
  refine ⟨cur, hg, hcs, hnc, htake, fun o N cs hN hfit => ⟨⟨?_, .inr ⟨g, cap, _, rfl, hbg, setRow_heap w g cur _ elem _ hg, hN, hcm, ?_, rfl⟩⟩, ⟨rfl, rfl, rfl, by simp [World.setRow], fun j _ hj => setRow_other w g j _ (fun e => hj (by simp [e]))⟩⟩⟩
  ·have hNk : N * k ≤ cap * k := Nat.mul_le_mul_right _ hN
   simp only [List.length_take, List.length_append, List.length_drop, Array.length_toList]
   omega
  ·simp only [List.size_toArray, List.length_append, List.length_take, List.length_drop, Array.length_toList]
   omega
theorem run_copy_in (base : Nat) (dT sT ty elem : TypeId) (k : Nat) (hu : P.underlying dT = some (.slice elem)) (hs : (P.info? elem).map (·.size) = some k)
  (g n cap : Nat) (xs : List Value) (hown : w.ownsRow base elem k (.slice (some ⟨g, 0, none⟩) n cap) n xs)
  (o dLen dCap : Nat) (a : Addr) (sLen sCap m : Nat) (cs : List Value) (hm : Nat.min sLen dLen = m) (hn : cs.length = m * k) (hsrc : ∀ j v, cs[j]? = some v → w.cell? (a.add j) = some v)
  (hfit : o + cs.length ≤ n * k) (h1 : ∀ v ∈ cs, v.oneCell' = true) :
  ∃ w', (Builtin.copy_ #[dT, sT] ty #[.slice (some ⟨g, o, none⟩) dLen dCap, .slice (some a) sLen sCap]).run P w = .ok (goInt m) w' ∧
   w'.ownsRow base elem k (.slice (some ⟨g, 0, none⟩) n cap) n (splice xs o cs) ∧ w.grownBy w' (some g) := by
 obtain ⟨cur, hg, hcs, hnc, htake, hset⟩ := own_setRow w hown
 have hnk : n * k ≤ cap * k := Nat.mul_le_mul_right _ hnc
 obtain ⟨q1, q2⟩ := hset o n cs hnc (by omega)
 rw [take_splice _ _ _ _ hfit (by rw [Array.length_toList]; omega), htake] at q1
 refine ⟨_, ?_, q1, q2⟩
 have hl := run_firstCells_some (P := P) w k m a sLen sCap cs hn hsrc
 have hst := run_storeCells_at P g o elem cs 0 cur w hg (by omega) h1
 cases hq : P.info? elem with
 | none => simp [hq] at hs
 | some i =>
  have hi : i.size = k := by simpa [hq] using hs
  simp [Builtin.copy_, run_underlying hu, Builtin.lenOf, sizeOf, typeInfo, hq, hi, hm, hl, hst]
theorem zeroCells_length (z : Array Value) (n : Nat) : (Builtin.zeroCells z n).size = n * z.size := by simp [Builtin.zeroCells]
theorem zeroCells_mem {z : Array Value} {n : Nat} {v : Value} (h : v ∈ (Builtin.zeroCells z n).toList) (hz : ∀ u ∈ z.toList, u.oneCell' = true) : v.oneCell' = true := by
 simp only [Builtin.zeroCells, Array.toList_map, List.mem_map] at h
 obtain ⟨i, hi, rfl⟩ := h
 simp only [Array.toList_range, List.mem_range] at hi
 have h0 : 0 < z.size := by
  rcases Nat.eq_zero_or_pos z.size with h | h
  ·rw [h, Nat.mul_zero] at hi; omega
  ·exact h
 have hlt := Nat.mod_lt i h0
 rw [getElem!_pos z (i % z.size) hlt]
 exact hz _ (by simp)
theorem run_clear_spare (base : Nat) (t ty elem : TypeId) (k : Nat) (z : Value) (hu : P.underlying t = some (.slice elem)) (hv : ∀ w, (zeroValue elem).run P w = .ok z w) (hzk : z.cells.size = k) (h1 : ∀ u ∈ z.cells.toList, u.oneCell' = true)
  (g n cap : Nat) (xs : List Value) (hown : w.ownsRow base elem k (.slice (some ⟨g, 0, none⟩) n cap) n xs) (o m c : Nat) (ho : o = n * k) (hm : n + m ≤ cap) (hm0 : 0 < m) :
  ∃ w', (Builtin.clear_ #[t] ty #[.slice (some ⟨g, o, none⟩) m c]).run P w = .ok (.tuple #[]) w' ∧ w'.ownsRow base elem k (.slice (some ⟨g, 0, none⟩) n cap) n xs ∧ w.grownBy w' (some g) := by
 subst ho
 obtain ⟨cur, hg, hcs, hnc, htake, hset⟩ := own_setRow w hown
 have hmk : n * k + m * k ≤ cap * k := by rw [← Nat.add_mul]; exact Nat.mul_le_mul_right _ hm
 have hzl : (Builtin.zeroCells z.cells m).toList.length = m * k := by rw [Array.length_toList, zeroCells_length, hzk]
 obtain ⟨q1, q2⟩ := hset (n * k) n (Builtin.zeroCells z.cells m).toList hnc (by rw [hzl]; exact hmk)
 have e : (cur.toList.take (n * k) ++ (Builtin.zeroCells z.cells m).toList ++ cur.toList.drop (n * k + (Builtin.zeroCells z.cells m).toList.length)).take (n * k) = xs := by
  rw [List.append_assoc, List.take_append_of_le_length (by rw [List.length_take, Array.length_toList]; omega), List.take_take, Nat.min_self, htake]
 rw [e] at q1
 refine ⟨_, ?_, q1, q2⟩
 have hst := run_storeCells_at P g (n * k) elem (Builtin.zeroCells z.cells m).toList 0 cur w hg (by rw [hzl]; omega) (fun v h => zeroCells_mem h h1)
 obtain ⟨m', rfl⟩ : ∃ m', m = m' + 1 := ⟨m - 1, by omega⟩
 simp only [Nat.add_zero] at hst
 simp [Builtin.clear_, run_underlying hu, hv, hst]
theorem run_append_zeros_grow (base : Nat) (t tn ty elem : TypeId) (i : TypeInfo) (z : Value) (k bytes : Nat) (kn kx : IntKind) (hu : P.underlying t = some (.slice elem)) (htn : P.underlying tn = some (.int kn)) (hi : P.info? elem = some i) (hz : i.zero = some z)
  (hsize : i.size = k) (hby : i.bytes = bytes) (hzs : z.cells.size = k) (hk0 : 0 < k) (A : Option Addr) (n cap m : Nat) (old : List Value) (hold : (Builtin.firstCells k n (.slice A n cap)).run P w.drew = .ok old.toArray w.drew) (hol : old.length = n * k)
  (hm0 : 0 < m) (hroom : cap < n + m) (hbytes : (n + m) * bytes ≤ 140737488355328) (h63 : n + m ≤ maxLen) (hb : base ≤ w.heap.size) (hby0 : 0 < bytes) :
  ∃ cap' w', (Builtin.append_ #[t, tn] ty #[.slice A n cap, .int kx m]).run P w = .ok (.slice (some ⟨w.heap.size, 0, none⟩) (n + m) cap') w' ∧
   w'.ownsRow base elem k (.slice (some ⟨w.heap.size, 0, none⟩) (n + m) cap') (n + m) (old ++ (Builtin.zeroCells z.cells m).toList) ∧ w.grownBy w' none := by
 subst hsize
 subst hby
 have h63' : (n : Int) + m ≤ 9223372036854775807 := by simp only [maxLen] at h63; omega
 have hw : IntKind.i64.wrap (m : Int) = m := by rw [IntKind.wrap_i64]; omega
 have hneg : ¬ ((m : Int) < 0) := by omega
 have hmb : m * i.bytes ≤ (n + m) * i.bytes := Nat.mul_le_mul_right _ (by omega)
 have h48i : ¬ (281474976710656 < (m : Int) * (i.bytes : Int)) := by
  rw [← Int.natCast_mul]
  omega
 have h48 : ¬ (281474976710656 < Builtin.nextslicecap (n + m) cap * i.bytes) := by
  have := growslice_fits hroom hbytes
  omega
 have hr2 : ¬ (n + m ≤ cap) := by omega
 have hm1 : m ≠ 0 := by omega
 have hns : ¬ (m * i.size = 0) := Nat.mul_ne_zero hm1 (by omega)
 have hge := grownCap_ge w (n + m) cap elem
 have hle := grownCap_le_maxLen w (n + m) cap elem h63
 have hrun : (Builtin.append_ #[t, tn] ty #[.slice A n cap, .int kx m]).run P w =
   .ok (.slice (some ⟨w.heap.size, 0, none⟩) (n + m) (grownCap w (n + m) cap elem)) (w.drew.alloc (.cells (old.toArray ++ Builtin.zeroCells z.cells m ++ Builtin.zeroCells z.cells (grownCap w (n + m) cap elem - (n + m))) elem)) := by
  have h63i : ¬ (9223372036854775807 < (n : Int) + m) := by omega
  simp [Builtin.append_, run_underlying hu, run_underlying htn, sizeOf, typeInfo, zeroValue, hi, hz, asInt, asIntOf, hw, hneg, hns, hm1, hr2, h63i, h48, h48i, Question.forced, newRow, grownCap, hold]
 have hzl : (Builtin.zeroCells z.cells m).toList.length = m * i.size := by rw [Array.length_toList, zeroCells_length, hzs]
 refine ⟨_, _, hrun, ⟨?_, .inr ⟨w.heap.size, _, _, rfl, hb, heap_alloc_new w.drew _, hge, hle, ?_, ?_⟩⟩, ⟨rfl, rfl, rfl, by simp, fun j hj _ => by first | exact heap_alloc_old w.drew _ j hj | exact heap_alloc_old w.drew _ hj⟩⟩
 ·rw [List.length_append, hol, hzl, Nat.add_mul]
 ·rw [Array.size_append, Array.size_append, zeroCells_length, zeroCells_length, hzs, List.size_toArray, hol, ← Nat.add_mul, ← Nat.add_mul]
  congr 1
  omega
 ·have hlen : (old ++ (Builtin.zeroCells z.cells m).toList).length = (n + m) * i.size := by rw [List.length_append, hol, hzl, Nat.add_mul]
  rw [Array.toList_append, Array.toList_append, ← hlen]
  exact List.take_left
theorem wp_copy_run {o : Oper} {a : Act} {K : Act → World → Prop} {Q : Exit → Act → World → Prop} (d s : Operand) (t t' : TypeId)
  (ho : o.op = .call { callee := .builtin .copy, args := #[d, s], argTypes := #[t, t'] }) (v u : Value) (hd : a.eval d = v) (hs : a.eval s = u) {v' : Value} {w' : World}
  (hr : (Builtin.copy_ #[t, t'] o.type #[v, u]).run P w = .ok v' w') (h : K (a.put o.dst v') w') : o.wp P a w K Q := by
 unfold Oper.wp execOp
 simp only [ho, resolve, invoke, builtin, Sem.run_bind, Sem.run_pure, Result.andThen_ok, List.map_toArray, List.map_cons, List.map_nil, hd, hs, hr]
 exact h
end
theorem ite_of {c : Prop} [Decidable c] {A B : Prop} (h : c) (a : A) : if c then A else B := by rw [if_pos h]; exact a
end Go.Proofs.YtlbnlmhcpephbaaGreatDoor

namespace Go.Proofs.YtlbnlmhcpephbaaGreatDoor
open Go.RowKit
theorem RdP.at' {w : World} {A : Option Addr} {ps : List (Int × Int)} (h : RdP w A ps) (j : Nat) (hj : j < ps.length) :
  ∃ g o, A = some ⟨g, o, none⟩ ∧ g < w.heap.size ∧ w.cell? ⟨g, o + j * 2, none⟩ = some (.int .i64 (ps.getD j (0, 0)).1) ∧ w.cell? ⟨g, o + j * 2 + 1, none⟩ = some (.int .u64 (ps.getD j (0, 0)).2) := by
 have := h.at j hj
 rw [List.getD_eq_getElem?_getD, List.getElem?_eq_getElem hj]
 exact this
def byV (x q : Int) : Int := if x < q then -1 else if q < x then 1 else 0
theorem byV_ne {x q : Int} (h : x ≠ q) : byV x q ≠ 0 := by
 unfold byV
 split
 ·omega
 ·split <;> omega
theorem by_any (x y q : Int) (w : World) :
  Calls Tryz.prog 138 #[.agg #[.int .i64 x, .int .u64 y], .int .i64 q] w fun e w' => e = .returned (.int .i64 (byV x q)) ∧ Below w.heap.size w w' := by
 by_cases h1 : x < q
 ·have HE : Hid (byV x q = -1) := by show _ = _; unfold byV; rw [if_pos h1]
  rw [HE.out]
  go_enter Tryz.func138, Tryz.ntmps138
  go_wp2
  go_ret
  exact ⟨rfl, (by repeat (first | with_reducible assumption | with_reducible exact Below.refl _ _ | with_reducible refine Below.drew ?_ | with_reducible refine Below.drewN ?_ _ | with_reducible refine Below.setCell ?_ (by first | omega | (simp; done) | (simp; omega)) _ | with_reducible refine Below.alloc ?_ (by first | omega | (simp; done) | (simp; omega) | (simp [World.setCell]; omega)) _))⟩
 ·by_cases h2 : q < x
  ·have HE : Hid (byV x q = 1) := by show _ = _; unfold byV; rw [if_neg h1, if_pos h2]
   rw [HE.out]
   go_enter Tryz.func138, Tryz.ntmps138
   go_wp2
   go_ret
   exact ⟨rfl, (by repeat (first | with_reducible assumption | with_reducible exact Below.refl _ _ | with_reducible refine Below.drew ?_ | with_reducible refine Below.drewN ?_ _ | with_reducible refine Below.setCell ?_ (by first | omega | (simp; done) | (simp; omega)) _ | with_reducible refine Below.alloc ?_ (by first | omega | (simp; done) | (simp; omega) | (simp [World.setCell]; omega)) _))⟩
  ·have HE : Hid (byV x q = 0) := by show _ = _; unfold byV; rw [if_neg h1, if_neg h2]
   rw [HE.out]
   go_enter Tryz.func138, Tryz.ntmps138
   go_wp2
   go_ret
   exact ⟨rfl, (by repeat (first | with_reducible assumption | with_reducible exact Below.refl _ _ | with_reducible refine Below.drew ?_ | with_reducible refine Below.drewN ?_ _ | with_reducible refine Below.setCell ?_ (by first | omega | (simp; done) | (simp; omega)) _ | with_reducible refine Below.alloc ?_ (by first | omega | (simp; done) | (simp; omega) | (simp [World.setCell]; omega)) _))⟩
structure Posn (ps : List (Int × Int)) (q : Int) (k : Nat) : Prop where
 le : k ≤ ps.length
 under : ∀ j, j < k → (ps.getD j (0, 0)).1 < q
 over : ∀ j, k ≤ j → j < ps.length → q ≤ (ps.getD j (0, 0)).1
def BfR (ps : List (Int × Int)) (q : Int) (e : Ending) : Prop := ∃ k : Nat, ∃ f : Bool, e = .returned (.tuple #[.int .i64 k, .bool f]) ∧ Posn ps q k ∧ (f = true ↔ k < ps.length ∧ (ps.getD k (0, 0)).1 = q)
set_option maxRecDepth 100000 in
set_option maxHeartbeats 2000000 in
theorem bsf_any (A : Option Addr) (c len : Nat) (ps : List (Int × Int)) (q : Int) (w : World) (hlen : ps.length = len) (h : RdP w A ps) (hg : Gd ps) (hl : len ≤ 1099511627776) :
  Calls Tryz.prog 137 #[.slice A len c, .int .i64 q, .func (.func 138) #[] #[]] w fun e w' => BfR ps q e ∧ Below w.heap.size w w' := by
 have HA := Lib.hid (fun j (hj : j < ps.length) => h.at' j hj)
 have HS := Lib.hid (fun (x y : Nat) (h : x ≤ y) (hy : y < ps.length) => hg.le h hy)
 rw [hlen] at HA HS
 replace hlen := Lib.hid hlen
 clear h hg
 obtain ⟨n, hn⟩ : ∃ n, len = n := ⟨_, rfl⟩
 subst hn
 go_enter Tryz.func137, Tryz.ntmps137
 go_wp2
 go_loopw [9, 10] (fun I J wr => ∃ i j : Nat, i ≤ j ∧ j ≤ len ∧ I = .int .i64 i ∧ J = .int .i64 j ∧ Hid (∀ x, x < i → (ps.getD x (0, 0)).1 < q) ∧ Hid (∀ x, j ≤ x → x < len → q ≤ (ps.getD x (0, 0)).1) ∧ Below w.heap.size w wr) (fun I J _ => (intOf J).toNat - (intOf I).toNat)
 case atStart => exact ⟨0, len, by omega, by omega, rfl, rfl, Lib.hid (fun x hx => by omega), Lib.hid (fun x h1 h2 => by omega), Below.refl _ _⟩
 case round =>
  obtain ⟨i, j, hij, hjn, rfl, rfl, Hlo, Hhi, hB⟩ := hrel
  by_cases hlt : i < j
  ·have hlt' : (i : Int) < j := by omega
   obtain ⟨H, hH⟩ : ∃ H, (i + j) / 2 = H := ⟨_, rfl⟩
   obtain ⟨g, o, rfl, hg, hc1, hc2⟩ := HA.out H (by omega)
   have v1 : ((i : Int) + j) / 2 = (H : Int) := by omega
   have hHj : i ≤ H ∧ H < j := by omega
   obtain ⟨y, hy⟩ : ∃ y, (ps.getD H (0, 0)).1 = y := ⟨_, rfl⟩
   obtain ⟨z, hz⟩ : ∃ z, (ps.getD H (0, 0)).2 = z := ⟨_, rfl⟩
   rw [hy] at hc1
   rw [hz] at hc2
   replace hc1 := cellB hB hg hc1
   replace hc2 := cellB hB hg hc2
   replace hy := Lib.hid hy
   have k0 : (0 : Int) ≤ H := by omega
   have k1 : (H : Int) < len := by omega
   have v2 : IntKind.i64.wrap ((H : Int) + 1) = H + 1 := by simp only [IntKind.wrap_i64]; omega
   clear hH hz
   go_wp2_with fail
   refine (by_any y z q _).mono ?_
   rintro e w1 ⟨rfl, hb⟩
   replace hB := keep1 hB hb
   by_cases hym : y < q
   ·have hv : byV y q = -1 := by unfold byV; rw [if_pos hym]
    rw [hv]
    have Hlo2 : Hid (∀ x, x < H + 1 → (ps.getD x (0, 0)).1 < q) := fun x hx => by
     have := HS.out x H (by omega) (by omega)
     rw [hy.out] at this
     omega
    clear Hlo hb hv
    go_wp2
    go_roundw
    case rel => exact ⟨H + 1, j, by omega, hjn, by go_num, rfl, Hlo2, Hhi, hB⟩
    case measure => simp [intOf]; omega
   ·have hv : ¬ byV y q < 0 := by unfold byV; rw [if_neg hym]; split <;> omega
    have Hhi2 : Hid (∀ x, H ≤ x → x < len → q ≤ (ps.getD x (0, 0)).1) := fun x h1 h2 => by
     have := HS.out H x h1 h2
     rw [hy.out] at this
     omega
    obtain ⟨b, hbv⟩ : ∃ b, byV y q = b := ⟨_, rfl⟩
    rw [hbv] at hv ⊢
    clear Hhi hb hbv
    go_wp2
    go_roundw
    case rel => exact ⟨i, H, by omega, by omega, rfl, rfl, Hlo, Hhi2, hB⟩
    case measure => simp [intOf]; omega
  ·obtain rfl : i = j := by omega
   have HAt : Hid (Posn ps q i) := ⟨by rw [hlen.out]; omega, Hlo.out, fun j h1 h2 => Hhi.out j h1 (by rw [← hlen.out]; exact h2)⟩
   clear Hlo Hhi HS
   by_cases hin : i < len
   ·obtain ⟨g, o, rfl, hg, hc1, hc2⟩ := HA.out i hin
    obtain ⟨y, hy⟩ : ∃ y, (ps.getD i (0, 0)).1 = y := ⟨_, rfl⟩
    obtain ⟨z, hz⟩ : ∃ z, (ps.getD i (0, 0)).2 = z := ⟨_, rfl⟩
    rw [hy] at hc1
    rw [hz] at hc2
    replace hc1 := cellB hB hg hc1
    replace hc2 := cellB hB hg hc2
    replace hy := Lib.hid hy
    have k0 : (0 : Int) ≤ i := by omega
    have k1 : (i : Int) < len := by omega
    clear hz
    go_wp2_with fail
    refine (by_any y z q _).mono ?_
    rintro e w1 ⟨rfl, hb⟩
    replace hB := keep1 hB hb
    by_cases e : y = q
    ·have HE : Hid ((ps.getD i (0, 0)).1 = q) := hy.out.trans e
     have hv : byV y q = 0 := by unfold byV; rw [if_neg (by omega), if_neg (by omega)]
     rw [hv]
     clear e hv hb
     go_wp2
     go_ret2
     exact ⟨⟨i, true, rfl, HAt.out, ⟨fun _ => ⟨by rw [hlen.out]; exact hin, HE.out⟩, fun _ => rfl⟩⟩, hB⟩
    ·have hv : (byV y q == 0) = false := beq_eq_false_iff_ne.2 (byV_ne e)
     have HNe := Lib.hid e
     obtain ⟨b, hbv⟩ : ∃ b, byV y q = b := ⟨_, rfl⟩
     rw [hbv] at hv ⊢
     clear hb hbv e
     go_wp2
     go_ret2
     exact ⟨⟨i, false, rfl, HAt.out, ⟨fun h => (by cases h), fun h => absurd (hy.out.symm.trans h.2) HNe.out⟩⟩, hB⟩
   ·obtain rfl : i = len := by omega
    have hin' : ¬ (i : Int) < i := by omega
    clear HA
    go_wp2
    go_ret2
    exact ⟨⟨i, false, rfl, HAt.out, ⟨fun h => (by cases h), fun h => absurd (h.1) (by rw [hlen.out]; exact Nat.lt_irrefl _)⟩⟩, hB⟩
theorem rfind06_any (A : Option Addr) (c len : Nat) (ps : List (Int × Int)) (q : Int) (w : World) (hlen : ps.length = len) (h : RdP w A ps) (hg : Gd ps) (hl : len ≤ 1099511627776) :
  Calls Tryz.prog 126 #[.slice A len c, .int .i64 q] w fun e w' => BfR ps q e ∧ Below w.heap.size w w' := by
 have HC := Lib.hid (bsf_any A c len ps q w hlen h hg hl)
 clear h
 go_enter Tryz.func126, Tryz.ntmps126
 go_wp2_with fail
 refine HC.out.mono ?_
 rintro e w1 ⟨⟨k, f, rfl, hp, hf⟩, hB⟩
 have HP : Hid (Posn ps q k ∧ (f = true ↔ k < ps.length ∧ (ps.getD k (0, 0)).1 = q)) := ⟨hp, hf⟩
 clear HC hp hf
 go_wp2
 go_ret2
 exact ⟨⟨k, f, rfl, HP.out.1, HP.out.2⟩, hB⟩
end Go.Proofs.YtlbnlmhcpephbaaGreatDoor

namespace Go.Proofs.YtlbnlmhcpephbaaGreatDoor
open Go.RowKit
theorem sp1 {α : Type} (X Y ys P : List α) (h : ys.length = P.length) (a b : Nat) (ha : X.length = a) (hb : a + P.length = b) : splice (splice (X ++ Y ++ ys) b Y) a P = X ++ P ++ Y := by
 subst ha
 subst hb
 have e1 : splice (X ++ Y ++ ys) (X.length + P.length) Y = X ++ ((Y ++ ys).take P.length ++ Y) := by
  unfold splice
  rw [List.append_assoc X Y ys, List.take_append, List.take_of_length_le (by omega), Nat.add_sub_cancel_left, List.drop_of_length_le (by simp only [List.length_append]; omega), List.append_nil, List.append_assoc]
 have e2 : ((Y ++ ys).take P.length).length = P.length := by rw [List.length_take, List.length_append]; omega
 rw [e1]
 unfold splice
 rw [List.take_left, List.drop_append, List.drop_of_length_le (by omega), List.nil_append, Nat.add_sub_cancel_left, List.drop_append, List.drop_of_length_le (by omega), e2, Nat.sub_self, List.drop_zero, List.nil_append, List.append_assoc]
theorem sp2 {α : Type} (X Z P Y : List α) (h : Z.length = P.length + Y.length) (a b : Nat) (ha : X.length = a) (hb : a + P.length = b) : splice (splice (X ++ Z) a P) b Y = X ++ P ++ Y := by
 subst ha
 subst hb
 have e1 : splice (X ++ Z) X.length P = X ++ (P ++ Z.drop P.length) := by
  unfold splice
  rw [List.take_left, List.drop_append, List.drop_of_length_le (by omega), List.nil_append, Nat.add_sub_cancel_left]
 rw [e1]
 unfold splice
 rw [List.take_append, List.take_of_length_le (by omega), Nat.add_sub_cancel_left, List.take_left, List.drop_of_length_le (by simp only [List.length_append, List.length_drop]; omega), List.append_nil, List.append_assoc]
theorem Tryz.infoPairs : ∃ i, Tryz.prog.info? 247 = some i ∧ i.zero = some (.agg #[.int .i64 0, .int .u64 0]) ∧ i.size = 2 ∧ i.bytes = 16 := by
 have := Tryz.infoPair
 cases hh : Tryz.prog.info? 247 with
 | none => rw [hh] at this; cases this
 | some i =>
  rw [hh] at this
  simp only [Option.map_some, Option.some.injEq, Prod.mk.injEq] at this
  exact ⟨i, rfl, this.1, this.2.1, this.2.2⟩
theorem Tryz.sizePairs : (Tryz.prog.info? 247).map (·.size) = some 2 := by
 obtain ⟨i, hi, _, h2, _⟩ := Tryz.infoPairs
 rw [hi]; simp [h2]
theorem flatP_one {ps : List (Int × Int)} : ∀ u ∈ flatP ps, u.oneCell' = true := by
 intro u hu
 simp only [flatP, List.mem_flatMap, List.mem_cons, List.not_mem_nil, or_false] at hu
 obtain ⟨x, _, rfl | rfl⟩ := hu <;> rfl
theorem flatP_append (ps qs : List (Int × Int)) : flatP (ps ++ qs) = flatP ps ++ flatP qs := by simp [flatP]
theorem flatP_take (ps : List (Int × Int)) (i : Nat) : (flatP ps).take (i * 2) = flatP (ps.take i) := by
 have h : flatP ps = flatP (ps.take i) ++ flatP (ps.drop i) := by rw [← flatP_append, List.take_append_drop]
 by_cases hi : i ≤ ps.length
 ·rw [h, ← show (flatP (ps.take i)).length = i * 2 by rw [flatP_len, List.length_take]; omega]
  exact List.take_left
 ·rw [List.take_of_length_le (by rw [flatP_len]; omega), List.take_of_length_le (by omega)]
theorem flatP_drop (ps : List (Int × Int)) (i : Nat) : (flatP ps).drop (i * 2) = flatP (ps.drop i) := by
 have h : flatP ps = flatP (ps.take i) ++ flatP (ps.drop i) := by rw [← flatP_append, List.take_append_drop]
 by_cases hi : i ≤ ps.length
 ·rw [h, ← show (flatP (ps.take i)).length = i * 2 by rw [flatP_len, List.length_take]; omega]
  exact List.drop_left
 ·rw [List.drop_of_length_le (by rw [flatP_len]; omega), List.drop_of_length_le (by omega)]; rfl
theorem flatP_cons (x : Int × Int) (ps : List (Int × Int)) : flatP (x :: ps) = [.int .i64 x.1, .int .u64 x.2] ++ flatP ps := by simp [flatP]
def blk : Option Addr → List Nat
 | none => []
 | some g => [g.block]
theorem frame_grown {w w' : World} {A : Option Addr} {n c : Nat} (hg : w.grownBy w' (Value.slice A n c).ownBlock) : Frame (blk A) w w' :=
 ⟨hg.os, hg.tape, hg.output, hg.size, fun k hk hn => hg.block k hk (fun e => by
  cases A with
  | none => simp [Value.ownBlock] at e
  | some g => simp only [Value.ownBlock, Option.some.injEq] at e; subst e; exact hn (by simp [blk]))⟩
theorem frame_some {w w' : World} {g : Nat} (hg : w.grownBy w' (some g)) : Frame [g] w w' :=
 ⟨hg.os, hg.tape, hg.output, hg.size, fun k hk hn => hg.block k hk (fun e => by cases e; exact hn (by simp))⟩
theorem _root_.Go.Proofs.YtlbnlmhcpephbaaGreatDoor.Frame.of_drew {S : List Nat} {w w' : World} (h : Frame S w.drew w') : Frame S w w' := ⟨h.os, h.tape, h.output, h.size, h.block⟩
theorem frame_none {w w' : World} (hg : w.grownBy w' none) : Frame [] w w' := ⟨hg.os, hg.tape, hg.output, hg.size, fun k hk _ => hg.block k hk (fun e => by cases e)⟩
theorem Own2.from {base cap n : Nat} {w : World} {g : Nat} {ps : List (Int × Int)} (h : w.ownsRow base 247 2 (.slice (some ⟨g, 0, none⟩) n cap) n (flatP ps)) (i : Nat) : ∀ j u, (flatP (ps.drop i))[j]? = some u → w.cell? ((⟨g, i * 2, none⟩ : Addr).add j) = some u := by
 intro j u hj
 rw [← flatP_drop, List.getElem?_drop] at hj
 have := World.ownsRow.cells h (g := g) rfl (i * 2 + j) u hj
 rw [Addr.add_lit, Nat.zero_add] at this
 rw [Addr.add_lit]
 exact this
theorem run_app (base : Nat) (A : Option Addr) (cap : Nat) (ps qs : List (Int × Int)) (w : World) (hown : Own2 base w A cap ps) (ad : Addr) (c : Nat) (hsrc : ∀ j u, (flatP qs)[j]? = some u → w.cell? (ad.add j) = some u)
  (hlen : ps.length + qs.length ≤ 1099511627776) (hb : base ≤ w.heap.size) :
  ∃ A' cap' w', (Builtin.append_ #[212, 212] 212 #[.slice A ps.length cap, .slice (some ad) qs.length c]).run Tryz.prog w = .ok (.slice A' (ps.length + qs.length) cap') w' ∧
   Own2 base w' A' cap' (ps ++ qs) ∧ Frame (blk A) w w' ∧ ∀ k ∈ blk A', k ∈ blk A ∨ w.heap.size ≤ k := by
 obtain ⟨i, hi, hz, hsz, hby⟩ := Tryz.infoPairs
 obtain ⟨v', w', hr, hown', hg, hnil, hblk⟩ := run_append_own_at (P := Tryz.prog) w base 212 212 _ i _ 2 16 Tryz.underlyingRow hi hz hsz hby rfl (by decide) _ ps.length (flatP ps) hown ad qs.length c (flatP qs) (flatP_len _) hsrc
  flatP_one (by simp only [maxLen]; omega) (by omega) hb
 rw [← flatP_append] at hown'
 have hl : (ps ++ qs).length = ps.length + qs.length := List.length_append
 rcases hown'.2 with ⟨rfl, hn⟩ | ⟨g, cp, cur, rfl, r⟩
 ·refine ⟨none, 0, w', ?_, ?_, frame_grown hg, fun k hk => by simp [blk] at hk⟩
  ·rw [hr, hn]
  ·unfold Own2; rw [hl, hn]; rw [hn] at hown'; exact hown'
 ·refine ⟨some ⟨g, 0, none⟩, cp, w', hr, ?_, frame_grown hg, ?_⟩
  ·unfold Own2; rw [hl]; exact hown'
  ·intro k hk
   simp only [blk, List.mem_singleton] at hk
   subst hk
   simp only [Value.ownBlock] at hblk
   rcases hblk with hblk | hblk
   ·cases A with
    | none => simp at hblk
    | some a => simp only [Option.some.injEq] at hblk; exact .inl (by simp [blk, hblk])
   ·simp only [Option.some.injEq] at hblk
    exact .inr (by omega)
theorem insert_list (ps : List (Int × Int)) (i : Nat) (p : Int × Int) : flatP (ps.take i) ++ [.int .i64 p.1, .int .u64 p.2] ++ flatP (ps.drop i) = flatP (ps.take i ++ p :: ps.drop i) := by
 rw [flatP_append, flatP_cons, List.append_assoc]
def InsR (base : Nat) (A : Option Addr) (ps : List (Int × Int)) (i : Nat) (p : Int × Int) (w : World) (e : Ending) (w' : World) : Prop :=
 ∃ A' c', e = .returned (.slice A' (ps.length + 1) c') ∧ Own2 base w' A' c' (ps.take i ++ p :: ps.drop i) ∧ Frame (blk A) w w' ∧ ∀ k ∈ blk A', k ∈ blk A ∨ w.heap.size ≤ k
set_option maxRecDepth 100000 in
set_option maxHeartbeats 2000000 in
theorem insert_end (base : Nat) (A : Option Addr) (c : Nat) (ps : List (Int × Int)) (p : Int × Int) (vb : Nat) (w : World) (hown : Own2 base w A c ps) (hlen : ps.length ≤ 1048576) (hv : At w vb #[.int .i64 p.1, .int .u64 p.2] 247) (hb : base ≤ w.heap.size) :
  Calls Tryz.prog 139 #[.slice A ps.length c, .int .i64 ps.length, .slice (some ⟨vb, 0, none⟩) 1 1] w fun e w' => InsR base A ps ps.length p w e w' := by
 have hsrc : ∀ j u, (flatP [p])[j]? = some u → w.cell? ((⟨vb, 0, none⟩ : Addr).add j) = some u := by
  intro j u hj
  rw [Addr.add_lit, Nat.zero_add]
  match j, hj with
  | 0, hj => simp [flatP] at hj; subst hj; exact hv.cell rfl
  | 1, hj => simp [flatP] at hj; subst hj; exact hv.cell rfl
 obtain ⟨A', c', w', hr, ho, hf, hk⟩ := run_app base A c ps [p] w hown ⟨vb, 0, none⟩ 1 hsrc (by simp; omega) hb
 have HR : Hid (InsR base A ps ps.length p w (.returned (.slice A' (ps.length + 1) c')) w') := ⟨A', c', rfl, by rw [List.take_length, List.drop_length]; exact ho, hf, hk⟩
 have hcap : ps.length ≤ c := by
  rcases hown.2 with ⟨h, h0⟩ | ⟨g, cp, cur, h, _, _, h1, _⟩
  ·omega
  ·simp only [Value.slice.injEq] at h; omega
 have hnil : A = none → ps.length = 0 ∧ c = 0 := fun hA => by
  rcases hown.2 with ⟨h, h0⟩ | ⟨g, cp, cur, h, _⟩
  ·simp only [Value.slice.injEq] at h; exact ⟨h0, h.2.2⟩
  ·rw [hA] at h; simp at h
 obtain ⟨n, hn⟩ : ∃ n, ps.length = n := ⟨_, rfl⟩
 rw [hn] at hr HR hcap hlen hnil ⊢
 replace hr := Lib.hid hr
 clear ho hf hk hown hsrc hn
 cases A with
 | none =>
  obtain ⟨rfl, rfl⟩ := hnil rfl
  clear hnil hcap
  go_enter Tryz.func139, Tryz.ntmps139
  go_wp2_with (at_builtin; refine Lib.wpList_append_run _ rfl _ _ _ _ rfl _ _ rfl rfl _ _ hr.out ?_)
  go_ret
  exact HR.out
 | some a =>
  clear hnil
  by_cases hc : c = n
  ·subst hc
   go_enter Tryz.func139, Tryz.ntmps139
   go_wp2_with (at_builtin; refine Lib.wpList_append_run _ rfl _ _ _ _ rfl _ _ rfl rfl _ _ hr.out ?_)
   go_ret
   exact HR.out
  ·go_enter Tryz.func139, Tryz.ntmps139
   go_wp2_with (at_builtin; refine Lib.wpList_append_run _ rfl _ _ _ _ rfl _ _ rfl rfl _ _ hr.out ?_)
   go_ret
   exact HR.out
theorem own_longer {base k elem g n cap N : Nat} {xs : List Value} {w : World} (h : w.ownsRow base elem k (.slice (some ⟨g, 0, none⟩) n cap) n xs) (hN : n ≤ N) (hc : N ≤ cap) :
  ∃ ys : List Value, ys.length = (N - n) * k ∧ w.ownsRow base elem k (.slice (some ⟨g, 0, none⟩) N cap) N (xs ++ ys) := by
 rcases h.2 with ⟨h, _⟩ | ⟨g', cap', cur, h, hbg, hg, hnc, hcm, hcs, htake⟩
 ·simp at h
 ·simp only [Value.slice.injEq, Option.some.injEq, Addr.mk.injEq, and_true, true_and] at h
  obtain ⟨rfl, rfl⟩ := h
  have hNk : N * k ≤ cap * k := Nat.mul_le_mul_right _ hc
  have hnN : n * k ≤ N * k := Nat.mul_le_mul_right _ hN
  have e : xs ++ (cur.toList.drop (n * k)).take ((N - n) * k) = cur.toList.take (N * k) := by
   rw [← htake, Nat.sub_mul, ← List.take_add, Nat.add_sub_cancel' hnN]
  refine ⟨(cur.toList.drop (n * k)).take ((N - n) * k), ?_, ?_⟩
  ·rw [List.length_take, List.length_drop, Array.length_toList, Nat.sub_mul]; omega
  ·rw [e]
   exact ⟨by rw [List.length_take, Array.length_toList]; omega, .inr ⟨g, cap, cur, rfl, hbg, hg, hc, hcm, hcs, rfl⟩⟩
set_option maxRecDepth 100000 in
set_option maxHeartbeats 4000000 in
theorem insert_room (base g : Nat) (c i : Nat) (ps : List (Int × Int)) (p : Int × Int) (vb : Nat) (w : World) (hown : Own2 base w (some ⟨g, 0, none⟩) c ps) (hi : i < ps.length) (hroom : ps.length + 1 ≤ c) (hlen : ps.length ≤ 1048576)
  (hv : At w vb #[.int .i64 p.1, .int .u64 p.2] 247) (hvb : vb ≠ g) :
  Calls Tryz.prog 139 #[.slice (some ⟨g, 0, none⟩) ps.length c, .int .i64 i, .slice (some ⟨vb, 0, none⟩) 1 1] w fun e w' => InsR base (some ⟨g, 0, none⟩) ps i p w e w' := by
 obtain ⟨n, hn⟩ : ∃ n, ps.length = n := ⟨_, rfl⟩
 rw [hn] at hi hroom hlen ⊢
 have hown0 : w.ownsRow base 247 2 (.slice (some ⟨g, 0, none⟩) n c) n (flatP ps) := by rw [← hn]; exact hown
 obtain ⟨ys, hys, hown1⟩ := own_longer hown0 (show n ≤ n + 1 by omega) hroom
 have hd : (flatP (ps.drop i)).length = (n - i) * 2 := by rw [flatP_len, List.length_drop, hn]
 have ht : (flatP (ps.take i)).length = i * 2 := by rw [flatP_len, List.length_take, hn]; omega
 have hxs : flatP ps = flatP (ps.take i) ++ flatP (ps.drop i) := by rw [← flatP_append, List.take_append_drop]
 obtain ⟨w1, hr1, ho1, hg1⟩ := run_copy_in (P := Tryz.prog) w.drew base 212 212 3 247 2 Tryz.underlyingRow Tryz.sizePairs g (n + 1) c _ hown1.drew ((i + 1) * 2) (n - i) (c - (i + 1)) ⟨g, i * 2, none⟩ (n + 1 - i) (c - i) (n - i) (flatP (ps.drop i))
  (by simp only [Nat.min_def]; split <;> omega) hd (Own2.from hown0 i) (by rw [hd]; omega) flatP_one
 have hv1 : At w1 vb #[.int .i64 p.1, .int .u64 p.2] 247 := (hg1.block vb hv.lt (fun e => by cases e; exact hvb rfl)).trans hv
 have hsrc : ∀ j u, [Value.int .i64 p.1, .int .u64 p.2][j]? = some u → w1.cell? ((⟨vb, 0, none⟩ : Addr).add j) = some u := by
  intro j u hj
  rw [Addr.add_lit, Nat.zero_add]
  match j, hj with
  | 0, hj => simp at hj; subst hj; exact hv1.cell rfl
  | 1, hj => simp at hj; subst hj; exact hv1.cell rfl
 obtain ⟨w2, hr2, ho2, hg2⟩ := run_copy_in (P := Tryz.prog) w1 base 212 212 3 247 2 Tryz.underlyingRow Tryz.sizePairs g (n + 1) c _ ho1 (i * 2) (n + 1 - i) (c - i) ⟨vb, 0, none⟩ 1 1 1 [.int .i64 p.1, .int .u64 p.2]
  (by simp only [Nat.min_def]; split <;> omega) rfl hsrc (by simp; omega) (by intro u hu; simp only [List.mem_cons, List.not_mem_nil, or_false] at hu; rcases hu with rfl | rfl <;> rfl)
 rw [hxs, sp1 (flatP (ps.take i)) (flatP (ps.drop i)) ys [.int .i64 p.1, .int .u64 p.2] (by rw [hys]; simp) (i * 2) ((i + 1) * 2) ht (by simp; omega), insert_list] at ho2
 have hlr : (ps.take i ++ p :: ps.drop i).length = n + 1 := by rw [List.length_append, List.length_cons, List.length_take, List.length_drop, hn]; omega
 have HR : Hid (InsR base (some ⟨g, 0, none⟩) ps i p w (.returned (.slice (some ⟨g, 0, none⟩) (n + 1) c)) w2) := by
  refine ⟨_, _, by rw [hn], ?_, (frame_some hg1).of_drew.trans (frame_some hg2), fun k hk => .inl hk⟩
  unfold Own2
  rw [hlr]
  exact ho2
 have hsh : w.shape? vb = some (247, 2) := by unfold World.shape?; rw [show w.heap[vb]? = _ from hv]; rfl
 obtain ⟨cur, hcg, hcs, _⟩ := own_setRow w hown0
 have hsg : w.shape? g = some (247, c * 2) := by unfold World.shape?; rw [hcg]; simp [hcs]
 have hzE : ∀ w, (Go.sizeOf 247).run Tryz.prog w = .ok 2 w := fun w => by
  obtain ⟨i0, h0, _, h2, _⟩ := Tryz.infoPairs
  simp [sizeOf, typeInfo, h0, h2]
 have hov : ∀ lb cb, (callFunc 144 #[.slice (some ⟨vb, 0, none⟩) 1 1, .slice (some ⟨g, (i + 1) * 2, none⟩) lb cb]).run Tryz.prog w = .ok (.value (.bool false)) w := fun lb cb => by
  rw [run_callFunc_extern Tryz.func144 (by kernel_rfl) (by kernel_rfl) (by kernel_rfl) (e := Extern.SlicesOverlaps.overlaps #[212, 212] #[4]) (by kernel_rfl),
   Lib.run_overlaps_apart w 212 4 247 Tryz.underlyingRow 2 hzE ⟨vb, 0, none⟩ ⟨g, (i + 1) * 2, none⟩ 1 1 lb cb hvb _ _ _ _ hsh hsg (by omega) (hv.frozen 0) (hv.frozen 2)]
  rfl
 have hb2 : ¬ (c = i + 1) := by omega
 have hb4 : ¬ (c = i) := by omega
 have w1' : IntKind.i64.wrap ((i : Int) + 1) = ((i + 1 : Nat) : Int) := by rw [IntKind.wrap_i64]; omega
 have w2' : IntKind.i64.wrap ((n : Int) + 1) = ((n + 1 : Nat) : Int) := by rw [IntKind.wrap_i64]; omega
 have n1 : ¬ ((i : Int) = n) := by omega
 have n1' : ((i : Int) == (n : Int)) = false := beq_eq_false_iff_ne.2 n1
 have n2 : ¬ ((c : Int) < n + 1) := by omega
 have n3 : (i : Int) ≤ n := by omega
 have n4 : n + 1 ≤ c := hroom
 have n5 : i + 1 ≤ n + 1 := by omega
 replace hr1 := Lib.hid hr1
 replace hr2 := Lib.hid hr2
 clear hown hown0 hown1 ho1 ho2 hd ht hxs hys hsrc hg1 hg2 hlr hsh hcg hcs hsg hzE hv1 hn
 go_enter Tryz.func139, Tryz.ntmps139
 go_wp2_with (simp only [hov])
 refine wp_region_noPanic ?_
 refine wp_region_until (S := fun _ => True) 9 (by kernel_rfl) ?_
 have hHeld : (fun _ : World => True) w.drew := trivial
 have hneF : Nonempty (Held fun _ => True) := ⟨⟨w, trivial⟩⟩
 refine wpAnyU_run0F [true, true, true, true, true, true, true, true] 1 (by kernel_rfl) (by kernel_rfl) (fun _ _ _ _ h => h) (by kernel_rfl) hHeld ?_
 simp only [runOps_true, runOps_false, runOps_nil]
 repeat (first | go_big_quiet_skip | (go_big_quiet_want; go_big_quiet_op; go_big_quiet_on))
 refine wpQuiet_nil ?_
 refine wpAnyU_ready (rs := [8]) (by kernel_rfl) (by simp) ?_
 refine AllReadyU.cons rfl (fun K hK => ?_) (AllReadyU.nil)
 refine ite_of rfl ?_
 refine wp_copy_run _ _ _ _ _ rfl _ _ rfl rfl hr1.out ?_
 refine hK.out _ _ (fun _ => trivial) ?_
 clear hK K
 refine wpAnyU_done (by kernel_rfl) ?_ _
 refine NoPanic.normal ?_
 simp only [Act.put, List.setIfInBounds_toArray, List.set_cons_zero, List.set_cons_succ]
 clear hneF hHeld
 have hr2' := hr2.out
 go_wp2
 go_ret
 exact HR.out
set_option maxRecDepth 100000 in
set_option maxHeartbeats 4000000 in
theorem insert_grow (base g : Nat) (c i : Nat) (ps : List (Int × Int)) (p : Int × Int) (vb : Nat) (w : World) (hown : Own2 base w (some ⟨g, 0, none⟩) c ps) (hi : i < ps.length) (hroom : c < ps.length + 1) (hlen : ps.length ≤ 1048576)
  (hv : At w vb #[.int .i64 p.1, .int .u64 p.2] 247) (hb : base ≤ w.heap.size) :
  Calls Tryz.prog 139 #[.slice (some ⟨g, 0, none⟩) ps.length c, .int .i64 i, .slice (some ⟨vb, 0, none⟩) 1 1] w fun e w' => InsR base (some ⟨g, 0, none⟩) ps i p w e w' := by
 obtain ⟨n, hn⟩ : ∃ n, ps.length = n := ⟨_, rfl⟩
 rw [hn] at hi hroom hlen ⊢
 have hown0 : w.ownsRow base 247 2 (.slice (some ⟨g, 0, none⟩) n c) n (flatP ps) := by rw [← hn]; exact hown
 obtain ⟨cur, hcg, hcs, hnc, _⟩ := own_setRow w hown0
 obtain ⟨M, hM⟩ : ∃ M, n + 1 - i = M := ⟨_, rfl⟩
 have hd : (flatP (ps.drop i)).length = (n - i) * 2 := by rw [flatP_len, List.length_drop, hn]
 have ht : (flatP (ps.take i)).length = i * 2 := by rw [flatP_len, List.length_take, hn]; omega
 obtain ⟨i0, hi0, hz, hsz, hby⟩ := Tryz.infoPairs
 have hold : (Builtin.firstCells 2 i (.slice (some ⟨g, 0, none⟩) i c)).run Tryz.prog w.drew = .ok (flatP (ps.take i)).toArray w.drew :=
  run_firstCells_some (P := Tryz.prog) w.drew 2 i ⟨g, 0, none⟩ i c (flatP (ps.take i)) ht (fun j u hj => by
   have h0 := Own2.from hown0.drew 0 j u
   rw [List.drop_zero, Nat.zero_mul] at h0
   refine h0 ?_
   rw [← flatP_take, List.getElem?_take] at hj
   split at hj
   ·exact hj
   ·cases hj)
 obtain ⟨cap', w1, hr1, ho1, hg1⟩ := run_append_zeros_grow (P := Tryz.prog) w base 212 3 212 247 i0 _ 2 16 .i64 .i64 Tryz.underlyingRow (by kernel_rfl) hi0 hz hsz hby rfl (by decide) (some ⟨g, 0, none⟩) i c M (flatP (ps.take i)) hold ht
  (by omega) (by omega) (by omega) (by simp only [maxLen]; omega) hb (by decide)
 obtain ⟨G, hG⟩ : ∃ G, w.heap.size = G := ⟨_, rfl⟩
 rw [hG] at hr1 ho1
 have hgG : g < G := by rw [← hG]; exact (Array.getElem?_eq_some_iff.1 hcg).1
 have hv1 : At w1 vb #[.int .i64 p.1, .int .u64 p.2] 247 := (hg1.block vb hv.lt (fun e => by cases e)).trans hv
 have hvG : vb < G := by rw [← hG]; exact hv.lt
 have hown1 : w1.ownsRow base 247 2 (.slice (some ⟨g, 0, none⟩) n c) n (flatP ps) := hown0.kept hg1 (.inr (by simp [Value.ownBlock]))
 have hcap : i + M ≤ cap' := by
  obtain ⟨_, _, _, h, _⟩ := own_setRow w1 ho1
  exact h
 have hsrc : ∀ j u, [Value.int .i64 p.1, .int .u64 p.2][j]? = some u → w1.cell? ((⟨vb, 0, none⟩ : Addr).add j) = some u := by
  intro j u hj
  rw [Addr.add_lit, Nat.zero_add]
  match j, hj with
  | 0, hj => simp at hj; subst hj; exact hv1.cell rfl
  | 1, hj => simp at hj; subst hj; exact hv1.cell rfl
 obtain ⟨w2, hr2, ho2, hg2⟩ := run_copy_in (P := Tryz.prog) w1 base 212 212 3 247 2 Tryz.underlyingRow Tryz.sizePairs G (i + M) cap' _ ho1 (i * 2) M (cap' - i) ⟨vb, 0, none⟩ 1 1 1 [.int .i64 p.1, .int .u64 p.2]
  (by simp only [Nat.min_def]; split <;> omega) rfl hsrc (by simp; omega) (by intro u hu; simp only [List.mem_cons, List.not_mem_nil, or_false] at hu; rcases hu with rfl | rfl <;> rfl)
 have hown2 : w2.ownsRow base 247 2 (.slice (some ⟨g, 0, none⟩) n c) n (flatP ps) := hown1.kept hg2 (.inr (by simp [Value.ownBlock]; omega))
 obtain ⟨w3, hr3, ho3, hg3⟩ := run_copy_in (P := Tryz.prog) w2.drew base 212 212 3 247 2 Tryz.underlyingRow Tryz.sizePairs G (i + M) cap' _ ho2.drew ((i + 1) * 2) (i + M - (i + 1)) (cap' - (i + 1)) ⟨g, i * 2, none⟩ (n - i) (c - i) (n - i) (flatP (ps.drop i))
  (by simp only [Nat.min_def]; split <;> omega) hd (Own2.from hown2.drew i) (by rw [hd]; omega) flatP_one
 rw [sp2 (flatP (ps.take i)) _ [.int .i64 p.1, .int .u64 p.2] (flatP (ps.drop i)) (by rw [Array.length_toList, zeroCells_length, hd]; simp [Value.cells]; omega) (i * 2) ((i + 1) * 2) ht (by simp; omega), insert_list] at ho3
 have hlr : (ps.take i ++ p :: ps.drop i).length = n + 1 := by rw [List.length_append, List.length_cons, List.length_take, List.length_drop, hn]; omega
 have hiM : i + M = n + 1 := by omega
 have HR : Hid (InsR base (some ⟨g, 0, none⟩) ps i p w (.returned (.slice (some ⟨G, 0, none⟩) (i + M) cap')) w3) := by
  refine ⟨some ⟨G, 0, none⟩, cap', by rw [hn, hiM], ?_, ?_, fun k hk => .inr (by simp only [blk, List.mem_singleton] at hk; omega)⟩
  ·unfold Own2
   rw [hlr, ← hiM]
   exact ho3
  ·have B1 : Below w.heap.size w w1 := (frame_none hg1).below (Below.refl _ _) (Nat.le_refl _) (fun k hk => by simp at hk)
   have B2 : Below w.heap.size w w2 := (frame_some hg2).below B1 B1.size (fun k hk => by simp at hk; omega)
   have B3 : Below w.heap.size w w3 := (frame_some hg3).of_drew.below B2 B2.size (fun k hk => by simp at hk; omega)
   exact Frame.of_below B3
 have hM2 : (n : Int) + 1 - i = (M : Int) := by omega
 have n1 : ¬ ((i : Int) = n) := by omega
 have n1' : ((i : Int) == (n : Int)) = false := beq_eq_false_iff_ne.2 n1
 have n2 : (c : Int) < n + 1 := by omega
 have n3 : (i : Int) ≤ n := by omega
 have n4 : i ≤ n := by omega
 have hb2 : ¬ (cap' = i + 1) := by omega
 have hb4 : ¬ (cap' = i) := by omega
 have hb5 : ¬ (c = i) := by omega
 have w1' : IntKind.i64.wrap ((i : Int) + 1) = ((i + 1 : Nat) : Int) := by rw [IntKind.wrap_i64]; omega
 have m1 : i + 1 ≤ i + M := by omega
 have m2 : (1 : Int) ≤ M := by omega
 have m3 : 1 ≤ M := by omega
 have e1 : i + M - i = M := by omega
 have hic : i ≤ c := by omega
 replace hr1 := Lib.hid hr1
 clear hown hown0 hown1 hown2 ho1 ho2 ho3 hd ht hsrc hg1 hg2 hg3 hlr hcg hcs hv1 hn hold hG hM hiM hi0 hz hsz hby
 go_enter Tryz.func139, Tryz.ntmps139
 go_wp2_with (at_builtin; refine Lib.wpList_append_run _ rfl _ _ _ _ rfl _ _ rfl rfl _ _ hr1.out ?_)
 clear hr1 hr2
 replace hr3 := Lib.hid hr3
 refine wp_region_noPanic ?_
 refine wp_region_until (S := fun _ => True) 9 (by kernel_rfl) ?_
 have hHeld : (fun _ : World => True) w2.drew := trivial
 have hneF : Nonempty (Held fun _ => True) := ⟨⟨w2, trivial⟩⟩
 refine wpAnyU_run0F [true, true, true, true, true, true, true, true] 1 (by kernel_rfl) (by kernel_rfl) (fun _ _ _ _ h => h) (by kernel_rfl) hHeld ?_
 simp only [runOps_true, runOps_false, runOps_nil]
 repeat (first | go_big_quiet_skip | (go_big_quiet_want; go_big_quiet_op; go_big_quiet_on))
 refine wpQuiet_nil ?_
 refine wpAnyU_ready (rs := [8]) (by kernel_rfl) (by simp) ?_
 refine AllReadyU.cons rfl (fun K hK => ?_) (AllReadyU.nil)
 refine ite_of rfl ?_
 refine wp_copy_run _ _ _ _ _ rfl _ _ rfl rfl hr3.out ?_
 refine hK.out _ _ (fun _ => trivial) ?_
 clear hK K
 refine wpAnyU_done (by kernel_rfl) ?_ _
 refine NoPanic.normal ?_
 simp only [Act.put, List.setIfInBounds_toArray, List.set_cons_zero, List.set_cons_succ]
 clear hneF hHeld
 go_wp2
 go_ret
 exact HR.out
theorem insert_any (base : Nat) (A : Option Addr) (c i : Nat) (ps : List (Int × Int)) (p : Int × Int) (vb : Nat) (w : World) (hown : Own2 base w A c ps) (hi : i ≤ ps.length) (hlen : ps.length ≤ 1048576)
  (hv : At w vb #[.int .i64 p.1, .int .u64 p.2] 247) (hvb : ∀ k ∈ blk A, k ≠ vb) (hb : base ≤ w.heap.size) :
  Calls Tryz.prog 139 #[.slice A ps.length c, .int .i64 i, .slice (some ⟨vb, 0, none⟩) 1 1] w fun e w' => InsR base A ps i p w e w' := by
 by_cases h : i = ps.length
 ·subst h
  exact insert_end base A c ps p vb w hown hlen hv hb
 ·have hlt : i < ps.length := by omega
  obtain ⟨g, rfl⟩ : ∃ g, A = some ⟨g, 0, none⟩ := by
   rcases hown.2 with ⟨_, h0⟩ | ⟨g, cp, cur, h, _⟩
   ·omega
   ·simp only [Value.slice.injEq] at h; exact ⟨g, h.1⟩
  by_cases hr : ps.length + 1 ≤ c
  ·exact insert_room base g c i ps p vb w hown hlt hr hlen hv (fun e => hvb g (by simp [blk]) e.symm)
  ·exact insert_grow base g c i ps p vb w hown hlt (by omega) hlen hv hb
end Go.Proofs.YtlbnlmhcpephbaaGreatDoor
namespace Go.Proofs.YtlbnlmhcpephbaaGreatDoor
open Go.RowKit
theorem own_shorter {base k elem g n cap N : Nat} {xs : List Value} {w : World} (h : w.ownsRow base elem k (.slice (some ⟨g, 0, none⟩) n cap) n xs) (hN : N ≤ n) : w.ownsRow base elem k (.slice (some ⟨g, 0, none⟩) N cap) N (xs.take (N * k)) := by
 rcases h.2 with ⟨h, _⟩ | ⟨g', cap', cur, h, hbg, hg, hnc, hcm, hcs, htake⟩
 ·simp at h
 ·simp only [Value.slice.injEq, Option.some.injEq, Addr.mk.injEq, and_true, true_and] at h
  obtain ⟨rfl, rfl⟩ := h
  have hNk : N * k ≤ n * k := Nat.mul_le_mul_right _ hN
  have hnk : n * k ≤ cap * k := Nat.mul_le_mul_right _ hnc
  have e : xs.take (N * k) = cur.toList.take (N * k) := by rw [← htake, List.take_take, Nat.min_eq_left hNk]
  rw [e]
  exact ⟨by rw [List.length_take, Array.length_toList]; omega, .inr ⟨g, cap, cur, rfl, hbg, hg, by omega, hcm, hcs, rfl⟩⟩
def DelR (base g c : Nat) (ps : List (Int × Int)) (i : Nat) (w : World) (e : Ending) (w' : World) : Prop :=
 e = .returned (.slice (some ⟨g, 0, none⟩) (ps.length - 1) c) ∧ Own2 base w' (some ⟨g, 0, none⟩) c (ps.take i ++ ps.drop (i + 1)) ∧ Frame [g] w w'
set_option maxRecDepth 100000 in
set_option maxHeartbeats 4000000 in
theorem delete_any (base g c i : Nat) (ps : List (Int × Int)) (w : World) (hown : Own2 base w (some ⟨g, 0, none⟩) c ps) (hi : i < ps.length) (hlen : ps.length ≤ 1048576) :
  Calls Tryz.prog 162 #[.slice (some ⟨g, 0, none⟩) ps.length c, .int .i64 i, .int .i64 (i + 1 : Nat)] w fun e w' => DelR base g c ps i w e w' := by
 obtain ⟨n, hn⟩ : ∃ n, ps.length = n := ⟨_, rfl⟩
 rw [hn] at hi hlen ⊢
 have hown0 : w.ownsRow base 247 2 (.slice (some ⟨g, 0, none⟩) n c) n (flatP ps) := by rw [← hn]; exact hown
 obtain ⟨_, _, _, hnc, _⟩ := own_setRow w hown0
 obtain ⟨i0, hi0, hz, hsz, hby⟩ := Tryz.infoPairs
 obtain ⟨D, hD⟩ : ∃ D, n - (i + 1) = D := ⟨_, rfl⟩
 have hiK : i + D + 1 = n := by omega
 have hd : (flatP (ps.drop (i + 1))).length = D * 2 := by rw [flatP_len, List.length_drop, hn, hD]
 have hpre := own_shorter hown0 (show i ≤ n by omega)
 rw [flatP_take] at hpre
 obtain ⟨ad, cp, had, hsrc⟩ : ∃ (ad : Addr) (cp : Nat), ((c = i + 1 ∧ ad = ⟨g, 0, none⟩ ∧ cp = 0) ∨ (c ≠ i + 1 ∧ ad = ⟨g, (i + 1) * 2, none⟩ ∧ cp = c - (i + 1))) ∧ ∀ j u, (flatP (ps.drop (i + 1)))[j]? = some u → w.drew.cell? (ad.add j) = some u := by
  by_cases h : c = i + 1
  ·refine ⟨_, _, .inl ⟨h, rfl, rfl⟩, fun j u hj => ?_⟩
   have h0 : flatP (ps.drop (i + 1)) = [] := List.eq_nil_of_length_eq_zero (by rw [hd]; omega)
   rw [h0] at hj
   cases hj
  ·exact ⟨_, _, .inr ⟨h, rfl, rfl⟩, Own2.from hown0.drew (i + 1)⟩
 obtain ⟨w1, hr1, ho1, hg1⟩ := run_append_fits (P := Tryz.prog) w.drew base 212 212 247 i0 2 Tryz.underlyingRow hi0 hsz g i c _ hpre.drew ad D cp (flatP (ps.drop (i + 1))) hd hsrc flatP_one (by omega)
 rw [← flatP_append] at ho1
 have hzv : ∀ w, (zeroValue 247).run Tryz.prog w = .ok (.agg #[.int .i64 0, .int .u64 0]) w := fun w => by simp [zeroValue, typeInfo, hi0, hz]
 obtain ⟨w2, hr2, ho2, hg2⟩ := run_clear_spare (P := Tryz.prog) w1 base 212 0 247 2 _ Tryz.underlyingRow hzv rfl (by intro u hu; simp [Value.cells] at hu; rcases hu with rfl | rfl <;> rfl) g (i + D) c _ ho1 ((i + D) * 2) 1 (c - (i + D)) rfl (by omega) (by decide)
 have hlr : (ps.take i ++ ps.drop (i + 1)).length = i + D := by rw [List.length_append, List.length_take, List.length_drop, hn]; omega
 have HR : Hid (DelR base g c ps i w (.returned (.slice (some ⟨g, 0, none⟩) (i + D) c)) w2) := by
  refine ⟨by rw [hn, ← hiK, Nat.add_sub_cancel], ?_, (frame_some hg1).of_drew.trans (frame_some hg2)⟩
  unfold Own2
  rw [hlr]
  exact ho2
 have b1 : (i : Int) ≤ ((i + 1 : Nat) : Int) := by omega
 have b2 : ((i + 1 : Nat) : Int) ≤ n := by omega
 have b3 : i + 1 ≤ n := by omega
 have b4 : i ≤ n := by omega
 have b5 : i ≤ c := by omega
 have b6 : ¬ ((i : Int) = ((i + 1 : Nat) : Int)) := by omega
 have b7 : ((i : Int) == ((i + 1 : Nat) : Int)) = false := beq_eq_false_iff_ne.2 b6
 have b8 : i + 1 ≤ c := by omega
 replace hr1 := Lib.hid hr1
 replace hr2 := Lib.hid hr2
 have HK := Lib.hid hD
 clear hown hown0 hpre ho1 ho2 hd hsrc hg1 hg2 hlr hi0 hz hsz hby hzv hn
 go_enter Tryz.func162, Tryz.ntmps162
 go_wp2_with fail
 refine wp_region_noPanic ?_
 refine wp_region_until (S := fun _ => True) 8 (by kernel_rfl) ?_
 have hHeld : (fun _ : World => True) w.drew := trivial
 have hneF : Nonempty (Held fun _ => True) := ⟨⟨w, trivial⟩⟩
 have n1 : n - (i + D) = 1 := by omega
 have n2 : i + D ≤ n := by omega
 have n3 : ¬ (c = i + D) := by omega
 have n4 : n ≤ c := hnc
 have hD2 := HK.out
 rcases had with ⟨rfl, rfl, rfl⟩ | ⟨hc, rfl, rfl⟩
 ·skip
  refine wpAnyU_run0F [true, true, true, true, true, true] 2 (by kernel_rfl) (by kernel_rfl) (fun _ _ _ _ h => h) (by kernel_rfl) hHeld ?_
  simp only [runOps_true, runOps_false, runOps_nil]
  repeat (first | go_big_quiet_skip | (go_big_quiet_want; go_big_quiet_op; go_big_quiet_on))
  refine wpQuiet_nil ?_
  refine wpAnyU_ready (rs := [6]) (by kernel_rfl) (by simp) ?_
  refine AllReadyU.cons rfl (fun K hK => ?_) (AllReadyU.nil)
  refine ite_of rfl ?_
  refine Lib.wp_append_run _ _ _ _ _ rfl _ _ rfl rfl _ _ hr1.out ?_
  refine hK.out _ _ (fun _ => trivial) ?_
  clear hK K hD2
  simp only [Act.put, List.setIfInBounds_toArray, List.set_cons_zero, List.set_cons_succ]
  refine wpAnyU_ready (rs := [7]) (by kernel_rfl) (by simp) ?_
  refine AllReadyU.cons rfl (fun K hK => ?_) (AllReadyU.nil)
  go_simp
  go_wp2
  refine hK.out _ _ (fun _ => trivial) ?_
  clear hK K
  refine wpAnyU_done (by kernel_rfl) ?_ _
  refine NoPanic.normal ?_
  clear hneF hHeld
  have hr2' := hr2.out
  go_wp2
  go_ret
  exact HR.out
 ·skip
  refine wpAnyU_run0F [true, true, true, true, true, true] 2 (by kernel_rfl) (by kernel_rfl) (fun _ _ _ _ h => h) (by kernel_rfl) hHeld ?_
  simp only [runOps_true, runOps_false, runOps_nil]
  repeat (first | go_big_quiet_skip | (go_big_quiet_want; go_big_quiet_op; go_big_quiet_on))
  refine wpQuiet_nil ?_
  refine wpAnyU_ready (rs := [6]) (by kernel_rfl) (by simp) ?_
  refine AllReadyU.cons rfl (fun K hK => ?_) (AllReadyU.nil)
  refine ite_of rfl ?_
  refine Lib.wp_append_run _ _ _ _ _ rfl _ _ rfl rfl _ _ hr1.out ?_
  refine hK.out _ _ (fun _ => trivial) ?_
  clear hK K hD2
  simp only [Act.put, List.setIfInBounds_toArray, List.set_cons_zero, List.set_cons_succ]
  refine wpAnyU_ready (rs := [7]) (by kernel_rfl) (by simp) ?_
  refine AllReadyU.cons rfl (fun K hK => ?_) (AllReadyU.nil)
  go_simp
  go_wp2
  refine hK.out _ _ (fun _ => trivial) ?_
  clear hK K
  refine wpAnyU_done (by kernel_rfl) ?_ _
  refine NoPanic.normal ?_
  clear hneF hHeld
  have hr2' := hr2.out
  go_wp2
  go_ret
  exact HR.out
end Go.Proofs.YtlbnlmhcpephbaaGreatDoor
namespace Go.Proofs.YtlbnlmhcpephbaaGreatDoor
open Go.RowKit
def CloR (ps : List (Int × Int)) (w : World) (e : Ending) (w' : World) : Prop := ∃ A' c', e = .returned (.slice A' ps.length c') ∧ Own2 w.heap.size w' A' c' ps ∧ Below w.heap.size w w'
set_option maxRecDepth 100000 in
set_option maxHeartbeats 2000000 in
theorem clone_any (base : Nat) (A : Option Addr) (c : Nat) (ps : List (Int × Int)) (w : World) (hown : Own2 base w A c ps) (hlen : ps.length ≤ 1048576) :
  Calls Tryz.prog 212 #[.slice A ps.length c] w fun e w' => CloR ps w e w' := by
 have q22 : ∀ (w : World) (a : Option Addr) (n c n' c' : Nat), (binOp .eql 212 (.slice a n c) (.slice none n' c')).run Tryz.prog w = .ok (.bool a.isNone) w := fun w a n c n' c' => Lib.run_eql_slice_nil w _ _ a n c n' c' Tryz.underlyingRow
 cases A with
 | none =>
  have h0 : ps = [] ∧ c = 0 := by
   rcases hown.2 with ⟨h, h0⟩ | ⟨g, cp, cur, h, _⟩
   ·simp only [Value.slice.injEq] at h; exact ⟨List.eq_nil_of_length_eq_zero h0, h.2.2⟩
   ·simp at h
  obtain ⟨rfl, rfl⟩ := h0
  clear hown
  go_enter Tryz.func212, Tryz.ntmps212
  go_wp2
  go_ret
  exact ⟨none, 0, rfl, Own2.nil _ _, Below.refl _ _⟩
 | some a =>
  obtain ⟨g, rfl⟩ : ∃ g, a = ⟨g, 0, none⟩ := by
   rcases hown.2 with ⟨h, _⟩ | ⟨g, cp, cur, h, _⟩
   ·simp at h
   ·simp only [Value.slice.injEq, Option.some.injEq] at h; exact ⟨g, h.1⟩
  obtain ⟨n, hn⟩ : ∃ n, ps.length = n := ⟨_, rfl⟩
  have hown1 : Own2 w.heap.size (w.alloc (.cells #[] 247)) (some ⟨w.heap.size, 0, none⟩) 0 [] := World.ownsRow_made w #[] 0 (Nat.le_refl _) (Nat.zero_le _) rfl
  have hsrc : ∀ j u, (flatP ps)[j]? = some u → (w.alloc (.cells #[] 247)).cell? ((⟨g, 0, none⟩ : Addr).add j) = some u := fun j u hj => World.ownsRow.cells (hown.alloc (.cells #[] 247)) (g := g) rfl j u hj
  obtain ⟨A', c', w', hr, ho, hf, hk⟩ := run_app w.heap.size (some ⟨w.heap.size, 0, none⟩) 0 [] ps _ hown1 ⟨g, 0, none⟩ c hsrc (by simp; omega) (by simp)
  simp only [List.length_nil, Nat.zero_add] at hr
  have HR : Hid (CloR ps w (.returned (.slice A' ps.length c')) w') := ⟨A', c', rfl, ho, hf.below ((Below.refl _ w).alloc (Nat.le_refl _) _) (by simp) (fun k hk => by simp [blk] at hk; omega)⟩
  replace hr := Lib.hid hr
  clear ho hf hk hown hown1 hsrc
  rw [hn] at hr HR ⊢
  clear hn
  go_enter Tryz.func212, Tryz.ntmps212
  go_wp2_with (at_builtin; refine Lib.wpList_append_run _ rfl _ _ _ _ rfl _ _ rfl rfl _ _ hr.out ?_)
  go_ret
  exact HR.out
end Go.Proofs.YtlbnlmhcpephbaaGreatDoor
namespace Go.Proofs.YtlbnlmhcpephbaaGreatDoor
open Go.RowKit
section
variable {ps : List (Int × Int)} {q : Int} {k : Nat}
theorem mem_take_lt (hp : Posn ps q k) : ∀ x ∈ ps.take k, x.1 < q := by
 intro x hx
 obtain ⟨j, hj, rfl⟩ := List.getElem_of_mem hx
 rw [List.length_take] at hj
 have := hp.under j (by omega)
 rw [List.getElem_take]
 rw [List.getD_eq_getElem?_getD, List.getElem?_eq_getElem (by omega)] at this
 exact this
theorem mem_drop_ge (hp : Posn ps q k) : ∀ x ∈ ps.drop k, q ≤ x.1 := by
 intro x hx
 obtain ⟨j, hj, rfl⟩ := List.getElem_of_mem hx
 rw [List.length_drop] at hj
 have := hp.over (k + j) (by omega) (by omega)
 rw [List.getElem_drop]
 rw [List.getD_eq_getElem?_getD, List.getElem?_eq_getElem (by omega)] at this
 exact this
theorem posn_lt (hp : Posn ps q k) : ps.filter (fun x => decide (x.1 < q)) = ps.take k := by
 conv => lhs; rw [← List.take_append_drop k ps]
 rw [List.filter_append, List.filter_eq_self.2 (fun x hx => decide_eq_true (mem_take_lt hp x hx)), List.filter_eq_nil_iff.2 (fun x hx => by have := mem_drop_ge hp x hx; simp; omega), List.append_nil]
theorem drop_cons (h : k < ps.length) : ps.drop k = ps.getD k (0, 0) :: ps.drop (k + 1) := by
 rw [List.drop_eq_getElem_cons h, List.getD_eq_getElem?_getD, List.getElem?_eq_getElem h]
 rfl
theorem posn_found (hg : Gd ps) (hp : Posn ps q k) (hk : k < ps.length) (hq : (ps.getD k (0, 0)).1 = q) : ps.filter (fun x => decide (q < x.1)) = ps.drop (k + 1) ∧ cnt ps q = (ps.getD k (0, 0)).2 := by
 have hd := drop_cons hk
 have hgt : ∀ x ∈ ps.drop (k + 1), q < x.1 := by
  have := hg.srt
  rw [← List.take_append_drop k ps, hd] at this
  have h2 := (List.pairwise_append.1 this).2.1
  rw [List.pairwise_cons] at h2
  intro x hx
  have := h2.1 x hx
  omega
 have e : ps = ps.take k ++ ps.getD k (0, 0) :: ps.drop (k + 1) := by rw [← hd, List.take_append_drop]
 constructor
 ·conv => lhs; rw [e]
  rw [List.filter_append, List.filter_cons, List.filter_eq_nil_iff.2 (fun x hx => by have := mem_take_lt hp x hx; simp; omega), if_neg (by rw [decide_eq_true_eq]; omega), List.nil_append, List.filter_eq_self.2 (fun x hx => decide_eq_true (hgt x hx))]
 ·conv => lhs; rw [e]
  rw [cnt_append, cnt_cons, if_pos hq, cnt_zero (fun x hx => by have := mem_take_lt hp x hx; omega), cnt_zero (fun x hx => by have := hgt x hx; omega)]
  omega
theorem posn_none (hg : Gd ps) (hp : Posn ps q k) (hn : ¬ (k < ps.length ∧ (ps.getD k (0, 0)).1 = q)) : ps.filter (fun x => decide (q < x.1)) = ps.drop k ∧ cnt ps q = 0 := by
 have hgt : ∀ x ∈ ps.drop k, q < x.1 := by
  intro x hx
  by_cases hk : k < ps.length
  ·have hd := drop_cons hk
   have h0 := hp.over k (Nat.le_refl _) hk
   have h1 : (ps.getD k (0, 0)).1 ≠ q := fun e => hn ⟨hk, e⟩
   rw [hd] at hx
   rcases List.mem_cons.1 hx with rfl | hx
   ·omega
   ·have := hg.srt
    rw [← List.take_append_drop k ps, hd] at this
    have h2 := (List.pairwise_append.1 this).2.1
    rw [List.pairwise_cons] at h2
    have := h2.1 x hx
    omega
  ·rw [List.drop_of_length_le (by omega)] at hx; cases hx
 constructor
 ·conv => lhs; rw [← List.take_append_drop k ps]
  rw [List.filter_append, List.filter_eq_nil_iff.2 (fun x hx => by have := mem_take_lt hp x hx; simp; omega), List.nil_append, List.filter_eq_self.2 (fun x hx => decide_eq_true (hgt x hx))]
 ·rw [← List.take_append_drop k ps, cnt_append, cnt_zero (fun x hx => by have := mem_take_lt hp x hx; omega), cnt_zero (fun x hx => by have := hgt x hx; omega)]
  omega
end
theorem flatP_set (ps : List (Int × Int)) (k : Nat) (v : Int) (hk : k < ps.length) : flatP (ps.set k ((ps.getD k (0, 0)).1, v)) = (flatP ps).set (k * 2 + 1) (.int .u64 v) := by
 induction ps generalizing k with
 | nil => simp at hk
 | cons x ps ih =>
  cases k with
  | zero => simp [flatP_cons]
  | succ k =>
   have := ih k (by simpa using hk)
   rw [List.set_cons_succ, flatP_cons, flatP_cons, show (k + 1) * 2 + 1 = (k * 2 + 1) + 1 + 1 by omega]
   simp only [List.getD_cons_succ, List.cons_append, List.nil_append, List.set_cons_succ]
   rw [this]
theorem own_setCell {base k elem g n cap o : Nat} {xs : List Value} {w : World} (h : w.ownsRow base elem k (.slice (some ⟨g, 0, none⟩) n cap) n xs) (ho : o < n * k) (v : Value) :
  (w.setCell ⟨g, o, none⟩ v).ownsRow base elem k (.slice (some ⟨g, 0, none⟩) n cap) n (xs.set o v) := by
 have hl := h.1
 rcases h.2 with ⟨h, _⟩ | ⟨g', cap', cur, h, hbg, hg, hnc, hcm, hcs, htake⟩
 ·simp at h
 ·simp only [Value.slice.injEq, Option.some.injEq, Addr.mk.injEq, and_true, true_and] at h
  obtain ⟨rfl, rfl⟩ := h
  rw [setCell_eq_setRow w g o cur elem (0, 0) v hg]
  refine ⟨by rw [List.length_set]; exact hl, .inr ⟨g, cap, _, rfl, hbg, setRow_heap w g cur _ elem _ hg, hnc, hcm, by simpa using hcs, ?_⟩⟩
  rw [Array.toList_setIfInBounds, ← htake]
  apply List.ext_getElem?
  intro j
  simp only [List.getElem?_take, List.getElem?_set, List.length_take, Array.length_toList]
  have hnk : n * k ≤ cap * k := Nat.mul_le_mul_right _ hnc
  by_cases e : o = j
  ·subst e
   simp only [ho, if_true]
   rw [Nat.min_eq_left (by omega)]
   simp [ho]
   omega
  ·simp [e]
def AddR (base : Nat) (A : Option Addr) (ps : List (Int × Int)) (q cc : Int) (w : World) (e : Ending) (w' : World) : Prop :=
 ∃ A' c', e = .returned (.slice A' (rowAdd ps q cc).length c') ∧ Own2 base w' A' c' (rowAdd ps q cc) ∧ Frame (blk A) w w' ∧ ∀ k ∈ blk A', k ∈ blk A ∨ w.heap.size ≤ k
set_option maxRecDepth 100000 in
set_option maxHeartbeats 2000000 in
theorem add06_any (base : Nat) (A : Option Addr) (c : Nat) (ps : List (Int × Int)) (q cc : Int) (w : World) (hown : Own2 base w A c ps) (hg : Gd ps) (hlen : ps.length ≤ 1048576) (hcc : 0 < cc) (hs : cnt ps q + cc < 18446744073709551616) (hb : base ≤ w.heap.size) :
  Calls Tryz.prog 127 #[.slice A ps.length c, .int .i64 q, .int .u64 cc] w fun e w' => AddR base A ps q cc w e w' := by
 have HC := Lib.hid (rfind06_any A c ps.length ps q w rfl hown.rd hg (by omega))
 have HE := Lib.hid (rowAdd_eq hg hcc hs)
 have HG := Lib.hid hg
 have HO := Lib.hid hown
 have HS := Lib.hid hs
 have hcap := hown.base_le
 obtain ⟨n, hn⟩ : ∃ n, ps.length = n := ⟨_, rfl⟩
 rw [hn] at HC hlen ⊢
 have HN := Lib.hid hn
 have hcc0 : (cc == 0) = false := beq_eq_false_iff_ne.2 (by omega)
 clear hn hg hown hs
 have HCC := Lib.hid hcc
 clear hcc
 go_enter Tryz.func127, Tryz.ntmps127
 go_wp2_with fail
 refine HC.out.mono ?_
 rintro e w1 ⟨⟨k, f, rfl, hp, hf⟩, hb1⟩
 replace HO := Lib.hid (HO.out.below hb1)
 have hz := hb1.size
 cases f with
 | true =>
  obtain ⟨hk, hq⟩ := hf.1 rfl
  obtain ⟨e1, e2⟩ := posn_found HG.out hp hk hq
  have e3 := posn_lt hp
  obtain ⟨g, rfl⟩ : ∃ g, A = some ⟨g, 0, none⟩ := by
   rcases HO.out.2 with ⟨_, h0⟩ | ⟨g, cp, cur, h, _⟩
   ·omega
   ·simp only [Value.slice.injEq] at h; exact ⟨g, h.1⟩
  have hr : rowAdd ps q cc = ps.set k ((ps.getD k (0, 0)).1, (ps.getD k (0, 0)).2 + cc) := by
   rw [HE.out, e1, e2, e3, List.set_eq_take_append_cons_drop, if_pos hk, List.append_assoc, hq]
   rfl
  obtain ⟨g', o', he, hg', hc1, hc2⟩ := HO.out.rd.at' k hk
  cases he
  have hown2 := own_setCell HO.out (o := k * 2 + 1) (by omega) (.int .u64 ((ps.getD k (0, 0)).2 + cc))
  rw [← flatP_set ps k _ hk, ← hr] at hown2
  have hrl : (rowAdd ps q cc).length = n := by rw [hr, List.length_set, HN.out]
  obtain ⟨v, hv⟩ : ∃ v, (ps.getD k (0, 0)).2 = v := ⟨_, rfl⟩
  rw [hv] at hc2 hown2
  have hfr : w1.frozen? ⟨g, k * 2 + 1, none⟩ = false := by
   obtain ⟨cur, hcg, _⟩ := own_setRow w1 HO.out
   simp [World.frozen?, hcg]
  have hv0 := HG.out.pos (ps.getD k (0, 0)) (getD_mem' hk)
  rw [hv] at hv0
  have hvs : v + cc < 18446744073709551616 := by have := HS.out; rw [e2, hv] at this; exact this
  have hw : IntKind.u64.wrap (v + cc) = v + cc := by simp only [IntKind.wrap_u64]; have := HCC.out; omega
  have hkn : k < n := by rw [← HN.out]; exact hk
  have k0 : (0 : Int) ≤ k := by omega
  have k1 : (k : Int) < n := by omega
  have HR : Hid (AddR base (some ⟨g, 0, none⟩) ps q cc w (.returned (.slice (some ⟨g, 0, none⟩) n c)) (w1.setCell ⟨g, k * 2 + 1, none⟩ (.int .u64 (v + cc)))) := by
   refine ⟨some ⟨g, 0, none⟩, c, by rw [hrl], ?_, (Frame.of_below hb1).setc (.inl (by simp [blk])) _ _, fun j hj => .inl hj⟩
   unfold Own2
   rw [hrl]
   rw [HN.out] at hown2
   exact hown2
  simp only [Nat.zero_add] at hc1 hc2
  clear hown2 hr hrl e1 e2 e3 hf hp hq hv hvs hv0 hk HC HE HG HO hb1 hcap
  go_wp2
  go_ret
  exact HR.out
 | false =>
  have hnf : ¬ (k < ps.length ∧ (ps.getD k (0, 0)).1 = q) := fun h => by have := hf.2 h; cases this
  obtain ⟨e1, e2⟩ := posn_none HG.out hp hnf
  have e3 := posn_lt hp
  have hr : rowAdd ps q cc = ps.take k ++ (q, cc) :: ps.drop k := by
   rw [HE.out, e1, e2, e3, Int.zero_add, List.append_assoc]
   rfl
  have hk : k ≤ ps.length := hp.le
  have hrl : (rowAdd ps q cc).length = n + 1 := by rw [hr, List.length_append, List.length_cons, List.length_take, List.length_drop, HN.out]; have := HN.out; omega
  have HP := Lib.hid (And.intro hr (And.intro hk hrl))
  clear hr hk hrl e1 e2 e3 hf hp hnf
  go_wp2_with fail
  have hown2 : Own2 base (w1.alloc (.cells #[.int .i64 q, .int .u64 cc] 247)) A c ps := HO.out.alloc _
  have HI := insert_any base A c k ps (q, cc) w1.heap.size _ hown2 HP.out.2.1 (by rw [HN.out]; exact hlen) (At.new w1 #[.int .i64 q, .int .u64 cc] 247)
   (fun j hj e => by
    cases A with
    | none => simp [blk] at hj
    | some a =>
     simp only [blk, List.mem_singleton] at hj
     have := (hcap a rfl).2
     omega) (by simp; omega)
  rw [HN.out] at HI
  refine HI.mono ?_
  rintro e w2 ⟨A', c', rfl, ho, hfr, hkk⟩
  rw [HN.out]
  have HR : Hid (AddR base A ps q cc w (.returned (.slice A' (n + 1) c')) w2) := by
   refine ⟨A', c', by rw [HP.out.2.2], ?_, ((Frame.of_below hb1).alloc _).trans hfr, fun j hj => ?_⟩
   ·rw [HP.out.1]; exact ho
   ·rcases hkk j hj with h | h
    ·exact .inl h
    ·exact .inr (by simp at h; omega)
  clear ho hfr hkk HI hown2
  go_wp2
  go_ret
  exact HR.out
end Go.Proofs.YtlbnlmhcpephbaaGreatDoor

namespace Go.Proofs.YtlbnlmhcpephbaaGreatDoor
open Go.RowKit
def plusF : Int → List Int → Option Int
 | n, [] => some n
 | n, a :: l => if n + a ≤ 9223372036854775807 then plusF (n + a) l else none
def plusV (o : Option Int) : Value := .tuple #[.int .u64 (o.getD 0), .bool o.isSome]
theorem plus_any (A : Option Addr) (len cap : Nat) (xs : List Int) (w : World) (hl : xs.length = len) (hm : len ≤ 9223372036854775807)
  (hx : ∀ x ∈ xs, 0 ≤ x ∧ x < 18446744073709551616)
  (hc : ∀ j, j < len → ∃ ad, A = some ad ∧ w.cell? (ad.add j) = some (.int .u64 (xs.getD j 0))) :
  Calls Tryz.prog 102 #[.slice A len cap] w fun e w' => e = .returned (plusV (plusF 0 xs)) ∧ w = w' := by
 go_enter Tryz.func102, Tryz.ntmps102
 go_wp2
 go_loop [4, 9] (fun n i => ∃ k : Nat, ∃ m : Int, k ≤ len ∧ 0 ≤ m ∧ m ≤ 9223372036854775807 ∧ n = .int .u64 m ∧ i = .int .i64 k ∧ Hid (plusF 0 xs = plusF m (xs.drop k))) (fun _ i => len - (intOf i).toNat)
 case atStart => exact ⟨0, 0, by omega, by omega, by omega, rfl, rfl, rfl⟩
 case round =>
  obtain ⟨k, m, hk, hm0, hm', rfl, rfl, HF⟩ := hrel
  by_cases hlt : k < len
  ·obtain ⟨ad, rfl, hcell⟩ := hc k hlt
   have hb : 0 ≤ xs.getD k 0 ∧ xs.getD k 0 < 18446744073709551616 := by
    rw [List.getD_eq_getElem?_getD, List.getElem?_eq_getElem (by omega)]
    exact hx _ (List.getElem_mem _)
   have HD := Lib.hid (show xs.drop k = xs.getD k 0 :: xs.drop (k+1) by
    rw [List.getD_eq_getElem?_getD, List.getElem?_eq_getElem (by omega)]
    exact List.drop_eq_getElem_cons (by omega))
   clear hc hx
   obtain ⟨x, hxk⟩ : ∃ x : Int, xs.getD k 0 = x := ⟨_, rfl⟩
   rw [hxk] at hb hcell HD
   clear hxk
   obtain ⟨hb1, hb2⟩ := hb
   by_cases hs : m + x ≤ 9223372036854775807
   ·have hs' : ¬ 9223372036854775807 - m < x := by omega
    go_wp2
    go_round
    case rel => exact ⟨k + 1, m + x, by omega, by omega, hs, rfl, by go_num, by rw [HF.out, HD.out, plusF, if_pos hs]; rfl⟩
    case measure => simp [intOf]; omega
   ·have hs' : 9223372036854775807 - m < x := by omega
    go_wp2
    go_ret2
    rw [HF.out, HD.out, plusF, if_neg (by omega)]
    exact ⟨rfl, rfl⟩
  ·go_wp2
   go_ret2
   rw [HF.out, List.drop_eq_nil_of_le (by omega)]
   exact ⟨rfl, rfl⟩
def plus2Q (a b : Int) : Int := if a + b ≤ 9223372036854775807 then a + b else 0
def plus2Ok (a b : Int) : Bool := decide (a + b ≤ 9223372036854775807)
theorem plus2_yes {a b : Int} (h : a + b ≤ 9223372036854775807) : plus2Q a b = a + b ∧ plus2Ok a b = true := ⟨if_pos h, decide_eq_true h⟩
theorem plus2_no {a b : Int} (h : ¬ a + b ≤ 9223372036854775807) : plus2Q a b = 0 ∧ plus2Ok a b = false := ⟨if_neg h, decide_eq_false h⟩
theorem plus2_any (g : Nat) (a b : Int) (w : World) (ha : 0 ≤ a) (ha' : a < 18446744073709551616) (hb : 0 ≤ b) (hb' : b < 18446744073709551616)
  (h0 : w.cell? ⟨g, 0, none⟩ = some (.int .u64 a)) (h1 : w.cell? ⟨g, 1, none⟩ = some (.int .u64 b)) :
  Calls Tryz.prog 102 #[.slice (some ⟨g, 0, none⟩) 2 2] w fun e w' => e = .returned (.tuple #[.int .u64 (plus2Q a b), .bool (plus2Ok a b)]) ∧ w = w' := by
 refine (plus_any (some ⟨g, 0, none⟩) 2 2 [a, b] w rfl (by omega) (by intro x hx; simp at hx; omega) (fun j hj => ⟨_, rfl, ?_⟩)).mono ?_
 ·rcases (show j = 0 ∨ j = 1 by omega) with rfl | rfl
  ·simpa [Addr.add] using h0
  ·simpa [Addr.add] using h1
 ·rintro e w' ⟨rfl, rfl⟩
  refine ⟨?_, rfl⟩
  congr 1
  unfold plusV plus2Q plus2Ok plusF plusF plusF
  by_cases h : a + b ≤ 9223372036854775807
  ·rw [if_pos (by omega), if_pos (by omega), if_pos h, decide_eq_true h]; simp
  ·rw [if_neg h, decide_eq_false h]
   by_cases h' : 0 + a ≤ 9223372036854775807
   ·rw [if_pos h', if_neg (by omega)]; rfl
   ·rw [if_neg h']; rfl
end Go.Proofs.YtlbnlmhcpephbaaGreatDoor

namespace Go.Proofs.YtlbnlmhcpephbaaGreatDoor
open Go.RowKit
structure StripB (w : World) (b : Nat) (A : Option Addr) (c : Nat) (most : Int) (ps : List (Int × Int)) : Prop where
 at' : At w b #[.int .i64 most, .slice A ps.length c, .int .u64 (sumP ps)] 214
 own : Own2 0 w A c ps
 ne : b ∉ blk A
 gd : Gd ps
 ok : okP ps
 sum : sumP ps ≤ 9223372036854775807
 len : (ps.length : Int) ≤ most
 most1 : most ≤ 4096
def Strip (w : World) (b : Nat) (S : List Nat) (most : Int) (ps : List (Int × Int)) : Prop := ∃ A c, S = b :: blk A ∧ StripB w b A c most ps
section
variable {w w' : World} {b : Nat} {S T : List Nat} {most : Int} {ps : List (Int × Int)}
theorem Own2.frame {base c : Nat} {A : Option Addr} (h : Own2 base w A c ps) (hf : Frame T w w') (hn : ∀ k ∈ blk A, k ∉ T) : Own2 base w' A c ps := by
 obtain ⟨h1, h2⟩ := h
 refine ⟨h1, ?_⟩
 rcases h2 with h2 | ⟨g, cp, cur, e, hg, hc, r⟩
 ·exact .inl h2
 ·refine .inr ⟨g, cp, cur, e, hg, (hf.block g (Array.getElem?_eq_some_iff.1 hc).1 (hn g ?_)).trans hc, r⟩
  simp only [Value.slice.injEq] at e
  rw [e.1]
  simp [blk]
theorem Strip.frame (h : Strip w b S most ps) (hf : Frame T w w') (hn : Apart S T) : Strip w' b S most ps := by
 obtain ⟨A, c, rfl, h⟩ := h
 exact ⟨A, c, rfl, hf.at h.at' (hn b (by simp)), h.own.frame hf (fun k hk => hn k (by simp [hk])), h.ne, h.gd, h.ok, h.sum, h.len, h.most1⟩
theorem Strip.below (h : Strip w b S most ps) (hb : Below w.heap.size w w') : Strip w' b S most ps := h.frame (T := []) (Frame.of_below hb) (fun _ _ => by simp)
theorem Strip.lt (h : Strip w b S most ps) : ∀ k ∈ S, k < w.heap.size := by
 obtain ⟨A, c, rfl, h⟩ := h
 intro k hk
 rcases List.mem_cons.1 hk with rfl | hk
 ·exact h.at'.lt
 ·cases A with
  | none => simp [blk] at hk
  | some a => simp only [blk, List.mem_singleton] at hk; subst hk; exact (h.own.base_le a rfl).2
theorem Strip.gd (h : Strip w b S most ps) : Gd ps := by obtain ⟨A, c, _, h⟩ := h; exact h.gd
theorem Strip.ok (h : Strip w b S most ps) : okP ps := by obtain ⟨A, c, _, h⟩ := h; exact h.ok
theorem Strip.sum (h : Strip w b S most ps) : sumP ps ≤ 9223372036854775807 := by obtain ⟨A, c, _, h⟩ := h; exact h.sum
theorem Strip.len (h : Strip w b S most ps) : (ps.length : Int) ≤ most ∧ ps.length ≤ 4096 := by obtain ⟨A, c, _, h⟩ := h; exact ⟨h.len, by have := h.len; have := h.most1; omega⟩
end
theorem snew_any (most : Int) (w : World) (h1 : 1 ≤ most) (h2 : most ≤ 4096) :
  Calls Tryz.prog 59 #[.int .i64 most] w fun e w' => (∃ b, e = .returned (.tuple #[.pointer (some ⟨b, 0, none⟩), .int .i64 0]) ∧ b = w.heap.size ∧ Strip w' b [b] most []) ∧ Below w.heap.size w w' := by
 have hs : At (w.alloc (.cells #[.int .i64 most, .slice none 0 0, .int .u64 0] 214)) w.heap.size #[.int .i64 most, .slice none 0 0, .int .u64 0] 214 := At.new w _ _
 have HS : Hid (Strip (w.alloc (.cells #[.int .i64 most, .slice none 0 0, .int .u64 0] 214)) w.heap.size [w.heap.size] most []) := ⟨none, 0, rfl, hs, Own2.nil _ _, by simp [blk], Gd.nil, fun x hx => by simp at hx, by rw [sumP_nil]; omega, by simp; omega, h2⟩
 clear hs
 have n1 : ¬ most < 1 := by omega
 have n2 : ¬ 4096 < most := by omega
 clear h1 h2
 go_enter Tryz.func59, Tryz.ntmps59
 go_wp2
 go_ret2
 exact ⟨⟨_, rfl, rfl, HS.out⟩, (by repeat (first | with_reducible assumption | with_reducible exact Below.refl _ _ | with_reducible refine Below.drew ?_ | with_reducible refine Below.drewN ?_ _ | with_reducible refine Below.setCell ?_ (by first | omega | (simp; done) | (simp; omega)) _ | with_reducible refine Below.alloc ?_ (by first | omega | (simp; done) | (simp; omega) | (simp [World.setCell]; omega)) _))⟩
theorem snew_bad (most : Int) (w : World) (h : most < 1 ∨ 4096 < most) :
  Calls Tryz.prog 59 #[.int .i64 most] w fun e w' => e = .returned (.tuple #[.pointer none, .int .i64 1]) ∧ w = w' := by
 by_cases h1 : most < 1
 ·clear h
  go_enter Tryz.func59, Tryz.ntmps59
  go_wp2
  go_ret2
  exact ⟨rfl, rfl⟩
 ·have h2 : 4096 < most := by omega
  clear h
  go_enter Tryz.func59, Tryz.ntmps59
  go_wp2
  go_ret2
  exact ⟨rfl, rfl⟩
theorem slen_any (b : Nat) (S : List Nat) (most : Int) (ps : List (Int × Int)) (w : World) (h : Strip w b S most ps) :
  Calls Tryz.prog 160 #[.pointer (some ⟨b, 0, none⟩)] w fun e w' => e = .returned (.int .i64 (ps.length : Nat)) ∧ w = w' := by
 obtain ⟨A, c, _, h⟩ := h
 have f1 := h.at'.three
 clear h
 go_enter Tryz.func160, Tryz.ntmps160
 go_wp2
 go_ret
 exact ⟨rfl, rfl⟩
theorem stotal_any (b : Nat) (S : List Nat) (most : Int) (ps : List (Int × Int)) (w : World) (h : Strip w b S most ps) :
  Calls Tryz.prog 106 #[.pointer (some ⟨b, 0, none⟩)] w fun e w' => e = .returned (.int .u64 (sumP ps)) ∧ w = w' := by
 obtain ⟨A, c, _, h⟩ := h
 have f1 := h.at'.three
 clear h
 go_enter Tryz.func106, Tryz.ntmps106
 go_wp2
 go_ret
 exact ⟨rfl, rfl⟩
theorem spairs_any (b : Nat) (S : List Nat) (most : Int) (ps : List (Int × Int)) (w : World) (h : Strip w b S most ps) :
  Calls Tryz.prog 211 #[.pointer (some ⟨b, 0, none⟩)] w fun e w' => CloR ps w e w' := by
 have hl := h.len.2
 obtain ⟨A, c, _, h⟩ := h
 have f1 := h.at'.three
 have HC := Lib.hid (clone_any 0 A c ps w h.own (by omega))
 clear h
 go_enter Tryz.func211, Tryz.ntmps211
 go_wp2_with fail
 refine HC.out.mono ?_
 rintro e w' ⟨A', c', rfl, ho, hb⟩
 have HR : Hid (CloR ps w (.returned (.slice A' ps.length c')) w') := ⟨A', c', rfl, ho, hb⟩
 clear ho hb
 go_wp2
 go_ret
 exact HR.out
set_option maxRecDepth 100000 in
theorem sat_any (b : Nat) (S : List Nat) (most : Int) (ps : List (Int × Int)) (q : Int) (w : World) (h : Strip w b S most ps) :
  Calls Tryz.prog 217 #[.pointer (some ⟨b, 0, none⟩), .int .i64 q] w fun e w' => e = .returned (.int .u64 (cnt ps q)) ∧ Below w.heap.size w w' := by
 have hl := h.len.2
 have hg := h.gd
 obtain ⟨A, c, _, h⟩ := h
 have s1 := h.at'
 have f1 := h.at'.three
 have HC := Lib.hid (rfind06_any A c ps.length ps q w rfl h.own.rd hg (by omega))
 have HO := Lib.hid h.own.rd
 have HG := Lib.hid hg
 clear h hg
 obtain ⟨n, hn⟩ : ∃ n, ps.length = n := ⟨_, rfl⟩
 have HN := Lib.hid hn
 rw [hn] at HC s1 f1
 clear hn
 go_enter Tryz.func217, Tryz.ntmps217
 go_wp2_with fail
 refine HC.out.mono ?_
 rintro e w1 ⟨⟨k, f, rfl, hp, hf⟩, hb1⟩
 have f2 := (s1.below hb1).three
 clear f1
 cases f with
 | true =>
  obtain ⟨hk, hq⟩ := hf.1 rfl
  have HV := Lib.hid (posn_found HG.out hp hk hq).2
  obtain ⟨g, o, rfl, hg, hc1, hc2⟩ := (HO.out.below hb1).at' k hk
  obtain ⟨v, hv⟩ : ∃ v, (ps.getD k (0, 0)).2 = v := ⟨_, rfl⟩
  rw [hv] at hc2 HV
  have k0 : (0 : Int) ≤ k := by omega
  have k1 : (k : Int) < n := by have := HN.out; omega
  clear hf hp hq hk hc1 hv
  go_wp2
  go_ret
  exact ⟨by rw [HV.out]; rfl, hb1⟩
 | false =>
  have HV := Lib.hid (posn_none HG.out hp (fun h => by have := hf.2 h; cases this)).2
  clear hf hp
  go_wp2
  go_ret
  exact ⟨by rw [HV.out]; rfl, hb1⟩
def endsV (ps : List (Int × Int)) : Value := if ps.length = 0 then .tuple #[.int .i64 0, .int .i64 0, .bool false] else .tuple #[.int .i64 (ps.getD 0 (0, 0)).1, .int .i64 (ps.getD (ps.length - 1) (0, 0)).1, .bool true]
set_option maxRecDepth 100000 in
theorem sends_any (b : Nat) (S : List Nat) (most : Int) (ps : List (Int × Int)) (w : World) (h : Strip w b S most ps) :
  Calls Tryz.prog 155 #[.pointer (some ⟨b, 0, none⟩)] w fun e w' => e = .returned (endsV ps) ∧ Below w.heap.size w w' := by
 have hl := h.len.2
 have HL := Lib.hid (slen_any b S most ps w h)
 obtain ⟨A, c, _, h⟩ := h
 have f1 := h.at'.three
 have HO := Lib.hid h.own.rd
 clear h
 obtain ⟨n, hn⟩ : ∃ n, ps.length = n := ⟨_, rfl⟩
 have HN := Lib.hid hn
 have HV : Hid (endsV ps = if n = 0 then .tuple #[.int .i64 0, .int .i64 0, .bool false] else .tuple #[.int .i64 (ps.getD 0 (0, 0)).1, .int .i64 (ps.getD (n - 1) (0, 0)).1, .bool true]) := by show _ = _; unfold endsV; rw [hn]
 rw [hn] at HL f1 hl
 clear hn
 by_cases h0 : n = 0
 ·subst h0
  go_enter Tryz.func155, Tryz.ntmps155
  go_wp2_with fail
  refine HL.out.mono ?_
  rintro e w1 ⟨rfl, rfl⟩
  go_wp2
  go_ret3
  exact ⟨by rw [HV.out]; rfl, Below.refl _ _⟩
 ·obtain ⟨g, o, rfl, hg, hc1, hc2⟩ := HO.out.at' 0 (by have := HN.out; omega)
  obtain ⟨g', o', e, hg', hd1, hd2⟩ := HO.out.at' (n - 1) (by have := HN.out; omega)
  cases e
  obtain ⟨x, hx⟩ : ∃ x, (ps.getD 0 (0, 0)).1 = x := ⟨_, rfl⟩
  obtain ⟨y, hy⟩ : ∃ y, (ps.getD (n - 1) (0, 0)).1 = y := ⟨_, rfl⟩
  rw [hx] at hc1 HV
  rw [hy] at hd1 HV
  obtain ⟨m, rfl⟩ : ∃ m, n = m + 1 := ⟨n - 1, by omega⟩
  have v1 : IntKind.i64.wrap (((m + 1 : Nat) : Int) - 1) = m := by simp only [IntKind.wrap_i64]; omega
  rw [Nat.add_sub_cancel] at hd1
  rw [Nat.zero_mul, Nat.add_zero] at hc1
  have n0 : ((((m + 1 : Nat)) : Int) == 0) = false := beq_eq_false_iff_ne.2 (by omega)
  have k0 : (0 : Int) ≤ m := by omega
  have k1 : (m : Int) < ((m + 1 : Nat) : Int) := by omega
  have k2 : (0 : Int) < ((m + 1 : Nat) : Int) := by omega
  clear hx hy h0 hd2 hc2
  go_enter Tryz.func155, Tryz.ntmps155
  go_wp2_with fail
  refine HL.out.mono ?_
  rintro e w1 ⟨rfl, rfl⟩
  go_wp2
  go_quiet (fail)
  go_wp2
  go_ret3
  exact ⟨by rw [HV.out]; first | rfl | simp, (Below.refl _ _).drewN _⟩
end Go.Proofs.YtlbnlmhcpephbaaGreatDoor
namespace Go.Proofs.YtlbnlmhcpephbaaGreatDoor
open Go.RowKit
def stRoom (most : Int) (ps : List (Int × Int)) (q cc : Int) : Prop := cc ≤ 9223372036854775807 - sumP ps ∧ ((rowAdd ps q cc).length : Int) ≤ most
instance (most : Int) (ps : List (Int × Int)) (q cc : Int) : Decidable (stRoom most ps q cc) := by unfold stRoom; infer_instance
def stCode (most : Int) (ps : List (Int × Int)) (q cc : Int) : Int := if 0 < cc then (if stRoom most ps q cc then 0 else 6) else 1
def stStep (most : Int) (ps : List (Int × Int)) (q cc : Int) : List (Int × Int) := if 0 < cc ∧ stRoom most ps q cc then rowAdd ps q cc else ps
theorem rowAdd_length {ps : List (Int × Int)} {q cc : Int} {k : Nat} {f : Bool} (hg : Gd ps) (hp : Posn ps q k) (hf : f = true ↔ k < ps.length ∧ (ps.getD k (0, 0)).1 = q) (hc : 0 < cc) (hs : cnt ps q + cc < 18446744073709551616) :
  (rowAdd ps q cc).length = if f = true then ps.length else ps.length + 1 := by
 rw [rowAdd_eq hg hc hs, posn_lt hp]
 cases f with
 | true =>
  obtain ⟨hk, hq⟩ := hf.1 rfl
  rw [(posn_found hg hp hk hq).1, if_pos rfl]
  simp only [List.length_append, List.length_take, List.length_drop, List.length_singleton]
  omega
 | false =>
  rw [(posn_none hg hp (fun h => by have := hf.2 h; cases this)).1, if_neg (by decide)]
  simp only [List.length_append, List.length_take, List.length_drop, List.length_singleton]
  have := hp.le
  omega
def SadR (b : Nat) (S : List Nat) (most : Int) (ps : List (Int × Int)) (q cc : Int) (w : World) (e : Ending) (w' : World) : Prop :=
 e = .returned (.int .i64 (stCode most ps q cc)) ∧ ∃ S', GrownS S S' w.heap.size ∧ Strip w' b S' most (stStep most ps q cc) ∧ Frame S w w'
theorem sadd_zero (b : Nat) (S : List Nat) (most : Int) (ps : List (Int × Int)) (q : Int) (w : World) (h : Strip w b S most ps) :
  Calls Tryz.prog 105 #[.pointer (some ⟨b, 0, none⟩), .int .i64 q, .int .u64 0] w fun e w' => SadR b S most ps q 0 w e w' := by
 have HR : Hid (SadR b S most ps q 0 w (.returned (.int .i64 1)) w) := ⟨by unfold stCode; rw [if_neg (by omega)], S, GrownS.refl _ _, by unfold stStep; rw [if_neg (by omega)]; exact h, Frame.refl _ _⟩
 clear h
 go_enter Tryz.func105, Tryz.ntmps105
 go_wp2
 go_ret
 exact HR.out
set_option maxRecDepth 100000 in
set_option maxHeartbeats 4000000 in
theorem sadd_pos (b : Nat) (S : List Nat) (most : Int) (ps : List (Int × Int)) (q cc : Int) (w : World) (h : Strip w b S most ps) (hc : 0 < cc) (hc' : cc < 18446744073709551616) (hq : -9223372036854775808 ≤ q ∧ q ≤ 9223372036854775807) :
  Calls Tryz.prog 105 #[.pointer (some ⟨b, 0, none⟩), .int .i64 q, .int .u64 cc] w fun e w' => SadR b S most ps q cc w e w' := by
 have h0 := h
 obtain ⟨A, c, rfl, hB⟩ := h
 have s1 := hB.at'
 have hs0 := sumP_nonneg hB.gd.pos
 have hle := cnt_le_sumP hB.gd.pos q
 have hsum := hB.sum
 have hl := h0.len
 have HC := Lib.hid (fun W (hb : Below w.heap.size w W) => rfind06_any A c ps.length ps q W rfl (hB.own.rd.below hb) hB.gd (by omega))
 have HB := Lib.hid hB
 have H0 := Lib.hid h0
 have HQ := Lib.hid hq
 obtain ⟨n, hn⟩ : ∃ n, ps.length = n := ⟨_, rfl⟩
 obtain ⟨T, hT⟩ : ∃ T, sumP ps = T := ⟨_, rfl⟩
 have HN := Lib.hid hn
 have HTT := Lib.hid hT
 rw [hn, hT] at s1
 rw [hn] at HC hl
 rw [hT] at hs0 hle hsum
 have f1 := s1.three
 have hcc : (cc == 0) = false := beq_eq_false_iff_ne.2 (by omega)
 have HCC := Lib.hid (And.intro hc (And.intro hc' (And.intro hs0 (And.intro hle (And.intro hsum hl)))))
 have l1 := s1.lt
 clear hB h0 hn hT hq hc hc' hs0 hle hsum hl
 go_enter Tryz.func105, Tryz.ntmps105
 go_wp2_with fail
 have a1 := At.new w #[.int .u64 T, .int .u64 cc] 23
 refine (plus2_any w.heap.size T cc _ (by have := HCC.out; omega) (by have := HCC.out; omega) (by have := HCC.out; omega) (by have := HCC.out; omega) (a1.cell rfl) (a1.cell rfl)).mono ?_
 rintro e w1 ⟨rfl, rfl⟩
 have hb1 : Below w.heap.size w (w.alloc (.cells #[.int .u64 T, .int .u64 cc] 23)) := (by repeat (first | with_reducible assumption | with_reducible exact Below.refl _ _ | with_reducible refine Below.drew ?_ | with_reducible refine Below.drewN ?_ _ | with_reducible refine Below.setCell ?_ (by first | omega | (simp; done) | (simp; omega)) _ | with_reducible refine Below.alloc ?_ (by first | omega | (simp; done) | (simp; omega) | (simp [World.setCell]; omega)) _))
 obtain ⟨W1, hW1⟩ : ∃ W1, w.alloc (.cells #[.int .u64 T, .int .u64 cc] 23) = W1 := ⟨_, rfl⟩
 rw [hW1] at hb1 ⊢
 have f2 := (s1.below hb1).three
 have hP : T + cc ≤ 9223372036854775807 ∨ ¬ T + cc ≤ 9223372036854775807 := by omega
 clear a1 hW1 f1
 rcases hP with hP | hP
 ·obtain ⟨p1, p2⟩ := plus2_yes hP
  rw [p1, p2]
  have HP := Lib.hid hP
  clear p1 p2 hP
  go_wp2_with fail
  refine (HC.out W1 hb1).mono ?_
  rintro e w2 ⟨⟨k, f, rfl, hp, hf⟩, hb⟩
  have hb2 := keep1 hb1 hb
  have s3 := s1.below hb2
  have f3 := s3.three
  have hrl := rowAdd_length (f := f) HB.out.gd hp hf HCC.out.1 (by have := HCC.out; have := HP.out; omega)
  rw [HN.out] at hrl
  clear hb hb1 f2 hp hf
  by_cases hfull : f = false ∧ most ≤ n
  ·obtain ⟨rfl, hm⟩ := hfull
   have HR : Hid (∀ m, SadR b (b :: blk A) most ps q cc w (.returned (.int .i64 6)) (w2.drewN m)) := fun m => by
    have hnr : ¬ stRoom most ps q cc := fun h => by have := h.2; rw [hrl, if_neg (by decide)] at this; omega
    exact ⟨by unfold stCode; rw [if_pos HCC.out.1, if_neg hnr], _, GrownS.refl _ _, by unfold stStep; rw [if_neg (fun h => hnr h.2)]; exact H0.out.below (hb2.drewN m), Frame.of_below (hb2.drewN m)⟩
   clear hrl hb2
   go_wp2
   go_quiet (fail)
   go_wp2
   go_ret
   exact HR.out _
  ·have hroom : stRoom most ps q cc := by
    refine ⟨by have := HP.out; rw [HTT.out]; omega, ?_⟩
    rw [hrl]
    have := HCC.out
    cases f with
    | true => rw [if_pos rfl]; omega
    | false => rw [if_neg (by decide)]; have : ¬ most ≤ n := fun h => hfull ⟨rfl, h⟩; omega
   have HADD : Hid (∀ m, Calls Tryz.prog 127 #[.slice A n c, .int .i64 q, .int .u64 cc] (w2.drewN m) fun e w' => ∃ A' c' len, e = .returned (.slice A' len c') ∧ Hid (SadR b (b :: blk A) most ps q cc w (.returned (.int .i64 0)) ((w'.setCell ⟨b, 1, none⟩ (.slice A' len c')).setCell ⟨b, 2, none⟩ (.int .u64 (T + cc)))) ∧ At w' b #[.int .i64 most, .slice A n c, .int .u64 T] 214) := fun m => by
    have hbm := hb2.drewN m
    have hs := show cnt ps q + cc < 18446744073709551616 by have := HCC.out; have := HP.out; omega
    have := add06_any 0 A c ps q cc (w2.drewN m) (HB.out.own.below hbm) HB.out.gd (by rw [HN.out]; have := HCC.out; omega) HCC.out.1 hs (Nat.zero_le _)
    rw [HN.out] at this
    refine this.mono ?_
    rintro e w' ⟨A', c', rfl, ho, hfr, hk⟩
    have hat := hfr.at (s1.below hbm) HB.out.ne
    have hbn : b ∉ blk A' := fun hm => by
     rcases hk b hm with h | h
     ·exact HB.out.ne h
     ·have : b < w.heap.size := s1.lt
      have := hbm.size
      omega
    refine ⟨A', c', _, rfl, ⟨by unfold stCode; rw [if_pos HCC.out.1, if_pos hroom], b :: blk A', fun k hm => ?_, ?_, ?_⟩, hat⟩
    ·rcases List.mem_cons.1 hm with rfl | hm
     ·exact .inl (by simp)
     ·rcases hk k hm with h | h
      ·exact .inl (by simp [h])
      ·exact .inr (Nat.le_trans hbm.size h)
    ·unfold stStep
     rw [if_pos ⟨HCC.out.1, hroom⟩]
     refine ⟨A', c', rfl, ?_, ?_, hbn, HB.out.gd.rowAdd HCC.out.1 hs, okP_rowAdd HB.out.ok HQ.out, by rw [sumP_rowAdd HB.out.gd HCC.out.1 hs, HTT.out]; exact HP.out, hroom.2, HB.out.most1⟩
     ·rw [sumP_rowAdd HB.out.gd HCC.out.1 hs, HTT.out]
      exact (hat.set_any 1 _ rfl).set_any 2 _ rfl
     ·exact (ho.frame (Frame.set [b] _ b 1 _ (by simp)) (fun k hk e => by simp at e; subst e; exact hbn hk)).frame (Frame.set [b] _ b 2 _ (by simp)) (fun k hk e => by simp at e; subst e; exact hbn hk)
    ·exact ((((Frame.of_below hbm).trans (hfr.mono fun k hk => by simp [hk])).setc (.inl (by simp)) 1 _).setc (.inl (by simp)) 2 _)
   have hw1 : ¬ (most ≤ n ∧ f = false) := fun h => hfull ⟨h.2, h.1⟩
   have hl3 := s3.lt
   clear hrl hb2 hroom HP HC
   cases f with
   | true =>
    clear hw1 hfull
    go_wp2
    go_quiet (fail)
    go_wp2_with fail
    refine (HADD.out _).mono ?_
    rintro e w4 ⟨A', c', len, rfl, HR, hat⟩
    have f4 := hat.three
    go_wp2
    go_ret
    exact HR.out
   | false =>
    have hm : (n : Int) < most := by
     rcases Int.lt_or_le n most with h | h
     ·exact h
     ·exact absurd ⟨rfl, h⟩ hfull
    clear hw1 hfull
    go_wp2
    go_quiet (fail)
    go_wp2_with fail
    refine (HADD.out _).mono ?_
    rintro e w4 ⟨A', c', len, rfl, HR, hat⟩
    have f4 := hat.three
    go_wp2
    go_ret
    exact HR.out
 ·obtain ⟨p1, p2⟩ := plus2_no hP
  rw [p1, p2]
  have HP := Lib.hid hP
  clear p1 p2 hP
  go_wp2_with fail
  refine (HC.out W1 hb1).mono ?_
  rintro e w2 ⟨⟨k, f, rfl, hp, hf⟩, hb⟩
  have hb2 := keep1 hb1 hb
  have s3 := s1.below hb2
  have f3 := s3.three
  have HR : Hid (∀ m, SadR b (b :: blk A) most ps q cc w (.returned (.int .i64 6)) (w2.drewN m)) := fun m => by
   have hnr : ¬ stRoom most ps q cc := fun h => by have := h.1; rw [HTT.out] at this; have := HP.out; omega
   exact ⟨by unfold stCode; rw [if_pos HCC.out.1, if_neg hnr], _, GrownS.refl _ _, by unfold stStep; rw [if_neg (fun h => hnr h.2)]; exact H0.out.below (hb2.drewN m), Frame.of_below (hb2.drewN m)⟩
  clear hb hb1 f2 hp hf hb2
  go_wp2
  go_quiet (fail)
  go_wp2
  go_ret
  exact HR.out _
theorem sadd_any (b : Nat) (S : List Nat) (most : Int) (ps : List (Int × Int)) (q cc : Int) (w : World) (h : Strip w b S most ps) (hc : 0 ≤ cc) (hc' : cc < 18446744073709551616) (hq : -9223372036854775808 ≤ q ∧ q ≤ 9223372036854775807) :
  Calls Tryz.prog 105 #[.pointer (some ⟨b, 0, none⟩), .int .i64 q, .int .u64 cc] w fun e w' => SadR b S most ps q cc w e w' := by
 by_cases h0 : cc = 0
 ·subst h0; exact sadd_zero b S most ps q w h
 ·exact sadd_pos b S most ps q cc w h (by omega) hc' hq
end Go.Proofs.YtlbnlmhcpephbaaGreatDoor
namespace Go.Proofs.YtlbnlmhcpephbaaGreatDoor
open Go.RowKit
def outF (ps : List (Int × Int)) (i : Nat) : List (Int × Int) := ps.take i ++ ps.drop (i + 1)
theorem outF_split {ps : List (Int × Int)} {i : Nat} (hi : i < ps.length) : ps = ps.take i ++ ps.getD i (0, 0) :: ps.drop (i + 1) := by rw [← drop_cons hi, List.take_append_drop]
theorem gd_outF {ps : List (Int × Int)} (h : Gd ps) (i : Nat) : Gd (outF ps i) := by
 have hsub : (outF ps i).Sublist ps := by
  unfold outF
  conv => rhs; rw [← List.take_append_drop i ps]
  refine List.Sublist.append (List.Sublist.refl _) ?_
  rw [show ps.drop (i + 1) = (ps.drop i).drop 1 by rw [List.drop_drop]]
  exact List.drop_sublist _ _
 exact ⟨h.srt.sublist hsub, fun x hx => h.pos x (hsub.subset hx)⟩
theorem outF_mem {ps : List (Int × Int)} {i : Nat} {x : Int × Int} (h : x ∈ outF ps i) : x ∈ ps := by
 unfold outF at h
 rcases List.mem_append.1 h with h | h
 ·exact List.mem_of_mem_take h
 ·exact List.mem_of_mem_drop h
theorem sumP_outF {ps : List (Int × Int)} {i : Nat} (hi : i < ps.length) : sumP (outF ps i) = sumP ps - (ps.getD i (0, 0)).2 := by
 have e := congrArg sumP (outF_split hi)
 rw [sumP_append, sumP_cons] at e
 unfold outF
 rw [sumP_append]
 omega
theorem outF_length {ps : List (Int × Int)} {i : Nat} (hi : i < ps.length) : (outF ps i).length = ps.length - 1 := by
 unfold outF
 rw [List.length_append, List.length_take, List.length_drop]
 omega
def TakR (b : Nat) (S : List Nat) (most : Int) (ps : List (Int × Int)) (i : Nat) (w : World) (e : Ending) (w' : World) : Prop :=
 e = .returned (.tuple #[.agg #[.int .i64 (ps.getD i (0, 0)).1, .int .u64 (ps.getD i (0, 0)).2], .bool true]) ∧ Strip w' b S most (outF ps i) ∧ Frame S w w'
def TakS (b pb : Nat) (T x y : Int) (W : World) : Prop := W.cell? ⟨b, 2, none⟩ = some (.int .u64 T) ∧ At W pb #[.int .i64 x, .int .u64 y] 247
theorem TakS.one {b pb : Nat} {T x y : Int} {W : World} (h : TakS b pb T x y W) : W.cell? ⟨b, 2, none⟩ = some (.int .u64 T) := h.1
theorem TakS.two {b pb : Nat} {T x y : Int} {W : World} (h : TakS b pb T x y W) : At W pb #[.int .i64 x, .int .u64 y] 247 := h.2
set_option maxRecDepth 100000 in
set_option maxHeartbeats 4000000 in
theorem take_some (b : Nat) (S : List Nat) (most : Int) (ps : List (Int × Int)) (i : Nat) (w : World) (h : Strip w b S most ps) (hi : i < ps.length) :
  Calls Tryz.prog 161 #[.pointer (some ⟨b, 0, none⟩), .int .i64 i] w fun e w' => TakR b S most ps i w e w' := by
 have h0 := h
 obtain ⟨A, c, rfl, hB⟩ := h
 obtain ⟨g, rfl⟩ : ∃ g, A = some ⟨g, 0, none⟩ := by
  rcases hB.own.2 with ⟨_, h0⟩ | ⟨g, cp, cur, h, _⟩
  ·omega
  ·simp only [Value.slice.injEq] at h; exact ⟨g, h.1⟩
 have s1 := hB.at'
 have hl := h0.len
 obtain ⟨g', o, he, hg', hc1, hc2⟩ := hB.own.rd.at' i hi
 cases he
 have HB := Lib.hid hB
 have H0 := Lib.hid h0
 have hlt := hB.gd.pos _ (getD_mem' hi)
 have hsm := sumP_outF hi
 have hs0 := sumP_nonneg (gd_outF hB.gd i).pos
 have hle := hB.sum
 obtain ⟨n, hn⟩ : ∃ n, ps.length = n := ⟨_, rfl⟩
 obtain ⟨T, hT⟩ : ∃ T, sumP ps = T := ⟨_, rfl⟩
 obtain ⟨x, hx⟩ : ∃ x, (ps.getD i (0, 0)).1 = x := ⟨_, rfl⟩
 obtain ⟨y, hy⟩ : ∃ y, (ps.getD i (0, 0)).2 = y := ⟨_, rfl⟩
 have HI := Lib.hid hi
 rw [hn, hT] at s1
 rw [hn] at hl hi
 rw [hx] at hc1
 rw [hy] at hc2 hlt hsm
 rw [hT] at hsm hle
 have HN := Lib.hid (And.intro hn (And.intro hT (And.intro hx hy)))
 have HSM := Lib.hid hsm
 rw [hsm] at hs0
 have hbg : b ≠ g := fun e => hB.ne (by simp [blk, e])
 rw [Nat.zero_add] at hc1 hc2
 obtain ⟨B, hBe⟩ : ∃ B, w.heap.size = B := ⟨_, rfl⟩
 have l1 := s1.lt
 have f1 := s1.three
 have f2 := (s1.alloc (.cells #[.int .i64 0, .int .u64 0] 247)).three
 have hc1' := (Below.refl w.heap.size w).alloc (Nat.le_refl _) (.cells #[.int .i64 0, .int .u64 0] 247) |> fun k => cellB k hg' hc1
 have hc2' := (Below.refl w.heap.size w).alloc (Nat.le_refl _) (.cells #[.int .i64 0, .int .u64 0] 247) |> fun k => cellB k hg' hc2
 have k0 : (0 : Int) ≤ i := by omega
 have k1 : (i : Int) < n := by omega
 have n0 : ((n : Int) == 0) = false := beq_eq_false_iff_ne.2 (by omega)
 have v1 : IntKind.i64.wrap ((i : Int) + 1) = ((i + 1 : Nat) : Int) := by simp only [IntKind.wrap_i64]; omega
 have v2 : IntKind.u64.wrap (T - y) = T - y := by simp only [IntKind.wrap_u64]; omega
 clear hB h0 hn hT hx hy hi hsm hs0 hle hlt hl hc1 hc2
 go_enter Tryz.func161, Tryz.ntmps161
 go_wp2
 refine gen_world (fun W => Hid (Below w.heap.size w W ∧ At W (B + 1) #[.int .i64 x, .int .u64 y] 247 ∧ At W B #[.int .i64 0, .int .u64 0] 247)) ?_ ?_
 ·subst hBe
  exact ⟨(by repeat (first | with_reducible assumption | with_reducible exact Below.refl _ _ | with_reducible refine Below.drew ?_ | with_reducible refine Below.drewN ?_ _ | with_reducible refine Below.setCell ?_ (by first | omega | (simp; done) | (simp; omega)) _ | with_reducible refine Below.alloc ?_ (by first | omega | (simp; done) | (simp; omega) | (simp [World.setCell]; omega)) _)), At.new' _ _ _ (by simp), (At.new' _ _ _ rfl).alloc _⟩
 rintro W HW
 have hBW := HW.out.1
 have sW := (s1.below hBW).drew
 have pW := HW.out.2.1.drew
 have rW := HW.out.2.2.drew
 have hgB : g < B := by rw [← hBe]; exact hg'
 have hbB : b < B := by rw [← hBe]; exact l1
 have HBE := Lib.hid hBe
 have HD : Hid (Calls Tryz.prog 162 #[.slice (some ⟨g, 0, none⟩) n c, .int .i64 i, .int .i64 ((i + 1 : Nat) : Int)] W.drew fun e w' => e = .returned (.slice (some ⟨g, 0, none⟩) (n - 1) c) ∧ At w' b #[.int .i64 most, .slice (some ⟨g, 0, none⟩) n c, .int .u64 T] 214 ∧ At w' (B + 1) #[.int .i64 x, .int .u64 y] 247 ∧ At w' B #[.int .i64 0, .int .u64 0] 247 ∧
   Hid (TakR b (b :: blk (some ⟨g, 0, none⟩)) most ps i w (.returned (.tuple #[.agg #[.int .i64 x, .int .u64 y], .bool true])) ((((w'.setCell ⟨b, 1, none⟩ (.slice (some ⟨g, 0, none⟩) (n - 1) c)).setCell ⟨b, 2, none⟩ (.int .u64 (T - y))).setCell ⟨B, 0, none⟩ (.int .i64 x)).setCell ⟨B, 1, none⟩ (.int .u64 y)))) := by
  have hd := delete_any 0 g c i ps W.drew ((HB.out.own.below hBW).below (Below.refl _ _).drew) HI.out (by rw [HN.out.1]; have := H0.out.len; rw [HN.out.1] at this; omega)
  rw [HN.out.1] at hd
  refine hd.mono ?_
  rintro e w' ⟨rfl, ho, hf⟩
  rw [HN.out.1]
  have a1 := hf.at sW (by simp; exact hbg)
  have a2 := hf.at pW (by simp; omega)
  have a3 := hf.at rW (by simp; omega)
  refine ⟨rfl, a1, a2, a3, by rw [HN.out.2.2.1, HN.out.2.2.2], ?_, ?_⟩
  ·have hlen : (outF ps i).length = n - 1 := by rw [outF_length HI.out, HN.out.1]
   refine ⟨some ⟨g, 0, none⟩, c, rfl, ?_, ?_, HB.out.ne, gd_outF HB.out.gd i, fun z hz => HB.out.ok z (outF_mem hz), ?_, ?_, HB.out.most1⟩
   ·rw [hlen, HSM.out]
    exact (((a1.set_any 1 _ rfl).set_any 2 _ rfl).set_other (by show b ≠ B; omega) _).set_other (by show b ≠ B; omega) _
   ·exact ((((ho.frame (Frame.set [b] _ b 1 _ (by simp)) (fun k hk e => by simp [blk] at hk e; omega)).frame (Frame.set [b] _ b 2 _ (by simp)) (fun k hk e => by simp [blk] at hk e; omega)).frame (Frame.set [B] _ B 0 _ (by simp)) (fun k hk e => by simp [blk] at hk e; omega)).frame (Frame.set [B] _ B 1 _ (by simp)) (fun k hk e => by simp [blk] at hk e; omega))
   ·rw [HSM.out]
    have := HB.out.sum
    rw [HN.out.2.1] at this
    have := HB.out.gd.pos _ (getD_mem' HI.out)
    rw [HN.out.2.2.2] at this
    omega
   ·have := HB.out.len
    rw [HN.out.1] at this
    rw [hlen]
    omega
  ·have e0 := HBE.out
   have F0 : Frame (b :: blk (some ⟨g, 0, none⟩)) w w' := (Frame.of_below hBW).trans (hf.of_drew.mono fun k hk => by simp at hk; simp [blk, hk])
   exact (((F0.setc (.inl (by simp)) 1 _).setc (.inl (by simp)) 2 _).setc (.inr (by omega)) 0 _).setc (.inr (by omega)) 1 _
 have fW := sW.three
 have fp := pW.two
 have TK : TakS b (B + 1) T x y W.drew := ⟨fW.2.2.1, pW⟩
 have HA1 := Lib.hid sW
 clear f1 f2 hc1' hc2' s1 hBW HW H0 HI rW
 refine wp_region_noPanic ?_
 refine wp_region_until (S := HeldS (TakS b (B + 1) T x y)) 22 (by kernel_rfl) ?_
 obtain ⟨W0, hW0⟩ : ∃ W0, W.drew = W0 := ⟨_, rfl⟩
 rw [hW0] at HD fW fp TK ⊢
 have hHeld : HeldS (TakS b (B + 1) T x y) W0 := HeldS.mk' TK
 have hne : Nonempty (Held (TakS b (B + 1) T x y)) := ⟨⟨W0, TK⟩⟩
 have hneF : Nonempty (Held fun _ => True) := ⟨⟨W0, trivial⟩⟩
 have hfar1 := fun z : Held (TakS b (B + 1) T x y) => z.held.one
 have hfar2 := fun z : Held (TakS b (B + 1) T x y) => z.held.two.two
 clear hW0 sW pW HA1
 refine wpAnyU_run0F [true, true, true, true, true, false, true, true, true, false, true, true, true, false, true] 11 (by kernel_rfl) (by kernel_rfl) (fun _ _ _ _ h => h) (by kernel_rfl) hHeld ?_
 simp only [runOps_true, runOps_false, runOps_nil]
 repeat (first | go_big_quiet_skip | (go_big_quiet_want; go_big_quiet_op; go_big_quiet_on))
 refine wpQuiet_nil ?_
 refine wpAnyU_run0 [false, false, false, false, false, false, false, false, false, false, false, false, false, true, false, true] 9 (by kernel_rfl) (by kernel_rfl) (fun _ _ _ _ h => h) (by kernel_rfl) hHeld ?_
 simp only [runOps_true, runOps_false, runOps_nil]
 repeat (first | go_big_quiet_skip | (go_big_quiet_want; go_big_quiet_op; go_big_quiet_on))
 refine wpQuiet_nil ?_
 refine wpAnyU_run0F [false, false, false, false, false, false, false, false, false, false, false, false, false, false, false, false, true] 8 (by kernel_rfl) (by kernel_rfl) (fun _ _ _ _ h => h) (by kernel_rfl) hHeld ?_
 simp only [runOps_true, runOps_false, runOps_nil]
 repeat (first | go_big_quiet_skip | (go_big_quiet_want; go_big_quiet_op; go_big_quiet_on))
 refine wpQuiet_nil ?_
 clear hfar1 hfar2 hne hneF
 refine wpAnyU_ready (rs := [5]) (by kernel_rfl) (by simp) ?_
 refine AllReadyU.cons rfl (fun K hK => ?_) (AllReadyU.nil)
 go_simp
 go_wp2
 refine hK.out _ _ (fun _ => hHeld) ?_
 clear hK K
 refine wpAnyU_ready (rs := [9]) (by kernel_rfl) (by simp) ?_
 refine AllReadyU.cons rfl (fun K hK => ?_) (AllReadyU.nil)
 go_simp
 go_wp2_with (go_at_call 162; refine HD.out.mono ?_)
 rintro e w4 ⟨rfl, a1, a2, a3, HR⟩
 refine hK.out _ _ (fun _ => HeldS.mk' ⟨a1.three.2.2.1, a2⟩) ?_
 have hHeld1 : HeldS (TakS b (B + 1) T x y) w4 := HeldS.mk' ⟨a1.three.2.2.1, a2⟩
 have hHeld2 : HeldS (TakS b (B + 1) T x y) (w4.setCell ⟨b, 1, none⟩ (.slice (some ⟨g, 0, none⟩) (n - 1) c)) := HeldS.mk' ⟨(a1.set_any 1 _ rfl).three.2.2.1, a2.set_other (by show B + 1 ≠ b; omega) _⟩
 have t1 := a1.three
 have u1 : At (w4.setCell ⟨b, 1, none⟩ (.slice (some ⟨g, 0, none⟩) (n - 1) c)) b _ _ := a1.set_any 1 _ rfl
 have u2 : At (w4.setCell ⟨b, 1, none⟩ (.slice (some ⟨g, 0, none⟩) (n - 1) c)) (B + 1) _ _ := a2.set_other (by show B + 1 ≠ b; omega) _
 have u3 : At (w4.setCell ⟨b, 1, none⟩ (.slice (some ⟨g, 0, none⟩) (n - 1) c)) B _ _ := a3.set_other (by show B ≠ b; omega) _
 have v2 := u2.set_other (p := ⟨b, 2, none⟩) (by show B + 1 ≠ b; omega) (.int .u64 (T - y))
 have v3 := u3.set_other (p := ⟨b, 2, none⟩) (by show B ≠ b; omega) (.int .u64 (T - y))
 have x4 := ((v3.set_any 0 (.int .i64 x) rfl).set_any 1 (.int .u64 y) rfl).two
 have x1 := u1.three
 have x2 := v2.two
 have x3 := v3.two
 clear hK K HD fW fp TK hHeld a1 a2 a3 u1 u2 u3 v2 v3
 refine wpAnyU_ready (rs := [17]) (by kernel_rfl) (by simp) ?_
 refine AllReadyU.cons rfl (fun K hK => ?_) (AllReadyU.nil)
 go_simp
 refine hK.out _ _ (fun _ => hHeld1) ?_
 clear hK K
 refine wpAnyU_ready (rs := [18]) (by kernel_rfl) (by simp) ?_
 refine AllReadyU.cons rfl (fun K hK => ?_) (AllReadyU.nil)
 go_simp
 refine hK.out _ _ (fun _ => hHeld1) ?_
 clear hK K
 refine wpAnyU_ready (rs := [19]) (by kernel_rfl) (by simp) ?_
 refine AllReadyU.cons rfl (fun K hK => ?_) (AllReadyU.nil)
 go_simp
 go_wp2
 refine hK.out _ _ (fun _ => hHeld2) ?_
 clear hK K
 refine wpAnyU_ready (rs := [20]) (by kernel_rfl) (by simp) ?_
 refine AllReadyU.cons rfl (fun K hK => ?_) (AllReadyU.nil)
 go_simp
 refine hK.out _ _ (fun _ => hHeld2) ?_
 clear hK K
 refine wpAnyU_ready (rs := [21]) (by kernel_rfl) (by simp) ?_
 refine AllReadyU.cons rfl (fun K hK => ?_) (AllReadyU.nil)
 go_simp
 refine hK.out _ _ (fun _ => hHeld2) ?_
 clear hK K
 refine wpAnyU_ready (rs := [22]) (by kernel_rfl) (by simp) ?_
 refine AllReadyU.cons rfl (fun K hK => ?_) (AllReadyU.nil)
 go_simp
 go_wp2
 refine hK.out _ _ (fun h => late_no h (by kernel_rfl)) ?_
 clear hK K hHeld1 hHeld2
 refine wpAnyU_done (by kernel_rfl) ?_ _
 refine NoPanic.normal ?_
 go_wp2
 exact bodyPost_ret (v := .tuple #[.agg #[.int .i64 x, .int .u64 y], .bool true]) (by simp only [results, Tryz.f161]; simp [go_sem, x4]) rfl HR.out
theorem take_empty (b : Nat) (S : List Nat) (most : Int) (i : Int) (w : World) (h : Strip w b S most []) :
  Calls Tryz.prog 161 #[.pointer (some ⟨b, 0, none⟩), .int .i64 i] w fun e w' => e = .returned (.tuple #[.agg #[.int .i64 0, .int .u64 0], .bool false]) ∧ Below w.heap.size w w' := by
 obtain ⟨A, c, rfl, hB⟩ := h
 have f1 := hB.at'.three
 have l1 := hB.at'.lt
 clear hB
 go_enter Tryz.func161, Tryz.ntmps161
 go_wp2
 have a1 := At.new w #[.int .i64 0, .int .u64 0] 247
 have x4 := ((a1.set_any 0 (.int .i64 0) rfl).set_any 1 (.int .u64 0) rfl).two
 exact bodyPost_ret (v := .tuple #[.agg #[.int .i64 0, .int .u64 0], .bool false]) (by simp only [results, Tryz.f161]; simp [go_sem, x4]) rfl ⟨rfl, (by repeat (first | with_reducible assumption | with_reducible exact Below.refl _ _ | with_reducible refine Below.drew ?_ | with_reducible refine Below.drewN ?_ _ | with_reducible refine Below.setCell ?_ (by first | omega | (simp; done) | (simp; omega)) _ | with_reducible refine Below.alloc ?_ (by first | omega | (simp; done) | (simp; omega) | (simp [World.setCell]; omega)) _))⟩
end Go.Proofs.YtlbnlmhcpephbaaGreatDoor
namespace Go.Proofs.YtlbnlmhcpephbaaGreatDoor
open Go.RowKit
def outV (ps : List (Int × Int)) (i : Nat) : Value := if ps.length = 0 then .tuple #[.agg #[.int .i64 0, .int .u64 0], .bool false] else .tuple #[.agg #[.int .i64 (ps.getD i (0, 0)).1, .int .u64 (ps.getD i (0, 0)).2], .bool true]
def outR (b : Nat) (S : List Nat) (most : Int) (ps : List (Int × Int)) (i : Nat) (w : World) (e : Ending) (w' : World) : Prop :=
 e = .returned (outV ps i) ∧ Strip w' b S most (if ps.length = 0 then ps else outF ps i) ∧ Frame S w w'
theorem outR_some {b : Nat} {S : List Nat} {most : Int} {ps : List (Int × Int)} {i : Nat} {w w' : World} (h : ps.length ≠ 0) (h1 : Strip w' b S most (outF ps i)) (h2 : Frame S w w') :
  outR b S most ps i w (.returned (.tuple #[.agg #[.int .i64 (ps.getD i (0, 0)).1, .int .u64 (ps.getD i (0, 0)).2], .bool true])) w' := ⟨by unfold outV; rw [if_neg h], by rw [if_neg h]; exact h1, h2⟩
theorem outR_none {b : Nat} {S : List Nat} {most : Int} {ps : List (Int × Int)} {i : Nat} {w w' : World} (h : ps.length = 0) (h1 : Strip w' b S most ps) (h2 : Frame S w w') :
  outR b S most ps i w (.returned (.tuple #[.agg #[.int .i64 0, .int .u64 0], .bool false])) w' := ⟨by unfold outV; rw [if_pos h], by rw [if_pos h]; exact h1, h2⟩
set_option maxRecDepth 100000 in
theorem sfirst_any (b : Nat) (S : List Nat) (most : Int) (ps : List (Int × Int)) (w : World) (h : Strip w b S most ps) :
  Calls Tryz.prog 157 #[.pointer (some ⟨b, 0, none⟩)] w fun e w' => outR b S most ps 0 w e w' := by
 obtain ⟨n, hn⟩ : ∃ n, ps.length = n := ⟨_, rfl⟩
 have HN := Lib.hid hn
 have H := Lib.hid (h.below ((Below.refl w.heap.size w).alloc (Nat.le_refl _) (.cells #[.int .i64 0, .int .u64 0] 247)))
 have H0 := Lib.hid h
 clear hn h
 go_enter Tryz.func157, Tryz.ntmps157
 go_wp2_with fail
 have a1 := At.new w #[.int .i64 0, .int .u64 0] 247
 have a2 := a1.lt
 by_cases h0 : n = 0
 ·have hp : ps = [] := List.eq_nil_of_length_eq_zero (by rw [HN.out]; exact h0)
  have h1 := H.out
  rw [hp] at h1
  refine (take_empty b S most 0 _ h1).mono ?_
  rintro e w1 ⟨rfl, hb⟩
  clear h1
  have a3 := a1.below hb
  have f3 := a3.two
  have HR : Hid (outR b S most ps 0 w (.returned (.tuple #[.agg #[.int .i64 0, .int .u64 0], .bool false])) ((w1.setCell ⟨w.heap.size, 0, none⟩ (.int .i64 0)).setCell ⟨w.heap.size, 1, none⟩ (.int .u64 0))) := by
   have hb2 : Below w.heap.size w ((w1.setCell ⟨w.heap.size, 0, none⟩ (.int .i64 0)).setCell ⟨w.heap.size, 1, none⟩ (.int .u64 0)) := ((keep1 ((Below.refl _ _).alloc (Nat.le_refl _) _) hb).setCell (Nat.le_refl _) _).setCell (Nat.le_refl _) _
   exact outR_none (by rw [HN.out]; exact h0) (H0.out.below hb2) (Frame.of_below hb2)
  clear hb a1
  go_wp2
  have x4 := ((a3.set_any 0 (.int .i64 0) rfl).set_any 1 (.int .u64 0) rfl).two
  exact bodyPost_ret (v := .tuple #[.agg #[.int .i64 0, .int .u64 0], .bool false]) (by simp only [results, Tryz.f157]; simp [go_sem, x4]) rfl HR.out
 ·have hlt : (0 : Nat) < ps.length := by rw [HN.out]; omega
  refine (take_some b S most ps 0 _ H.out hlt).mono ?_
  rintro e w1 ⟨rfl, hS, hf⟩
  have a3 := hf.at a1 (fun hm => by have := H0.out.lt _ hm; omega)
  have f3 := a3.two
  obtain ⟨x, hx⟩ : ∃ x, (ps.getD 0 (0, 0)).1 = x := ⟨_, rfl⟩
  obtain ⟨y, hy⟩ : ∃ y, (ps.getD 0 (0, 0)).2 = y := ⟨_, rfl⟩
  have HR : Hid (outR b S most ps 0 w (.returned (.tuple #[.agg #[.int .i64 x, .int .u64 y], .bool true])) ((w1.setCell ⟨w.heap.size, 0, none⟩ (.int .i64 x)).setCell ⟨w.heap.size, 1, none⟩ (.int .u64 y))) := by
   subst hx hy
   refine outR_some (by omega) ((hS.frame (Frame.set [w.heap.size] _ _ 0 _ (by simp)) (fun k hk e => ?_)).frame (Frame.set [w.heap.size] _ _ 1 _ (by simp)) (fun k hk e => ?_)) ?_
   ·simp at e; have := H0.out.lt k hk; omega
   ·simp at e; have := H0.out.lt k hk; omega
   ·exact (((Frame.of_below ((Below.refl _ _).alloc (Nat.le_refl _) _)).trans hf).setc (.inr (Nat.le_refl _)) 0 _).setc (.inr (Nat.le_refl _)) 1 _
  rw [hx, hy]
  clear hS hf hx hy hlt a1
  go_wp2
  have x4 := ((a3.set_any 0 (.int .i64 x) rfl).set_any 1 (.int .u64 y) rfl).two
  exact bodyPost_ret (v := .tuple #[.agg #[.int .i64 x, .int .u64 y], .bool true]) (by simp only [results, Tryz.f157]; simp [go_sem, x4]) rfl HR.out
set_option maxRecDepth 100000 in
theorem slast_any (b : Nat) (S : List Nat) (most : Int) (ps : List (Int × Int)) (w : World) (h : Strip w b S most ps) :
  Calls Tryz.prog 156 #[.pointer (some ⟨b, 0, none⟩)] w fun e w' => outR b S most ps (ps.length - 1) w e w' := by
 obtain ⟨n, hn⟩ : ∃ n, ps.length = n := ⟨_, rfl⟩
 have HN := Lib.hid hn
 have H := Lib.hid (h.below ((Below.refl w.heap.size w).alloc (Nat.le_refl _) (.cells #[.int .i64 0, .int .u64 0] 247)))
 have H0 := Lib.hid h
 obtain ⟨A, c, hat⟩ : ∃ A c, At w b #[.int .i64 most, .slice A n c, .int .u64 (sumP ps)] 214 := by
  obtain ⟨A, c, _, hB⟩ := h
  exact ⟨A, c, by rw [← hn]; exact hB.at'⟩
 have f1 := hat.three
 have l1 := hat.lt
 have hln := h.len
 rw [hn] at hln
 have HI : Hid (outR b S most ps (ps.length - 1) w = outR b S most ps (n - 1) w) := by show _ = _; rw [hn]
 simp only [HI.out]
 clear hn h hat
 go_enter Tryz.func156, Tryz.ntmps156
 have a1 := At.new w #[.int .i64 0, .int .u64 0] 247
 have a2 := a1.lt
 by_cases h0 : n = 0
 ·have hp : ps = [] := List.eq_nil_of_length_eq_zero (by rw [HN.out]; exact h0)
  have h1 := H.out
  rw [hp] at h1
  have HLn := Lib.hid hln
  clear hln
  go_wp2_with fail
  refine (take_empty b S most _ _ h1).mono ?_
  rintro e w1 ⟨rfl, hb⟩
  clear h1
  have a3 := a1.below hb
  have f3 := a3.two
  have HR : Hid (outR b S most ps (n - 1) w (.returned (.tuple #[.agg #[.int .i64 0, .int .u64 0], .bool false])) ((w1.setCell ⟨w.heap.size, 0, none⟩ (.int .i64 0)).setCell ⟨w.heap.size, 1, none⟩ (.int .u64 0))) := by
   have hb2 : Below w.heap.size w ((w1.setCell ⟨w.heap.size, 0, none⟩ (.int .i64 0)).setCell ⟨w.heap.size, 1, none⟩ (.int .u64 0)) := ((keep1 ((Below.refl _ _).alloc (Nat.le_refl _) _) hb).setCell (Nat.le_refl _) _).setCell (Nat.le_refl _) _
   exact outR_none (by rw [HN.out]; exact h0) (H0.out.below hb2) (Frame.of_below hb2)
  clear hb a1
  go_wp2
  have x4 := ((a3.set_any 0 (.int .i64 0) rfl).set_any 1 (.int .u64 0) rfl).two
  exact bodyPost_ret (v := .tuple #[.agg #[.int .i64 0, .int .u64 0], .bool false]) (by simp only [results, Tryz.f156]; simp [go_sem, x4]) rfl HR.out
 ·have hlt : n - 1 < ps.length := by rw [HN.out]; omega
  have hi : IntKind.i64.wrap ((n : Int) - 1) = ((n - 1 : Nat) : Int) := by simp only [IntKind.wrap_i64]; omega
  go_wp2_with fail
  refine (take_some b S most ps (n - 1) _ H.out hlt).mono ?_
  rintro e w1 ⟨rfl, hS, hf⟩
  have a3 := hf.at a1 (fun hm => by have := H0.out.lt _ hm; omega)
  have f3 := a3.two
  obtain ⟨x, hx⟩ : ∃ x, (ps.getD (n - 1) (0, 0)).1 = x := ⟨_, rfl⟩
  obtain ⟨y, hy⟩ : ∃ y, (ps.getD (n - 1) (0, 0)).2 = y := ⟨_, rfl⟩
  have HR : Hid (outR b S most ps (n - 1) w (.returned (.tuple #[.agg #[.int .i64 x, .int .u64 y], .bool true])) ((w1.setCell ⟨w.heap.size, 0, none⟩ (.int .i64 x)).setCell ⟨w.heap.size, 1, none⟩ (.int .u64 y))) := by
   subst hx hy
   refine outR_some (by omega) ((hS.frame (Frame.set [w.heap.size] _ _ 0 _ (by simp)) (fun k hk e => ?_)).frame (Frame.set [w.heap.size] _ _ 1 _ (by simp)) (fun k hk e => ?_)) ?_
   ·simp at e; have := H0.out.lt k hk; omega
   ·simp at e; have := H0.out.lt k hk; omega
   ·exact (((Frame.of_below ((Below.refl _ _).alloc (Nat.le_refl _) _)).trans hf).setc (.inr (Nat.le_refl _)) 0 _).setc (.inr (Nat.le_refl _)) 1 _
  rw [hx, hy]
  clear hS hf hx hy hlt a1
  go_wp2
  have x4 := ((a3.set_any 0 (.int .i64 x) rfl).set_any 1 (.int .u64 y) rfl).two
  exact bodyPost_ret (v := .tuple #[.agg #[.int .i64 x, .int .u64 y], .bool true]) (by simp only [results, Tryz.f156]; simp [go_sem, x4]) rfl HR.out
end Go.Proofs.YtlbnlmhcpephbaaGreatDoor
namespace Go.Proofs.YtlbnlmhcpephbaaGreatDoor
open Go.RowKit
def FndI (ps : List (Int × Int)) (t : Int) (i : Nat) (r : Int) : Prop := 0 < r ∧ r ≤ sumP (ps.drop i) ∧ ∃ s, 0 ≤ s ∧ t = s + r ∧ s + sumP (ps.drop i) ≤ 9223372036854775807 ∧ findP t 0 ps = findP t s (ps.drop i)
theorem FndI.lt {ps : List (Int × Int)} {t r : Int} {i : Nat} (h : FndI ps t i r) : i < ps.length := by
 rcases Nat.lt_or_ge i ps.length with h1 | h1
 ·exact h1
 ·have := h.2.1
  rw [List.drop_of_length_le h1, sumP_nil] at this
  have := h.1
  omega
theorem FndI.here {ps : List (Int × Int)} {t r : Int} {i : Nat} (hg : Gd ps) (h : FndI ps t i r) (hv : r ≤ (ps.getD i (0, 0)).2) : findP t 0 ps = some (ps.getD i (0, 0)).1 := by
 have hl := h.lt
 obtain ⟨h1, h2, s, h3, h4, h5, h6⟩ := h
 have hp := hg.pos _ (getD_mem' hl)
 have hd := sumP_nonneg (ps := ps.drop (i + 1)) (fun x hx => hg.pos x (List.mem_of_mem_drop hx))
 rw [drop_cons hl, sumP_cons] at h5
 rw [h6, drop_cons hl, findP, Int.emod_eq_of_lt (by omega) (by omega), if_pos (by omega)]
theorem FndI.next {ps : List (Int × Int)} {t r : Int} {i : Nat} (hg : Gd ps) (h : FndI ps t i r) (hv : ¬ r ≤ (ps.getD i (0, 0)).2) : FndI ps t (i + 1) (r - (ps.getD i (0, 0)).2) := by
 have hl := h.lt
 obtain ⟨h1, h2, s, h3, h4, h5, h6⟩ := h
 have hp := hg.pos _ (getD_mem' hl)
 have hd := sumP_nonneg (ps := ps.drop (i + 1)) (fun x hx => hg.pos x (List.mem_of_mem_drop hx))
 rw [drop_cons hl, sumP_cons] at h5 h2
 refine ⟨by omega, by omega, s + (ps.getD i (0, 0)).2, by omega, by omega, by omega, ?_⟩
 rw [h6, drop_cons hl, findP, Int.emod_eq_of_lt (by omega) (by omega), if_neg (by omega)]
theorem FndI.zero {ps : List (Int × Int)} {t : Int} (h0 : 0 < t) (h1 : t ≤ sumP ps) (h2 : sumP ps ≤ 9223372036854775807) : FndI ps t 0 t := ⟨h0, h1, 0, by omega, by omega, by simpa using h2, rfl⟩
theorem findP_over : ∀ {ps : List (Int × Int)} {t s : Int}, Gd ps → 0 ≤ s → s + sumP ps < t → s + sumP ps < 18446744073709551616 → findP t s ps = none
 | [], t, s, _, _, _, _ => rfl
 | x :: ps, t, s, hg, h0, h1, h2 => by
  have hx := hg.pos x (by simp)
  have hd := sumP_nonneg hg.tail.pos
  rw [sumP_cons] at h1 h2
  rw [findP, Int.emod_eq_of_lt (by omega) (by omega), if_neg (by omega)]
  exact findP_over hg.tail (by omega) (by omega) (by omega)
set_option maxRecDepth 100000 in
set_option maxHeartbeats 2000000 in
theorem sfind_any (b : Nat) (S : List Nat) (most : Int) (ps : List (Int × Int)) (t : Int) (w : World) (h : Strip w b S most ps) (ht : 0 ≤ t ∧ t < 18446744073709551616) :
  Calls Tryz.prog 220 #[.pointer (some ⟨b, 0, none⟩), .int .u64 t] w fun e w' => e = .returned (optI (findP t 0 ps)) ∧ w = w' := by
 have hl := h.len.2
 have hg := Lib.hid h.gd
 have hsm := h.sum
 obtain ⟨A, c, _, h⟩ := h
 have s1 := h.at'
 have f1 := s1.three
 have HO := Lib.hid h.own.rd
 obtain ⟨n, hn⟩ : ∃ n, ps.length = n := ⟨_, rfl⟩
 obtain ⟨T, hT⟩ : ∃ T, sumP ps = T := ⟨_, rfl⟩
 have HN := Lib.hid hn
 have HT := Lib.hid hT
 rw [hn, hT] at f1
 rw [hT] at hsm
 obtain ⟨ht0, ht1⟩ := ht
 clear hT h s1
 by_cases h0 : t = 0
 ·subst h0
  have HZ := Lib.hid (findP_zero ps 0)
  clear hn hl ht0 ht1 hsm
  go_enter Tryz.func220, Tryz.ntmps220
  go_wp2
  go_step3
  go_wp2
  simp only [Exit.noGoto]
  go_ret2
  exact ⟨by rw [HZ.out]; rfl, rfl⟩
 by_cases h1 : T < t
 ·have h0' : (t == 0) = false := beq_eq_false_iff_ne.2 h0
  have HZ := Lib.hid (findP_over (t := t) (s := 0) hg.out (by omega) (by rw [HT.out]; omega) (by rw [HT.out]; omega))
  clear hn hl ht0 ht1 hsm h0
  go_enter Tryz.func220, Tryz.ntmps220
  go_wp2
  go_step3
  go_wp2
  simp only [Exit.noGoto]
  go_ret2
  exact ⟨by rw [HZ.out]; rfl, rfl⟩
 have h0' : (t == 0) = false := beq_eq_false_iff_ne.2 h0
 have HI := Lib.hid (FndI.zero (ps := ps) (t := t) (by omega) (by rw [HT.out]; omega) (by rw [HT.out]; exact hsm))
 have hlt0 : 0 < n := by have := HI.out.lt; omega
 obtain ⟨g, rfl⟩ : ∃ g, A = some g := by
  obtain ⟨g, o, e, _⟩ := HO.out.at' 0 (by omega)
  exact ⟨⟨g, o, none⟩, e⟩
 have hbnd : Hid (t ≤ 9223372036854775807) := show t ≤ _ by omega
 clear hn h0 ht0 ht1 hsm
 go_enter Tryz.func220, Tryz.ntmps220
 go_wp2
 refine wp_scope_jumps 0 (fun a' w' => ∃ (i : Nat) (r : Int) (u2 u3 u4 u5 u7 u8 u9 u10 u11 u12 u13 u14 u15 u16 u17 u18 u19 u20 u21 u22 u23 u24 u25 u26 u27 u28 u29 u30 u31 u32 u33 u34 u35 u36 u37 u38 u39 u40 u41 u42 u43 u44 u45 u46 u47 u48 u49 u50 : Value), a' = { tmps := #[.pointer (some ⟨b, 0, none⟩), .int .u64 r, u2, u3, u4, u5, .int .i64 i, u7, u8, u9, u10, u11, u12, u13, u14, u15, u16, u17, u18, u19, u20, u21, u22, u23, u24, u25, u26, u27, u28, u29, u30, u31, u32, u33, u34, u35, u36, u37, u38, u39, u40, u41, u42, u43, u44, u45, u46, u47, u48, u49, u50], defers := [] } ∧ Hid (FndI ps t i r) ∧ w = w') (fun a' _ => n - (intOf (a'.tmps.getD 6 undef)).toNat) rfl ?_ ?_
 ·have hlt := hlt0
  obtain ⟨g', o, e, hg', c1, c2⟩ := HO.out.at' 0 (by have := HN.out; omega)
  cases e
  obtain ⟨x, hx⟩ : ∃ x, (ps.getD 0 (0, 0)).1 = x := ⟨_, rfl⟩
  obtain ⟨v, hv⟩ : ∃ v, (ps.getD 0 (0, 0)).2 = v := ⟨_, rfl⟩
  have HX := Lib.hid (And.intro hx hv)
  rw [hx] at c1
  rw [hv] at c2
  rw [Nat.zero_mul, Nat.add_zero] at c1 c2
  have k1 : (0 : Int) < n := by omega
  clear hx hv
  by_cases hle : v < t
  ·have HV := Lib.hid (FndI.next hg.out HI.out (by rw [HX.out.2]; omega))
   have hw : IntKind.u64.wrap (t - v) = t - v := by simp only [IntKind.wrap_u64]; have := hbnd.out; have := hg.out.pos _ (getD_mem' (show 0 < ps.length by rw [HN.out]; exact hlt)); rw [HX.out.2] at this; omega
   clear hlt0 hlt
   go_wp2
   go_step3
   go_wp2
   go_step3
   refine ⟨rfl, ?_⟩
   exact ⟨1, t - v, _, _, _, _, _, _, _, _, _, _, _, _, _, _, _, _, _, _, _, _, _, _, _, _, _, _, _, _, _, _, _, _, _, _, _, _, _, _, _, _, _, _, _, _, _, _, _, _, rfl, by rw [HX.out.2] at HV; exact HV, rfl⟩
  ·have HV := Lib.hid (FndI.here hg.out HI.out (by rw [HX.out.2]; omega))
   clear hlt0 hlt
   go_wp2
   go_step3
   go_wp2
   simp only [Exit.jump]
   go_ret2
   exact ⟨by rw [HV.out, HX.out.1]; rfl, rfl⟩
 ·rintro a' w' ⟨i, r, u2, u3, u4, u5, u7, u8, u9, u10, u11, u12, u13, u14, u15, u16, u17, u18, u19, u20, u21, u22, u23, u24, u25, u26, u27, u28, u29, u30, u31, u32, u33, u34, u35, u36, u37, u38, u39, u40, u41, u42, u43, u44, u45, u46, u47, u48, u49, u50, rfl, HJ, rfl⟩
  have hi : i < n := by have := HJ.out.lt; have := HN.out; omega
  obtain ⟨g', o, e, hg', c1, c2⟩ := HO.out.at' i (by have := HN.out; omega)
  cases e
  obtain ⟨x, hx⟩ : ∃ x, (ps.getD i (0, 0)).1 = x := ⟨_, rfl⟩
  obtain ⟨v, hv⟩ : ∃ v, (ps.getD i (0, 0)).2 = v := ⟨_, rfl⟩
  have HX := Lib.hid (And.intro hx hv)
  rw [hx] at c1
  rw [hv] at c2
  have k0 : (0 : Int) ≤ i := by omega
  have k1 : (i : Int) < n := by omega
  clear hx hv
  by_cases hle : v < r
  ·have HV := Lib.hid (FndI.next hg.out HJ.out (by rw [HX.out.2]; omega))
   have hw : IntKind.u64.wrap (r - v) = r - v := by
    simp only [IntKind.wrap_u64]
    have h1 := hbnd.out
    have h2 := hg.out.pos _ (getD_mem' (show i < ps.length by rw [HN.out]; exact hi))
    rw [HX.out.2] at h2
    obtain ⟨_, _, s, hs, h3, _⟩ := HJ.out
    omega
   have hw2 : IntKind.i64.wrap ((i : Int) + 1) = ((i + 1 : Nat) : Int) := by simp only [IntKind.wrap_i64]; have := HN.out; omega
   clear hlt0
   go_wp2
   go_step3
   refine ⟨rfl, ?_, ?_⟩
   ·exact ⟨i + 1, r - v, _, _, _, _, _, _, _, _, _, _, _, _, _, _, _, _, _, _, _, _, _, _, _, _, _, _, _, _, _, _, _, _, _, _, _, _, _, _, _, _, _, _, _, _, _, _, _, _, rfl, by rw [HX.out.2] at HV; exact HV, rfl⟩
   ·simp [intOf]; omega
  ·have HV := Lib.hid (FndI.here hg.out HJ.out (by rw [HX.out.2]; omega))
   clear hlt0
   go_wp2
   simp only [Exit.jump]
   go_ret2
   exact ⟨by rw [HV.out, HX.out.1]; rfl, rfl⟩
end Go.Proofs.YtlbnlmhcpephbaaGreatDoor
namespace Go.Proofs.YtlbnlmhcpephbaaGreatDoor
open Go.RowKit
end Go.Proofs.YtlbnlmhcpephbaaGreatDoor
