/- Texts of this claim, joined, indents halved: Slices, RunsFind. -/
import Derived.Maps.AppendAt
import Derived.Laws.CopyRow
import Derived.Laws.CopyOwn
import Derived.Laws.OwnMore
import Derived.Lib.AppendZeros
import Derived.OwnWalk
import Derived.Lib.Hide
import Derived.Test.YtlbnlmhcpephbaaGreatDoorProg
import Derived.Test.YtlbnlmhcpephbaaGreatDoorKc2
namespace Go.Proofs.YtlbnlmhcpephbaaGreatDoor
open Go.RowKit
theorem take_splice {α : Type} (l : List α) (o N : Nat) (cs : List α) (h : o + cs.length ≤ N) (hN : N ≤ l.length) : (l.take o ++ cs ++ l.drop (o + cs.length)).take N = splice (l.take N) o cs := by
 unfold splice
 apply List.ext_getElem?
 intro j
 simp only [List.getElem?_take, List.getElem?_append, List.getElem?_drop, List.length_take, List.length_append]
 have e1 : min o l.length = o := by omega
 have e2 : min N l.length = N := by omega
 have e3 : min o (min N l.length) = o := by omega
 have e4 : min o N = o := by omega
 simp only [e1, e2, e3, e4]
 by_cases a : j < o
 ·simp only [a, show j < o + cs.length by omega, show j < N by omega, if_true]
 ·by_cases b : j < o + cs.length
  ·simp only [a, b, show j < N by omega, show j - o < cs.length by omega, if_true, if_false]
  ·simp only [a, b, show ¬ j - o < cs.length by omega, if_false]
   rw [show o + cs.length + (j - (o + cs.length)) = j by omega, show o + cs.length + (j - o - cs.length) = j by omega]
section
variable {P : Program} (w : World)
theorem own_setRow {base elem k g n cap : Nat} {xs : List Value} (hown : w.ownsRow base elem k (.slice (some ⟨g, 0, none⟩) n cap) n xs) :
  ∃ cur : Array Value, w.heap[g]? = some (.cells cur elem (0, 0)) ∧ cur.size = cap * k ∧ n ≤ cap ∧ cur.toList.take (n * k) = xs ∧
   ∀ (o N : Nat) (cs : List Value), N ≤ cap → o + cs.length ≤ cap * k → (w.setRow g (cur.toList.take o ++ cs ++ cur.toList.drop (o + cs.length)).toArray).ownsRow base elem k (.slice (some ⟨g, 0, none⟩) N cap) N ((cur.toList.take o ++ cs ++ cur.toList.drop (o + cs.length)).take (N * k)) ∧
    w.grownBy (w.setRow g (cur.toList.take o ++ cs ++ cur.toList.drop (o + cs.length)).toArray) (some g) := by
 rcases hown.2 with ⟨h, _⟩ | ⟨g', cap', cur, h, hbg, hg, hnc, hcm, hcs, htake⟩
 ·simp at h
 ·simp only [Value.slice.injEq, Option.some.injEq, Addr.mk.injEq, and_true, true_and] at h
  obtain ⟨rfl, rfl⟩ := h
  refine ⟨cur, hg, hcs, hnc, htake, fun o N cs hN hfit => ⟨⟨?_, .inr ⟨g, cap, _, rfl, hbg, setRow_heap w g cur _ elem _ hg, hN, hcm, ?_, rfl⟩⟩, ⟨rfl, rfl, rfl, by simp [World.setRow], fun j _ hj => setRow_other w g j _ (fun e => hj (by simp [e]))⟩⟩⟩
  ·have hNk : N * k ≤ cap * k := Nat.mul_le_mul_right _ hN
   simp only [List.length_take, List.length_append, List.length_drop, Array.length_toList]
   omega
  ·simp only [List.size_toArray, List.length_append, List.length_take, List.length_drop, Array.length_toList]
   omega
theorem run_copy_in (base : Nat) (dT sT ty elem : TypeId) (k : Nat) (hu : P.underlying dT = some (.slice elem)) (hs : (P.info? elem).map (·.size) = some k)
    (g n cap : Nat) (xs : List Value) (hown : w.ownsRow base elem k (.slice (some ⟨g, 0, none⟩) n cap) n xs)
    (o dLen dCap : Nat) (a : Addr) (sLen sCap m : Nat) (cs : List Value) (hm : Nat.min sLen dLen = m) (hn : cs.length = m * k) (hsrc : ∀ j v, cs[j]? = some v → w.cell? (a.add j) = some v)
    (hfit : o + cs.length ≤ n * k) (h1 : ∀ v ∈ cs, v.oneCell' = true) :
    ∃ w', (Builtin.copy_ #[dT, sT] ty #[.slice (some ⟨g, o, none⟩) dLen dCap, .slice (some a) sLen sCap]).run P w = .ok (goInt m) w' ∧
      w'.ownsRow base elem k (.slice (some ⟨g, 0, none⟩) n cap) n (splice xs o cs) ∧ w.grownBy w' (some g) := by
  obtain ⟨cur, hg, hcs, hnc, htake, hset⟩ := own_setRow w hown
  have hnk : n * k ≤ cap * k := Nat.mul_le_mul_right _ hnc
  obtain ⟨q1, q2⟩ := hset o n cs hnc (by omega)
  rw [take_splice _ _ _ _ hfit (by rw [Array.length_toList]; omega), htake] at q1
  refine ⟨_, ?_, q1, q2⟩
  have hl := run_firstCells_some (P := P) w k m a sLen sCap cs hn hsrc
  have hst := run_storeCells_at P g o elem cs 0 cur w hg (by omega) h1
  cases hq : P.info? elem with
  | none => simp [hq] at hs
  | some i =>
    have hi : i.size = k := by simpa [hq] using hs
    simp [Builtin.copy_, run_underlying hu, Builtin.lenOf, sizeOf, typeInfo, hq, hi, hm, hl, hst]
theorem zeroCells_length (z : Array Value) (n : Nat) : (Builtin.zeroCells z n).size = n * z.size := by simp [Builtin.zeroCells]
theorem zeroCells_mem {z : Array Value} {n : Nat} {v : Value} (h : v ∈ (Builtin.zeroCells z n).toList) (hz : ∀ u ∈ z.toList, u.oneCell' = true) : v.oneCell' = true := by
 simp only [Builtin.zeroCells, Array.toList_map, List.mem_map] at h
 obtain ⟨i, hi, rfl⟩ := h
 simp only [Array.toList_range, List.mem_range] at hi
 have h0 : 0 < z.size := by
  rcases Nat.eq_zero_or_pos z.size with h | h
  ·rw [h, Nat.mul_zero] at hi; omega
  ·exact h
 have hlt := Nat.mod_lt i h0
 rw [getElem!_pos z (i % z.size) hlt]
 exact hz _ (by simp)
theorem run_clear_spare (base : Nat) (t ty elem : TypeId) (k : Nat) (z : Value) (hu : P.underlying t = some (.slice elem)) (hv : ∀ w, (zeroValue elem).run P w = .ok z w) (hzk : z.cells.size = k) (h1 : ∀ u ∈ z.cells.toList, u.oneCell' = true)
  (g n cap : Nat) (xs : List Value) (hown : w.ownsRow base elem k (.slice (some ⟨g, 0, none⟩) n cap) n xs) (o m c : Nat) (ho : o = n * k) (hm : n + m ≤ cap) (hm0 : 0 < m) :
  ∃ w', (Builtin.clear_ #[t] ty #[.slice (some ⟨g, o, none⟩) m c]).run P w = .ok (.tuple #[]) w' ∧ w'.ownsRow base elem k (.slice (some ⟨g, 0, none⟩) n cap) n xs ∧ w.grownBy w' (some g) := by
 subst ho
 obtain ⟨cur, hg, hcs, hnc, htake, hset⟩ := own_setRow w hown
 have hmk : n * k + m * k ≤ cap * k := by rw [← Nat.add_mul]; exact Nat.mul_le_mul_right _ hm
 have hzl : (Builtin.zeroCells z.cells m).toList.length = m * k := by rw [Array.length_toList, zeroCells_length, hzk]
 obtain ⟨q1, q2⟩ := hset (n * k) n (Builtin.zeroCells z.cells m).toList hnc (by rw [hzl]; exact hmk)
 have e : (cur.toList.take (n * k) ++ (Builtin.zeroCells z.cells m).toList ++ cur.toList.drop (n * k + (Builtin.zeroCells z.cells m).toList.length)).take (n * k) = xs := by
  rw [List.append_assoc, List.take_append_of_le_length (by rw [List.length_take, Array.length_toList]; omega), List.take_take, Nat.min_self, htake]
 rw [e] at q1
 refine ⟨_, ?_, q1, q2⟩
 have hst := run_storeCells_at P g (n * k) elem (Builtin.zeroCells z.cells m).toList 0 cur w hg (by rw [hzl]; omega) (fun v h => zeroCells_mem h h1)
 obtain ⟨m', rfl⟩ : ∃ m', m = m' + 1 := ⟨m - 1, by omega⟩
 simp only [Nat.add_zero] at hst
 simp [Builtin.clear_, run_underlying hu, hv, hst]
theorem run_append_zeros_grow (base : Nat) (t tn ty elem : TypeId) (i : TypeInfo) (z : Value) (k bytes : Nat) (kn kx : IntKind) (hu : P.underlying t = some (.slice elem)) (htn : P.underlying tn = some (.int kn)) (hi : P.info? elem = some i) (hz : i.zero = some z)
  (hsize : i.size = k) (hby : i.bytes = bytes) (hzs : z.cells.size = k) (hk0 : 0 < k) (A : Option Addr) (n cap m : Nat) (old : List Value) (hold : (Builtin.firstCells k n (.slice A n cap)).run P w.drew = .ok old.toArray w.drew) (hol : old.length = n * k)
  (hm0 : 0 < m) (hroom : cap < n + m) (hbytes : (n + m) * bytes ≤ 140737488355328) (h63 : n + m ≤ maxLen) (hb : base ≤ w.heap.size) (hby0 : 0 < bytes) :
  ∃ cap' w', (Builtin.append_ #[t, tn] ty #[.slice A n cap, .int kx m]).run P w = .ok (.slice (some ⟨w.heap.size, 0, none⟩) (n + m) cap') w' ∧
   w'.ownsRow base elem k (.slice (some ⟨w.heap.size, 0, none⟩) (n + m) cap') (n + m) (old ++ (Builtin.zeroCells z.cells m).toList) ∧ w.grownBy w' none := by
 subst hsize
 subst hby
 have h63' : (n : Int) + m ≤ 9223372036854775807 := by simp only [maxLen] at h63; omega
 have hw : IntKind.i64.wrap (m : Int) = m := by rw [IntKind.wrap_i64]; omega
 have hneg : ¬ ((m : Int) < 0) := by omega
 have hmb : m * i.bytes ≤ (n + m) * i.bytes := Nat.mul_le_mul_right _ (by omega)
 have h48i : ¬ (281474976710656 < (m : Int) * (i.bytes : Int)) := by
  rw [← Int.natCast_mul]
  omega
 have h48 : ¬ (281474976710656 < Builtin.nextslicecap (n + m) cap * i.bytes) := by
  have := growslice_fits hroom hbytes
  omega
 have hr2 : ¬ (n + m ≤ cap) := by omega
 have hm1 : m ≠ 0 := by omega
 have hns : ¬ (m * i.size = 0) := Nat.mul_ne_zero hm1 (by omega)
 have hge := grownCap_ge w (n + m) cap elem
 have hle := grownCap_le_maxLen w (n + m) cap elem h63
 have hrun : (Builtin.append_ #[t, tn] ty #[.slice A n cap, .int kx m]).run P w =
   .ok (.slice (some ⟨w.heap.size, 0, none⟩) (n + m) (grownCap w (n + m) cap elem)) (w.drew.alloc (.cells (old.toArray ++ Builtin.zeroCells z.cells m ++ Builtin.zeroCells z.cells (grownCap w (n + m) cap elem - (n + m))) elem)) := by
  have h63i : ¬ (9223372036854775807 < (n : Int) + m) := by omega
  simp [Builtin.append_, run_underlying hu, run_underlying htn, sizeOf, typeInfo, zeroValue, hi, hz, asInt, asIntOf, hw, hneg, hns, hm1, hr2, h63i, h48, h48i, Question.forced, newRow, grownCap, hold]
 have hzl : (Builtin.zeroCells z.cells m).toList.length = m * i.size := by rw [Array.length_toList, zeroCells_length, hzs]
 refine ⟨_, _, hrun, ⟨?_, .inr ⟨w.heap.size, _, _, rfl, hb, heap_alloc_new w.drew _, hge, hle, ?_, ?_⟩⟩, ⟨rfl, rfl, rfl, by simp, fun j hj _ => by first | exact heap_alloc_old w.drew _ j hj | exact heap_alloc_old w.drew _ hj⟩⟩
 ·rw [List.length_append, hol, hzl, Nat.add_mul]
 ·rw [Array.size_append, Array.size_append, zeroCells_length, zeroCells_length, hzs, List.size_toArray, hol, ← Nat.add_mul, ← Nat.add_mul]
  congr 1
  omega
 ·have hlen : (old ++ (Builtin.zeroCells z.cells m).toList).length = (n + m) * i.size := by rw [List.length_append, hol, hzl, Nat.add_mul]
  rw [Array.toList_append, Array.toList_append, ← hlen]
  exact List.take_left
theorem wp_copy_run {o : Oper} {a : Act} {K : Act → World → Prop} {Q : Exit → Act → World → Prop} (d s : Operand) (t t' : TypeId)
  (ho : o.op = .call { callee := .builtin .copy, args := #[d, s], argTypes := #[t, t'] }) (v u : Value) (hd : a.eval d = v) (hs : a.eval s = u) {v' : Value} {w' : World}
  (hr : (Builtin.copy_ #[t, t'] o.type #[v, u]).run P w = .ok v' w') (h : K (a.put o.dst v') w') : o.wp P a w K Q := by
 unfold Oper.wp execOp
 simp only [ho, resolve, invoke, builtin, Sem.run_bind, Sem.run_pure, Result.andThen_ok, List.map_toArray, List.map_cons, List.map_nil, hd, hs, hr]
 exact h
end
theorem ite_of {c : Prop} [Decidable c] {A B : Prop} (h : c) (a : A) : if c then A else B := by rw [if_pos h]; exact a
end Go.Proofs.YtlbnlmhcpephbaaGreatDoor

namespace Go.Proofs.YtlbnlmhcpephbaaGreatDoor
open Go.RowKit
theorem RdP.at' {w : World} {A : Option Addr} {ps : List (Int × Int)} (h : RdP w A ps) (j : Nat) (hj : j < ps.length) :
  ∃ g o, A = some ⟨g, o, none⟩ ∧ g < w.heap.size ∧ w.cell? ⟨g, o + j * 2, none⟩ = some (.int .i64 (ps.getD j (0, 0)).1) ∧ w.cell? ⟨g, o + j * 2 + 1, none⟩ = some (.int .u64 (ps.getD j (0, 0)).2) := by
 have := h.at j hj
 rw [List.getD_eq_getElem?_getD, List.getElem?_eq_getElem hj]
 exact this
def byV (x q : Int) : Int := if x < q then -1 else if q < x then 1 else 0
theorem byV_ne {x q : Int} (h : x ≠ q) : byV x q ≠ 0 := by
 unfold byV
 split
 ·omega
 ·split <;> omega
theorem by_any (x y q : Int) (w : World) :
  Calls Tryz.prog 138 #[.agg #[.int .i64 x, .int .u64 y], .int .i64 q] w fun e w' => e = .returned (.int .i64 (byV x q)) ∧ Below w.heap.size w w' := by
 by_cases h1 : x < q
 ·have HE : Hid (byV x q = -1) := by show _ = _; unfold byV; rw [if_pos h1]
  rw [HE.out]
  go_enter Tryz.func138, Tryz.ntmps138
  go_wp2
  go_ret
  exact ⟨rfl, (by repeat (first | with_reducible assumption | with_reducible exact Below.refl _ _ | with_reducible refine Below.drew ?_ | with_reducible refine Below.drewN ?_ _ | with_reducible refine Below.setCell ?_ (by first | omega | (simp; done) | (simp; omega)) _ | with_reducible refine Below.alloc ?_ (by first | omega | (simp; done) | (simp; omega) | (simp [World.setCell]; omega)) _))⟩
 ·by_cases h2 : q < x
  ·have HE : Hid (byV x q = 1) := by show _ = _; unfold byV; rw [if_neg h1, if_pos h2]
   rw [HE.out]
   go_enter Tryz.func138, Tryz.ntmps138
   go_wp2
   go_ret
   exact ⟨rfl, (by repeat (first | with_reducible assumption | with_reducible exact Below.refl _ _ | with_reducible refine Below.drew ?_ | with_reducible refine Below.drewN ?_ _ | with_reducible refine Below.setCell ?_ (by first | omega | (simp; done) | (simp; omega)) _ | with_reducible refine Below.alloc ?_ (by first | omega | (simp; done) | (simp; omega) | (simp [World.setCell]; omega)) _))⟩
  ·have HE : Hid (byV x q = 0) := by show _ = _; unfold byV; rw [if_neg h1, if_neg h2]
   rw [HE.out]
   go_enter Tryz.func138, Tryz.ntmps138
   go_wp2
   go_ret
   exact ⟨rfl, (by repeat (first | with_reducible assumption | with_reducible exact Below.refl _ _ | with_reducible refine Below.drew ?_ | with_reducible refine Below.drewN ?_ _ | with_reducible refine Below.setCell ?_ (by first | omega | (simp; done) | (simp; omega)) _ | with_reducible refine Below.alloc ?_ (by first | omega | (simp; done) | (simp; omega) | (simp [World.setCell]; omega)) _))⟩
structure Posn (ps : List (Int × Int)) (q : Int) (k : Nat) : Prop where
 le : k ≤ ps.length
 under : ∀ j, j < k → (ps.getD j (0, 0)).1 < q
 over : ∀ j, k ≤ j → j < ps.length → q ≤ (ps.getD j (0, 0)).1
def BfR (ps : List (Int × Int)) (q : Int) (e : Ending) : Prop := ∃ k : Nat, ∃ f : Bool, e = .returned (.tuple #[.int .i64 k, .bool f]) ∧ Posn ps q k ∧ (f = true ↔ k < ps.length ∧ (ps.getD k (0, 0)).1 = q)
set_option maxRecDepth 100000 in
set_option maxHeartbeats 2000000 in
theorem bsf_any (A : Option Addr) (c len : Nat) (ps : List (Int × Int)) (q : Int) (w : World) (hlen : ps.length = len) (h : RdP w A ps) (hg : Gd ps) (hl : len ≤ 1099511627776) :
  Calls Tryz.prog 137 #[.slice A len c, .int .i64 q, .func (.func 138) #[] #[]] w fun e w' => BfR ps q e ∧ Below w.heap.size w w' := by
 have HA := Lib.hid (fun j (hj : j < ps.length) => h.at' j hj)
 have HS := Lib.hid (fun (x y : Nat) (h : x ≤ y) (hy : y < ps.length) => hg.le h hy)
 rw [hlen] at HA HS
 replace hlen := Lib.hid hlen
 clear h hg
 obtain ⟨n, hn⟩ : ∃ n, len = n := ⟨_, rfl⟩
 subst hn
 go_enter Tryz.func137, Tryz.ntmps137
 go_wp2
 go_loopw [9, 10] (fun I J wr => ∃ i j : Nat, i ≤ j ∧ j ≤ len ∧ I = .int .i64 i ∧ J = .int .i64 j ∧ Hid (∀ x, x < i → (ps.getD x (0, 0)).1 < q) ∧ Hid (∀ x, j ≤ x → x < len → q ≤ (ps.getD x (0, 0)).1) ∧ Below w.heap.size w wr) (fun I J _ => (intOf J).toNat - (intOf I).toNat)
 case atStart => exact ⟨0, len, by omega, by omega, rfl, rfl, Lib.hid (fun x hx => by omega), Lib.hid (fun x h1 h2 => by omega), Below.refl _ _⟩
 case round =>
  obtain ⟨i, j, hij, hjn, rfl, rfl, Hlo, Hhi, hB⟩ := hrel
  by_cases hlt : i < j
  ·have hlt' : (i : Int) < j := by omega
   obtain ⟨H, hH⟩ : ∃ H, (i + j) / 2 = H := ⟨_, rfl⟩
   obtain ⟨g, o, rfl, hg, hc1, hc2⟩ := HA.out H (by omega)
   have v1 : ((i : Int) + j) / 2 = (H : Int) := by omega
   have hHj : i ≤ H ∧ H < j := by omega
   obtain ⟨y, hy⟩ : ∃ y, (ps.getD H (0, 0)).1 = y := ⟨_, rfl⟩
   obtain ⟨z, hz⟩ : ∃ z, (ps.getD H (0, 0)).2 = z := ⟨_, rfl⟩
   rw [hy] at hc1
   rw [hz] at hc2
   replace hc1 := cellB hB hg hc1
   replace hc2 := cellB hB hg hc2
   replace hy := Lib.hid hy
   have k0 : (0 : Int) ≤ H := by omega
   have k1 : (H : Int) < len := by omega
   have v2 : IntKind.i64.wrap ((H : Int) + 1) = H + 1 := by simp only [IntKind.wrap_i64]; omega
   clear hH hz
   go_wp2_with fail
   refine (by_any y z q _).mono ?_
   rintro e w1 ⟨rfl, hb⟩
   replace hB := keep1 hB hb
   by_cases hym : y < q
   ·have hv : byV y q = -1 := by unfold byV; rw [if_pos hym]
    rw [hv]
    have Hlo2 : Hid (∀ x, x < H + 1 → (ps.getD x (0, 0)).1 < q) := fun x hx => by
     have := HS.out x H (by omega) (by omega)
     rw [hy.out] at this
     omega
    clear Hlo hb hv
    go_wp2
    go_roundw
    case rel => exact ⟨H + 1, j, by omega, hjn, by go_num, rfl, Hlo2, Hhi, hB⟩
    case measure => simp [intOf]; omega
   ·have hv : ¬ byV y q < 0 := by unfold byV; rw [if_neg hym]; split <;> omega
    have Hhi2 : Hid (∀ x, H ≤ x → x < len → q ≤ (ps.getD x (0, 0)).1) := fun x h1 h2 => by
     have := HS.out H x h1 h2
     rw [hy.out] at this
     omega
    obtain ⟨b, hbv⟩ : ∃ b, byV y q = b := ⟨_, rfl⟩
    rw [hbv] at hv ⊢
    clear Hhi hb hbv
    go_wp2
    go_roundw
    case rel => exact ⟨i, H, by omega, by omega, rfl, rfl, Hlo, Hhi2, hB⟩
    case measure => simp [intOf]; omega
  ·obtain rfl : i = j := by omega
   have HAt : Hid (Posn ps q i) := ⟨by rw [hlen.out]; omega, Hlo.out, fun j h1 h2 => Hhi.out j h1 (by rw [← hlen.out]; exact h2)⟩
   clear Hlo Hhi HS
   by_cases hin : i < len
   ·obtain ⟨g, o, rfl, hg, hc1, hc2⟩ := HA.out i hin
    obtain ⟨y, hy⟩ : ∃ y, (ps.getD i (0, 0)).1 = y := ⟨_, rfl⟩
    obtain ⟨z, hz⟩ : ∃ z, (ps.getD i (0, 0)).2 = z := ⟨_, rfl⟩
    rw [hy] at hc1
    rw [hz] at hc2
    replace hc1 := cellB hB hg hc1
    replace hc2 := cellB hB hg hc2
    replace hy := Lib.hid hy
    have k0 : (0 : Int) ≤ i := by omega
    have k1 : (i : Int) < len := by omega
    clear hz
    go_wp2_with fail
    refine (by_any y z q _).mono ?_
    rintro e w1 ⟨rfl, hb⟩
    replace hB := keep1 hB hb
    by_cases e : y = q
    ·have HE : Hid ((ps.getD i (0, 0)).1 = q) := hy.out.trans e
     have hv : byV y q = 0 := by unfold byV; rw [if_neg (by omega), if_neg (by omega)]
     rw [hv]
     clear e hv hb
     go_wp2
     go_ret2
     exact ⟨⟨i, true, rfl, HAt.out, ⟨fun _ => ⟨by rw [hlen.out]; exact hin, HE.out⟩, fun _ => rfl⟩⟩, hB⟩
    ·have hv : (byV y q == 0) = false := beq_eq_false_iff_ne.2 (byV_ne e)
     have HNe := Lib.hid e
     obtain ⟨b, hbv⟩ : ∃ b, byV y q = b := ⟨_, rfl⟩
     rw [hbv] at hv ⊢
     clear hb hbv e
     go_wp2
     go_ret2
     exact ⟨⟨i, false, rfl, HAt.out, ⟨fun h => (by cases h), fun h => absurd (hy.out.symm.trans h.2) HNe.out⟩⟩, hB⟩
   ·obtain rfl : i = len := by omega
    have hin' : ¬ (i : Int) < i := by omega
    clear HA
    go_wp2
    go_ret2
    exact ⟨⟨i, false, rfl, HAt.out, ⟨fun h => (by cases h), fun h => absurd (h.1) (by rw [hlen.out]; exact Nat.lt_irrefl _)⟩⟩, hB⟩
theorem rfind06_any (A : Option Addr) (c len : Nat) (ps : List (Int × Int)) (q : Int) (w : World) (hlen : ps.length = len) (h : RdP w A ps) (hg : Gd ps) (hl : len ≤ 1099511627776) :
  Calls Tryz.prog 126 #[.slice A len c, .int .i64 q] w fun e w' => BfR ps q e ∧ Below w.heap.size w w' := by
 have HC := Lib.hid (bsf_any A c len ps q w hlen h hg hl)
 clear h
 go_enter Tryz.func126, Tryz.ntmps126
 go_wp2_with fail
 refine HC.out.mono ?_
 rintro e w1 ⟨⟨k, f, rfl, hp, hf⟩, hB⟩
 have HP : Hid (Posn ps q k ∧ (f = true ↔ k < ps.length ∧ (ps.getD k (0, 0)).1 = q)) := ⟨hp, hf⟩
 clear HC hp hf
 go_wp2
 go_ret2
 exact ⟨⟨k, f, rfl, HP.out.1, HP.out.2⟩, hB⟩
end Go.Proofs.YtlbnlmhcpephbaaGreatDoor
