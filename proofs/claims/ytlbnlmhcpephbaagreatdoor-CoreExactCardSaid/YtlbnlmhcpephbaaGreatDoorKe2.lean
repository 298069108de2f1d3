/- Texts of this claim, joined, indents halved: Loops, SpanAll, Door, Slices, ERow, EHs, EBas, Plus, EPl, Cfg. -/
import Derived.RangeFuncNested
import Derived.RangeFuncBound
import Derived.RangeFuncCalls
import Derived.RangeFuncLeaves
import Derived.RangeFuncBox
import Derived.Shelf.Abstract
import Derived.Shelf.RegionOpen
import Derived.WalkKit
import Derived.OwnWalkIn
import Derived.TacticsInMore
import Derived.LoopNIn
import Derived.LoopIn
import Derived.Test.YtlbnlmhcpephbaaGreatDoorProg
import Derived.Lib.BitFns
import Derived.BigQuiet
import Derived.Deep.QuietTactic
import Derived.Test.YtlbnlmhcpephbaaGreatDoorRows
import Derived.Lib.LaidTab
import Derived.LaidMore
import Derived.Maps.AppendAt
import Derived.Laws.CopyRow
import Derived.Laws.CopyOwn
import Derived.Laws.OwnMore
import Derived.Lib.AppendZeros
import Derived.OwnWalk
import Derived.Lib.Hide
import Derived.WalkMore
import Derived.ScopeJumps
import Derived.Test.YtlbnlmhcpephbaaGreatDoorKe1
namespace Go.Proofs.YtlbnlmhcpephbaaGreatDoor
open Go.RowKit Go.Shelf
structure Frame (S : List Nat) (w w' : World) : Prop where
 os : w'.os = w.os
 tape : w'.tape = w.tape
 output : w'.output = w.output
 size : w.heap.size ≤ w'.heap.size
 block : ∀ k, k < w.heap.size → k ∉ S → w'.heap[k]? = w.heap[k]?
theorem Frame.of_below {S : List Nat} {w w' : World} (h : Below w.heap.size w w') : Frame S w w' := ⟨h.os, h.tape, h.output, h.size, fun k hk _ => h.block k hk⟩
theorem Frame.trans {S : List Nat} {w w1 w2 : World} (h : Frame S w w1) (k : Frame S w1 w2) : Frame S w w2 :=
 ⟨k.os.trans h.os, k.tape.trans h.tape, k.output.trans h.output, Nat.le_trans h.size k.size, fun i hi hn => (k.block i (Nat.lt_of_lt_of_le hi h.size) hn).trans (h.block i hi hn)⟩
theorem Frame.set (S : List Nat) (w : World) (b i : Nat) (v : Value) (hb : b ∈ S) : Frame S w (w.setCell ⟨b, i, none⟩ v) :=
 ⟨rfl, rfl, rfl, by simp [World.setCell], fun k _ hn => Below.heap_setCell w _ v k (by show k ≠ b; rintro rfl; exact hn hb)⟩
theorem Frame.at {S : List Nat} {b : Nat} {w w' : World} {cs : Array Value} {T : TypeId} (h : Frame S w w') (hs : At w b cs T) (hn : b ∉ S) : At w' b cs T := (h.block b hs.lt hn).trans hs
theorem Frame.drew {S : List Nat} {w w' : World} (h : Frame S w w') : Frame S w w'.drew := ⟨h.os, h.tape, h.output, h.size, h.block⟩
theorem Frame.drewN {S : List Nat} {w w' : World} (h : Frame S w w') (n : Nat) : Frame S w (w'.drewN n) := ⟨h.os, h.tape, h.output, h.size, h.block⟩
theorem Frame.refl (S : List Nat) (w : World) : Frame S w w := ⟨rfl, rfl, rfl, Nat.le_refl _, fun _ _ _ => rfl⟩
theorem Frame.setc {S : List Nat} {b : Nat} {w w' : World} (h : Frame S w w') (hb : b ∈ S ∨ w.heap.size ≤ b) (i : Nat) (v : Value) : Frame S w (w'.setCell ⟨b, i, none⟩ v) :=
 ⟨h.os, h.tape, h.output, by simpa [World.setCell] using h.size, fun k hk hn => (Below.heap_setCell w' _ v k (fun (e : k = b) => hb.elim (fun hb => hn (e ▸ hb)) (fun hb => absurd hk (by omega)))).trans (h.block k hk hn)⟩
theorem Frame.alloc {S : List Nat} {w w' : World} (h : Frame S w w') (o : Obj) : Frame S w (w'.alloc o) := h.trans (Frame.of_below ((Below.refl _ _).alloc (Nat.le_refl _) o))
theorem Frame.below {S : List Nat} {B : Nat} {w0 w w' : World} (hB : Below B w0 w) (hz : B ≤ w.heap.size) (h : Frame S w w') (hS : ∀ k ∈ S, B ≤ k) : Below B w0 w' :=
 hB.trans ⟨h.os, h.tape, h.output, h.size, fun k hk => h.block k (Nat.lt_of_lt_of_le hk hz) fun hm => absurd (hS k hm) (by omega)⟩
theorem Frame.rd {S : List Nat} {w w' : World} {A : Option Addr} {cs : List Value} (h : Frame S w w') (hr : Rd w A cs) (hn : ∀ a, A = some a → a.block ∉ S) : Rd w' A cs := fun j u hj => by
 obtain ⟨g, o, rfl, hg, hc⟩ := hr j u hj
 refine ⟨g, o, rfl, Nat.lt_of_lt_of_le hg h.size, ?_⟩
 rw [← hc]
 exact World.cell?_of_block (w := w) (h.block g hg (hn _ rfl))
def Apart (S T : List Nat) : Prop := ∀ k ∈ S, k ∉ T
def GrownS (S S' : List Nat) (n : Nat) : Prop := ∀ k ∈ S', k ∈ S ∨ n ≤ k
def Within (S : List Nat) (lo hi : Nat) : Prop := ∀ k ∈ S, lo ≤ k ∧ k < hi
theorem Apart.symm {S T : List Nat} (h : Apart S T) : Apart T S := fun k hk hn => h k hn hk
theorem Within.mono {S : List Nat} {lo hi hi' : Nat} (h : Within S lo hi) (hh : hi ≤ hi') : Within S lo hi' := fun k hk => ⟨(h k hk).1, Nat.lt_of_lt_of_le (h k hk).2 hh⟩
theorem Within.grown {S S' : List Nat} {lo hi n : Nat} (h : Within S lo n) (hg : GrownS S S' n) (hl : lo ≤ n) (hs : ∀ k ∈ S', k < hi) : Within S' lo hi := fun k hk => ⟨by
 rcases hg k hk with h1 | h1
 ·exact (h k h1).1
 ·omega, hs k hk⟩
theorem GrownS.refl (S : List Nat) (n : Nat) : GrownS S S n := fun _ hk => .inl hk
theorem Frame.below' {S : List Nat} {lo : Nat} {w0 w w' : World} (h : Frame S w w') (hB : Below lo w0 w) (hz : lo ≤ w.heap.size) (hS : Within S lo w.heap.size) : Below lo w0 w' := h.below hB hz fun k hk => (hS k hk).1
theorem Frame.mono {S T : List Nat} {w w' : World} (h : Frame S w w') (hs : ∀ k ∈ S, k ∈ T) : Frame T w w' := ⟨h.os, h.tape, h.output, h.size, fun k hk hn => h.block k hk fun hm => hn (hs k hm)⟩
def KpB (n₀ Bn : Nat) (W W' : World) : Prop := ∀ k, k < n₀ ∨ k = Bn → W'.heap[k]? = W.heap[k]?
theorem KpB.trans {n₀ Bn : Nat} {A B C : World} (h : KpB n₀ Bn A B) (k : KpB n₀ Bn B C) : KpB n₀ Bn A C := fun i hi => (k i hi).trans (h i hi)
theorem KpB.refl (n₀ Bn : Nat) (A : World) : KpB n₀ Bn A A := fun _ _ => rfl
theorem KpB.turn {n₀ Bn : Nat} {w : World} (hn : n₀ ≤ w.heap.size) (hB : Bn < w.heap.size) (W : World) (l : Nat) (o o' : Obj) (hl : w.heap.size ≤ l) (_ : W.heap[l]? = some o) (_ : o.isCells = false) (_ : o.isWalk = false) : KpB n₀ Bn W (W.putObj l o') :=
 fun k hk => World.putObj_heap_other (fun e => by omega)
theorem calls_of_wp_marks {P : Program} {f : FuncId} {fn : Func} {c : Code} {args : Array Value} {w : World} {R : Ending → World → Prop} (hf : P.funcs[f]? = some fn) (hb : fn.body = some c)
  (h : c.wp P (bodyPostM Fence.wide 5 P fn R) { tmps := args ++ Array.replicate (fn.ntmps - args.size) undef, defers := [] } w) : Calls P f args w R :=
 (callsIn_wide (n := 5)).1 (callsIn_of_wp_marks (F := Fence.wide) (n := 5) hf hb trivial (wpIn_wide.2 h) rfl)
theorem At.grown {W W' : World} {row : Option Nat} {b : Nat} {cs : Array Value} {T : TypeId} (h : At W b cs T) (hg : W.grownBy W' row) (hr : ∀ r, row = some r → ∃ o : Obj, W.heap[r]? = some o ∧ o.isCells = false) : At W' b cs T := by
 refine (hg.block b h.lt ?_).trans h
 intro e
 obtain ⟨o, ho, hc⟩ := hr b e.symm
 rw [show W.heap[b]? = _ from h] at ho
 cases ho
 cases hc
theorem OwnFrom.pure {β : Type} {B : Nat} (p : β → Prop) : OwnFrom B (fun s (_ : World) => p s) := fun _ _ _ _ h _ _ => h
theorem marks_mark {P : Program} {fn : Func} {R : Ending → World → Prop} {tmps : Array Value} {D : Nat} {W : World} {v : Value} (hK : W.heap[D]? = some (.deferred (some [])))
  (hres : (results fn tmps).run P (W.putObj D (.deferred none)) = .ok v (W.putObj D (.deferred none))) (hR : R (.returned v) (W.putObj D (.deferred none))) :
  bodyPostM Fence.wide 5 P fn R .ret { tmps := tmps, defers := [{ target := .collected D, args := #[] }] } W :=
 ⟨by simp, .inl ⟨_, _, rfl, run_takeDeferred hK, v, hres, hR⟩⟩
theorem _root_.Go.RowKit.Below.putD {B D : Nat} {w W : World} (h : Below B w W) (hK : W.heap[D]? = some (.deferred (some []))) (hD : B ≤ D) : Below B w (W.putObj D (.deferred none)) :=
 h.trans (belowK_b (n₀ := B) (w := { W with heap := W.heap.extract 0 B }) (by have := (Array.getElem?_eq_some_iff.1 hK).1; simp; omega) W D _ _ (by simp; omega) hK rfl rfl)
structure Two (B : Nat) (w wr : World) (S T : List Nat) (X Y : Prop) : Prop where
 x : X
 y : Y
 ws : Within S B wr.heap.size
 wt : Within T B wr.heap.size
 ap : Apart S T
 below : Below B w wr
 size : B ≤ wr.heap.size
end Go.Proofs.YtlbnlmhcpephbaaGreatDoor

namespace Go.Proofs.YtlbnlmhcpephbaaGreatDoor
open Go.RowKit
structure TensAt (w : World) : Prop where
 lt : 0 < w.heap.size
 c0 : w.cell? ⟨0, 0, none⟩ = some (.int .u64 1)
 c1 : w.cell? ⟨0, 1, none⟩ = some (.int .u64 10)
 c2 : w.cell? ⟨0, 2, none⟩ = some (.int .u64 100)
 c3 : w.cell? ⟨0, 3, none⟩ = some (.int .u64 1000)
 c4 : w.cell? ⟨0, 4, none⟩ = some (.int .u64 10000)
theorem TensAt.below {w w' : World} (h : TensAt w) (hb : Below w.heap.size w w') : TensAt w' :=
 ⟨Nat.lt_of_lt_of_le h.lt hb.size, cellB hb h.lt h.c0, cellB hb h.lt h.c1, cellB hb h.lt h.c2, cellB hb h.lt h.c3, cellB hb h.lt h.c4⟩
end Go.Proofs.YtlbnlmhcpephbaaGreatDoor
namespace Go.Proofs.YtlbnlmhcpephbaaGreatDoor
open Go.RowKit
theorem sgof_any (x : Int) (w : World) (h1 : -9223372036854775808 ≤ x) (h2 : x ≤ 9223372036854775807) :
  Calls Tryz.prog 188 #[.int .i64 x] w fun e w' => e = .returned (.tuple #[.int .u64 (x.natAbs : Int), .bool (decide (x < 0))]) ∧ w = w' := by
 by_cases hx : x < 0
 ·have HV : Hid ((x.natAbs : Int) = -x) := by show _ = _; omega
  have v1 : IntKind.u64.wrap x = x + 18446744073709551616 := by simp only [IntKind.wrap_u64]; omega
  have v2 : IntKind.u64.wrap (-(x + 18446744073709551616)) = -x := by simp only [IntKind.wrap_u64]; omega
  have hd : decide (x < 0) = true := decide_eq_true hx
  rw [HV.out, hd]
  clear h1 h2
  go_enter Tryz.func188, Tryz.ntmps188
  go_wp2
  go_ret2
  exact ⟨rfl, rfl⟩
 ·have HV : Hid ((x.natAbs : Int) = x) := by show _ = _; omega
  have v1 : IntKind.u64.wrap x = x := by simp only [IntKind.wrap_u64]; omega
  have hd : decide (x < 0) = false := decide_eq_false hx
  rw [HV.out, hd]
  clear h1 h2
  go_enter Tryz.func188, Tryz.ntmps188
  go_wp2
  go_ret2
  exact ⟨rfl, rfl⟩
def valM (m : Int) (below : Bool) : Int := if below then (if m ≤ 9223372036854775808 then -m else 0) else (if m < 9223372036854775808 then m else 0)
def valOk (m : Int) (below : Bool) : Bool := if below then decide (m ≤ 9223372036854775808) else decide (m < 9223372036854775808)
theorem sgval_any (m : Int) (below : Bool) (w : World) (h1 : 0 ≤ m) (h2 : m < 18446744073709551616) :
    Calls Tryz.prog 193 #[.int .u64 m, .bool below] w fun e w' => e = .returned (.tuple #[.int .i64 (valM m below), .bool (valOk m below)]) ∧ w = w' := by
  cases below with
  | true =>
    by_cases hm : m ≤ 9223372036854775808
    · have HV : Hid (valM m true = -m ∧ valOk m true = true) := by show _ ∧ _; unfold valM valOk; simp [hm]
      rw [HV.out.1, HV.out.2]
      have hd : decide (m ≤ 9223372036854775808) = true := decide_eq_true hm
      by_cases h0 : m = 0
      · subst h0
        go_enter Tryz.func193, Tryz.ntmps193
        go_wp2
        go_ret2
        exact ⟨rfl, rfl⟩
      · have v1 : IntKind.u64.wrap (-m) = 18446744073709551616 - m := by simp only [IntKind.wrap_u64]; omega
        have v2 : IntKind.i64.wrap (18446744073709551616 - m) = -m := by simp only [IntKind.wrap_i64]; omega
        clear h1 h2 h0
        go_enter Tryz.func193, Tryz.ntmps193
        go_wp2
        go_ret2
        exact ⟨rfl, rfl⟩
    · have HV : Hid (valM m true = 0 ∧ valOk m true = false) := by show _ ∧ _; unfold valM valOk; simp; omega
      rw [HV.out.1, HV.out.2]
      have hd : decide (m ≤ 9223372036854775808) = false := decide_eq_false hm
      clear h1 h2
      go_enter Tryz.func193, Tryz.ntmps193
      go_wp2
      go_ret2
      exact ⟨rfl, rfl⟩
  | false =>
    by_cases hm : m < 9223372036854775808
    · have HV : Hid (valM m false = m ∧ valOk m false = true) := by show _ ∧ _; unfold valM valOk; simp [hm]
      rw [HV.out.1, HV.out.2]
      have hd : decide (m < 9223372036854775808) = true := decide_eq_true hm
      have v1 : IntKind.i64.wrap m = m := by simp only [IntKind.wrap_i64]; omega
      clear h1 h2
      go_enter Tryz.func193, Tryz.ntmps193
      go_wp2
      go_ret2
      exact ⟨rfl, rfl⟩
    · have HV : Hid (valM m false = 0 ∧ valOk m false = false) := by show _ ∧ _; unfold valM valOk; simp; omega
      rw [HV.out.1, HV.out.2]
      have hd : decide (m < 9223372036854775808) = false := decide_eq_false hm
      clear h1 h2
      go_enter Tryz.func193, Tryz.ntmps193
      go_wp2
      go_ret2
      exact ⟨rfl, rfl⟩
end Go.Proofs.YtlbnlmhcpephbaaGreatDoor
namespace Go.Proofs.YtlbnlmhcpephbaaGreatDoor
open Go.RowKit
theorem log_any (a : Int) (w : World) (h1 : 0 ≤ a) (h2 : a < 18446744073709551616) :
    Calls Tryz.prog 158 #[.int .u64 a] w fun e w' => e = .returned (.tuple #[.int .i64 ((Lib.bitLen a.toNat : Int) - 1), .bool (a != 0)]) ∧ w = w' := by
  have hb : Lib.bitLen a.toNat ≤ 64 := Lib.bitLen_le _ 64 (by omega) (by have : a.toNat < 18446744073709551616 := by omega
                                                                         simpa using this)
  obtain ⟨k, HK⟩ : ∃ k : Nat, Hid (Lib.bitLen a.toNat = k) := ⟨_, rfl⟩
  rw [HK.out] at hb ⊢
  go_enter Tryz.func158, Tryz.ntmps158
  go_wp2_with fail
  refine (Tryz.bits_Len64 a w h1 (by omega)).mono ?_
  rintro e w1 ⟨rfl, hw⟩
  subst hw
  rw [HK.out]
  go_wp2
  go_ret2
  exact ⟨rfl, rfl⟩
end Go.Proofs.YtlbnlmhcpephbaaGreatDoor
namespace Go.Proofs.YtlbnlmhcpephbaaGreatDoor
open Go.RowKit
def gOf (d : Int) : Nat := if d = 1 then 4 else if d = 2 then 7 else if d = 3 then 10 else 14
structure SpanAt (w : World) (b : Nat) (d : Int) : Prop where
 at' : At w b #[.int .i64 d, .int .i64 (gOf d : Nat)] 210
 d1 : 1 ≤ d
 d4 : d ≤ 4
def logC (w : World) (b : Nat) : Nat := match w.cell? ⟨b, 1, none⟩ with
 | some (.int _ j) => j.toNat
 | _ => 0
def loI (g i : Nat) : Nat := qI g i * 2 ^ kI g i
def hiI (g i : Nat) : Nat := min (loI g i + (2 ^ kI g i - 1)) 9223372036854775808
def repI (g i : Nat) : Nat := loI g i + (hiI g i - loI g i) / 2
end Go.Proofs.YtlbnlmhcpephbaaGreatDoor

namespace Go.Proofs.YtlbnlmhcpephbaaGreatDoor
open Go.RowKit
def laidL : List (String × DataW Unit) := [("ogive/spans.tens", Rows.laid_ogive_spans_tens)]
theorem gTens : Tryz.prog.globalNamed "ogive/spans.tens" = some 0 := by kernel_rfl
theorem tTens : (Tryz.prog.globals[0]?).map (·.type) = some 211 := by kernel_rfl
theorem cellsTens : Tryz.prog.cellsOf 211 = 5 := by kernel_rfl
theorem cellsU64 : Tryz.prog.cellsOf 23 = 1 := by kernel_rfl
theorem tens_of_laid {W : World} (h : laidMetH Tryz.prog laidL W) : TensAt W := by
 rw [MakeChecks.laidMetH_plain _ _ _ (by kernel_rfl)] at h
 have hT : Lib.TabIs Tryz.prog W "ogive/spans.tens" .u64 [1, 10, 100, 1000, 10000] := Lib.tabIs_of_head (rest := []) gTens tTens Tryz.underlying211 Tryz.underlying23 cellsU64 cellsTens h
 have c : ∀ (i : Nat) (z : Int), i < 5 → ([1, 10, 100, 1000, 10000] : List Int).getD i 0 = z → W.cell? ⟨0, i, none⟩ = some (.int .u64 z) := fun i z hi hz => by
  rw [← hz]; exact hT.cell gTens i hi
 have c0 := c 0 1 (by omega) rfl
 refine ⟨?_, c0, c 1 10 (by omega) rfl, c 2 100 (by omega) rfl, c 3 1000 (by omega) rfl, c 4 10000 (by omega) rfl⟩
 rcases Nat.lt_or_ge 0 W.heap.size with h | h
 ·exact h
 ·exfalso
  unfold World.cell? at c0
  simp [Array.getElem?_eq_none h] at c0
theorem door_met (os : Os) (args : Array Value) : laidMetH Tryz.prog laidL ((World.doorLaid Tryz.prog 400 os).forCall (fun _ _ => 0) ⟨#[], args, []⟩).memory :=
 laidMetH_of_parts3 (fuel := 8) (laidMet_of_run' 8 (by kernel_rfl) (by kernel_rfl)) (by kernel_rfl) (by kernel_rfl)
end Go.Proofs.YtlbnlmhcpephbaaGreatDoor

namespace Go.Proofs.YtlbnlmhcpephbaaGreatDoor
open Go.RowKit
theorem take_splice {α : Type} (l : List α) (o N : Nat) (cs : List α) (h : o + cs.length ≤ N) (hN : N ≤ l.length) : (l.take o ++ cs ++ l.drop (o + cs.length)).take N = splice (l.take N) o cs := by
 unfold splice
 apply List.ext_getElem?
 intro j
 simp only [List.getElem?_take, List.getElem?_append, List.getElem?_drop, List.length_take, List.length_append]
 have e1 : min o l.length = o := by omega
 have e2 : min N l.length = N := by omega
 have e3 : min o (min N l.length) = o := by omega
 have e4 : min o N = o := by omega
 simp only [e1, e2, e3, e4]
 by_cases a : j < o
 ·simp only [a, show j < o + cs.length by omega, show j < N by omega, if_true]
 ·by_cases b : j < o + cs.length
  ·simp only [a, b, show j < N by omega, show j - o < cs.length by omega, if_true, if_false]
  ·simp only [a, b, show ¬ j - o < cs.length by omega, if_false]
   rw [show o + cs.length + (j - (o + cs.length)) = j by omega, show o + cs.length + (j - o - cs.length) = j by omega]
section
variable {P : Program} (w : World)
theorem own_setRow {base elem k g n cap : Nat} {xs : List Value} (hown : w.ownsRow base elem k (.slice (some ⟨g, 0, none⟩) n cap) n xs) :
  ∃ cur : Array Value, w.heap[g]? = some (.cells cur elem (0, 0)) ∧ cur.size = cap * k ∧ n ≤ cap ∧ cur.toList.take (n * k) = xs ∧
   ∀ (o N : Nat) (cs : List Value), N ≤ cap → o + cs.length ≤ cap * k → (w.setRow g (cur.toList.take o ++ cs ++ cur.toList.drop (o + cs.length)).toArray).ownsRow base elem k (.slice (some ⟨g, 0, none⟩) N cap) N ((cur.toList.take o ++ cs ++ cur.toList.drop (o + cs.length)).take (N * k)) ∧
    w.grownBy (w.setRow g (cur.toList.take o ++ cs ++ cur.toList.drop (o + cs.length)).toArray) (some g) := by
 rcases hown.2 with ⟨h, _⟩ | ⟨g', cap', cur, h, hbg, hg, hnc, hcm, hcs, htake⟩
 ·simp at h
 ·simp only [Value.slice.injEq, Option.some.injEq, Addr.mk.injEq, and_true, true_and] at h
  obtain ⟨rfl, rfl⟩ := h
  refine ⟨cur, hg, hcs, hnc, htake, fun o N cs hN hfit => ⟨⟨?_, .inr ⟨g, cap, _, rfl, hbg, setRow_heap w g cur _ elem _ hg, hN, hcm, ?_, rfl⟩⟩, ⟨rfl, rfl, rfl, by simp [World.setRow], fun j _ hj => setRow_other w g j _ (fun e => hj (by simp [e]))⟩⟩⟩
  ·have hNk : N * k ≤ cap * k := Nat.mul_le_mul_right _ hN
   simp only [List.length_take, List.length_append, List.length_drop, Array.length_toList]
   omega
  ·simp only [List.size_toArray, List.length_append, List.length_take, List.length_drop, Array.length_toList]
   omega
theorem run_copy_in (base : Nat) (dT sT ty elem : TypeId) (k : Nat) (hu : P.underlying dT = some (.slice elem)) (hs : (P.info? elem).map (·.size) = some k)
    (g n cap : Nat) (xs : List Value) (hown : w.ownsRow base elem k (.slice (some ⟨g, 0, none⟩) n cap) n xs)
    (o dLen dCap : Nat) (a : Addr) (sLen sCap m : Nat) (cs : List Value) (hm : Nat.min sLen dLen = m) (hn : cs.length = m * k) (hsrc : ∀ j v, cs[j]? = some v → w.cell? (a.add j) = some v)
    (hfit : o + cs.length ≤ n * k) (h1 : ∀ v ∈ cs, v.oneCell' = true) :
    ∃ w', (Builtin.copy_ #[dT, sT] ty #[.slice (some ⟨g, o, none⟩) dLen dCap, .slice (some a) sLen sCap]).run P w = .ok (goInt m) w' ∧
      w'.ownsRow base elem k (.slice (some ⟨g, 0, none⟩) n cap) n (splice xs o cs) ∧ w.grownBy w' (some g) := by
  obtain ⟨cur, hg, hcs, hnc, htake, hset⟩ := own_setRow w hown
  have hnk : n * k ≤ cap * k := Nat.mul_le_mul_right _ hnc
  obtain ⟨q1, q2⟩ := hset o n cs hnc (by omega)
  rw [take_splice _ _ _ _ hfit (by rw [Array.length_toList]; omega), htake] at q1
  refine ⟨_, ?_, q1, q2⟩
  have hl := run_firstCells_some (P := P) w k m a sLen sCap cs hn hsrc
  have hst := run_storeCells_at P g o elem cs 0 cur w hg (by omega) h1
  cases hq : P.info? elem with
  | none => simp [hq] at hs
  | some i =>
    have hi : i.size = k := by simpa [hq] using hs
    simp [Builtin.copy_, run_underlying hu, Builtin.lenOf, sizeOf, typeInfo, hq, hi, hm, hl, hst]
theorem zeroCells_length (z : Array Value) (n : Nat) : (Builtin.zeroCells z n).size = n * z.size := by simp [Builtin.zeroCells]
theorem zeroCells_mem {z : Array Value} {n : Nat} {v : Value} (h : v ∈ (Builtin.zeroCells z n).toList) (hz : ∀ u ∈ z.toList, u.oneCell' = true) : v.oneCell' = true := by
 simp only [Builtin.zeroCells, Array.toList_map, List.mem_map] at h
 obtain ⟨i, hi, rfl⟩ := h
 simp only [Array.toList_range, List.mem_range] at hi
 have h0 : 0 < z.size := by
  rcases Nat.eq_zero_or_pos z.size with h | h
  ·rw [h, Nat.mul_zero] at hi; omega
  ·exact h
 have hlt := Nat.mod_lt i h0
 rw [getElem!_pos z (i % z.size) hlt]
 exact hz _ (by simp)
theorem run_clear_spare (base : Nat) (t ty elem : TypeId) (k : Nat) (z : Value) (hu : P.underlying t = some (.slice elem)) (hv : ∀ w, (zeroValue elem).run P w = .ok z w) (hzk : z.cells.size = k) (h1 : ∀ u ∈ z.cells.toList, u.oneCell' = true)
  (g n cap : Nat) (xs : List Value) (hown : w.ownsRow base elem k (.slice (some ⟨g, 0, none⟩) n cap) n xs) (o m c : Nat) (ho : o = n * k) (hm : n + m ≤ cap) (hm0 : 0 < m) :
  ∃ w', (Builtin.clear_ #[t] ty #[.slice (some ⟨g, o, none⟩) m c]).run P w = .ok (.tuple #[]) w' ∧ w'.ownsRow base elem k (.slice (some ⟨g, 0, none⟩) n cap) n xs ∧ w.grownBy w' (some g) := by
 subst ho
 obtain ⟨cur, hg, hcs, hnc, htake, hset⟩ := own_setRow w hown
 have hmk : n * k + m * k ≤ cap * k := by rw [← Nat.add_mul]; exact Nat.mul_le_mul_right _ hm
 have hzl : (Builtin.zeroCells z.cells m).toList.length = m * k := by rw [Array.length_toList, zeroCells_length, hzk]
 obtain ⟨q1, q2⟩ := hset (n * k) n (Builtin.zeroCells z.cells m).toList hnc (by rw [hzl]; exact hmk)
 have e : (cur.toList.take (n * k) ++ (Builtin.zeroCells z.cells m).toList ++ cur.toList.drop (n * k + (Builtin.zeroCells z.cells m).toList.length)).take (n * k) = xs := by
  rw [List.append_assoc, List.take_append_of_le_length (by rw [List.length_take, Array.length_toList]; omega), List.take_take, Nat.min_self, htake]
 rw [e] at q1
 refine ⟨_, ?_, q1, q2⟩
 have hst := run_storeCells_at P g (n * k) elem (Builtin.zeroCells z.cells m).toList 0 cur w hg (by rw [hzl]; omega) (fun v h => zeroCells_mem h h1)
 obtain ⟨m', rfl⟩ : ∃ m', m = m' + 1 := ⟨m - 1, by omega⟩
 simp only [Nat.add_zero] at hst
 simp [Builtin.clear_, run_underlying hu, hv, hst]
theorem run_append_zeros_grow (base : Nat) (t tn ty elem : TypeId) (i : TypeInfo) (z : Value) (k bytes : Nat) (kn kx : IntKind) (hu : P.underlying t = some (.slice elem)) (htn : P.underlying tn = some (.int kn)) (hi : P.info? elem = some i) (hz : i.zero = some z)
  (hsize : i.size = k) (hby : i.bytes = bytes) (hzs : z.cells.size = k) (hk0 : 0 < k) (A : Option Addr) (n cap m : Nat) (old : List Value) (hold : (Builtin.firstCells k n (.slice A n cap)).run P w.drew = .ok old.toArray w.drew) (hol : old.length = n * k)
  (hm0 : 0 < m) (hroom : cap < n + m) (hbytes : (n + m) * bytes ≤ 140737488355328) (h63 : n + m ≤ maxLen) (hb : base ≤ w.heap.size) (hby0 : 0 < bytes) :
  ∃ cap' w', (Builtin.append_ #[t, tn] ty #[.slice A n cap, .int kx m]).run P w = .ok (.slice (some ⟨w.heap.size, 0, none⟩) (n + m) cap') w' ∧
   w'.ownsRow base elem k (.slice (some ⟨w.heap.size, 0, none⟩) (n + m) cap') (n + m) (old ++ (Builtin.zeroCells z.cells m).toList) ∧ w.grownBy w' none := by
 subst hsize
 subst hby
 have h63' : (n : Int) + m ≤ 9223372036854775807 := by simp only [maxLen] at h63; omega
 have hw : IntKind.i64.wrap (m : Int) = m := by rw [IntKind.wrap_i64]; omega
 have hneg : ¬ ((m : Int) < 0) := by omega
 have hmb : m * i.bytes ≤ (n + m) * i.bytes := Nat.mul_le_mul_right _ (by omega)
 have h48i : ¬ (281474976710656 < (m : Int) * (i.bytes : Int)) := by
  rw [← Int.natCast_mul]
  omega
 have h48 : ¬ (281474976710656 < Builtin.nextslicecap (n + m) cap * i.bytes) := by
  have := growslice_fits hroom hbytes
  omega
 have hr2 : ¬ (n + m ≤ cap) := by omega
 have hm1 : m ≠ 0 := by omega
 have hns : ¬ (m * i.size = 0) := Nat.mul_ne_zero hm1 (by omega)
 have hge := grownCap_ge w (n + m) cap elem
 have hle := grownCap_le_maxLen w (n + m) cap elem h63
 have hrun : (Builtin.append_ #[t, tn] ty #[.slice A n cap, .int kx m]).run P w =
   .ok (.slice (some ⟨w.heap.size, 0, none⟩) (n + m) (grownCap w (n + m) cap elem)) (w.drew.alloc (.cells (old.toArray ++ Builtin.zeroCells z.cells m ++ Builtin.zeroCells z.cells (grownCap w (n + m) cap elem - (n + m))) elem)) := by
  have h63i : ¬ (9223372036854775807 < (n : Int) + m) := by omega
  simp [Builtin.append_, run_underlying hu, run_underlying htn, sizeOf, typeInfo, zeroValue, hi, hz, asInt, asIntOf, hw, hneg, hns, hm1, hr2, h63i, h48, h48i, Question.forced, newRow, grownCap, hold]
 have hzl : (Builtin.zeroCells z.cells m).toList.length = m * i.size := by rw [Array.length_toList, zeroCells_length, hzs]
 refine ⟨_, _, hrun, ⟨?_, .inr ⟨w.heap.size, _, _, rfl, hb, heap_alloc_new w.drew _, hge, hle, ?_, ?_⟩⟩, ⟨rfl, rfl, rfl, by simp, fun j hj _ => by first | exact heap_alloc_old w.drew _ j hj | exact heap_alloc_old w.drew _ hj⟩⟩
 ·rw [List.length_append, hol, hzl, Nat.add_mul]
 ·rw [Array.size_append, Array.size_append, zeroCells_length, zeroCells_length, hzs, List.size_toArray, hol, ← Nat.add_mul, ← Nat.add_mul]
  congr 1
  omega
 ·have hlen : (old ++ (Builtin.zeroCells z.cells m).toList).length = (n + m) * i.size := by rw [List.length_append, hol, hzl, Nat.add_mul]
  rw [Array.toList_append, Array.toList_append, ← hlen]
  exact List.take_left
theorem wp_copy_run {o : Oper} {a : Act} {K : Act → World → Prop} {Q : Exit → Act → World → Prop} (d s : Operand) (t t' : TypeId)
  (ho : o.op = .call { callee := .builtin .copy, args := #[d, s], argTypes := #[t, t'] }) (v u : Value) (hd : a.eval d = v) (hs : a.eval s = u) {v' : Value} {w' : World}
  (hr : (Builtin.copy_ #[t, t'] o.type #[v, u]).run P w = .ok v' w') (h : K (a.put o.dst v') w') : o.wp P a w K Q := by
 unfold Oper.wp execOp
 simp only [ho, resolve, invoke, builtin, Sem.run_bind, Sem.run_pure, Result.andThen_ok, List.map_toArray, List.map_cons, List.map_nil, hd, hs, hr]
 exact h
end
theorem ite_of {c : Prop} [Decidable c] {A B : Prop} (h : c) (a : A) : if c then A else B := by rw [if_pos h]; exact a
end Go.Proofs.YtlbnlmhcpephbaaGreatDoor

namespace Go.Proofs.YtlbnlmhcpephbaaGreatDoor
open Go.RowKit
theorem mu_ex {p : Nat → Prop} (h : ∃ n, p n) : ∃ n, p n ∧ ∀ m, p m → n ≤ m := by
  obtain ⟨n, h⟩ := h
  induction n using Nat.strongRecOn with
  | _ n ih =>
    by_cases k : ∃ m, m < n ∧ p m
    · obtain ⟨m, a, b⟩ := k; exact ih m a b
    · exact ⟨n, h, fun m hm => Nat.le_of_not_lt fun l => k ⟨m, l, hm⟩⟩
open Classical in
noncomputable def mu (p : Nat → Prop) : Nat := if h : ∃ n, p n then (mu_ex h).choose else 0
theorem mu_spec {p : Nat → Prop} (h : ∃ n, p n) : p (mu p) := by unfold mu; rw [dif_pos h]; exact (mu_ex h).choose_spec.1
theorem mu_le {p : Nat → Prop} {n : Nat} (h : p n) : mu p ≤ n := by have k : ∃ n, p n := ⟨n, h⟩; unfold mu; rw [dif_pos k]; exact (mu_ex k).choose_spec.2 n h
def blk : Option Addr → List Nat
 | none => []
 | some g => [g.block]
section
variable {w w' : World} {A : Option Addr} {n c g : Nat}
theorem frame_grown (hg : w.grownBy w' (Value.slice A n c).ownBlock) : Frame (blk A) w w' :=
 ⟨hg.os, hg.tape, hg.output, hg.size, fun k hk hn => hg.block k hk (fun e => by
  cases A with
  | none => simp [Value.ownBlock] at e
  | some g => simp only [Value.ownBlock, Option.some.injEq] at e; subst e; exact hn (by simp [blk]))⟩
theorem frame_some (hg : w.grownBy w' (some g)) : Frame [g] w w' :=
 ⟨hg.os, hg.tape, hg.output, hg.size, fun k hk hn => hg.block k hk (fun e => by cases e; exact hn (by simp))⟩
theorem _root_.Go.Proofs.YtlbnlmhcpephbaaGreatDoor.Frame.of_drew {S : List Nat} {w w' : World} (h : Frame S w.drew w') : Frame S w w' := ⟨h.os, h.tape, h.output, h.size, h.block⟩
theorem frame_none (hg : w.grownBy w' none) : Frame [] w w' := ⟨hg.os, hg.tape, hg.output, hg.size, fun k hk _ => hg.block k hk (fun e => by cases e)⟩
end
structure Ty where
 S : TypeId
 T : TypeId
 k : Nat
 b : Nat
 z : Value
structure Ty.Ok (t : Ty) : Prop where
 u : Tryz.prog.underlying t.S = some (.slice t.T)
 i : (Tryz.prog.info? t.T).map (fun i => (i.zero, i.size, i.bytes)) = some (some t.z, t.k, t.b)
 c : t.z.cells.size = t.k
 o : (t.z.cells.toList.all fun u => u.oneCell') = true
 q : 0 < t.k ∧ t.b ≤ 64
 b0 : 0 < t.b
theorem Ty.Ok.get {t : Ty} (h : t.Ok) : ∃ i, Tryz.prog.info? t.T = some i ∧ i.zero = some t.z ∧ i.size = t.k ∧ i.bytes = t.b := by
  have := h.i
  cases hh : Tryz.prog.info? t.T with
  | none => rw [hh] at this; cases this
  | some i =>
    rw [hh] at this
    simp only [Option.map_some, Option.some.injEq, Prod.mk.injEq] at this
    exact ⟨i, rfl, this⟩
theorem Ty.Ok.size {t : Ty} (h : t.Ok) : (Tryz.prog.info? t.T).map (·.size) = some t.k := by
 obtain ⟨i, hi, _, h2, _⟩ := h.get
 rw [hi]; simp [h2]
theorem run_append_none_any {P : Program} {w : World} {base : Nat} {e : TypeId} {size : Nat} (t ty : TypeId) (i : TypeInfo) (c : Nat) (ht : P.underlying t = some (.slice e)) (hi : P.info? e = some i)
  (v : Value) (n : Nat) (xs : List Value) (hown : w.ownsRow base e size v n xs) : (Builtin.append_ #[t, t] ty #[v, .slice none 0 c]).run P w = .ok v w := by
 rcases hown.2 with ⟨rfl, rfl⟩ | ⟨g, cap, cur, rfl, _, _, hnc, _⟩
 ·simp [Builtin.append_, run_underlying ht, sizeOf, typeInfo, hi, Builtin.lenOf, Builtin.firstCells]
 ·simp [Builtin.append_, run_underlying ht, sizeOf, typeInfo, hi, Builtin.lenOf, Builtin.firstCells, hnc, storeCells]
section
variable {t : Ty} {base n m c cy : Nat} {A Y : Option Addr} {xs ys : List Value} {w : World}
theorem own_blk {e : TypeId} {k : Nat} (h : w.ownsRow base e k (.slice A n c) n xs) : ∀ k ∈ blk A, base ≤ k ∧ k < w.heap.size := fun k hk => by
 cases A with
 | none => simp [blk] at hk
 | some a => simp only [blk, List.mem_singleton] at hk; subst hk; exact World.ownsRow.lt h _ rfl
theorem own_nil {e : TypeId} {k : Nat} (h : w.ownsRow base e k (.slice A n c) n xs) : n ≤ c ∧ (A = none → n = 0 ∧ c = 0) ∧ (n ≠ 0 ∨ A ≠ none → ∃ g, A = some ⟨g, 0, none⟩) := by
 rcases h.2 with ⟨e, rfl⟩ | ⟨g, _, _, e, _, _, a, _⟩
 ·simp only [Value.slice.injEq] at e; obtain ⟨rfl, _, rfl⟩ := e; simp
 ·simp only [Value.slice.injEq] at e; obtain ⟨rfl, _, rfl⟩ := e; simp [a]
theorem run_app_g (T : t.Ok) (h : w.ownsRow base t.T t.k (.slice A n c) n xs) (hm : ys.length = m * t.k) (hY : Rd w Y ys) (h0 : Y = none → m = 0) (h1 : ∀ u ∈ ys, u.oneCell' = true) (hl : n + m ≤ 1099511627776) (hb : base ≤ w.heap.size) :
    ∃ A' c' w', (Builtin.append_ #[t.S, t.S] t.S #[.slice A n c, .slice Y m cy]).run Tryz.prog w = .ok (.slice A' (n + m) c') w' ∧ w'.ownsRow base t.T t.k (.slice A' (n + m) c') (n + m) (xs ++ ys) ∧ Frame (blk A) w w' ∧ ∀ k ∈ blk A', k ∈ blk A ∨ w.heap.size ≤ k := by
  obtain ⟨i, hi, hz, hs, hby⟩ := T.get
  cases Y with
  | none =>
    obtain rfl := h0 rfl
    obtain rfl : ys = [] := List.eq_nil_of_length_eq_zero (by simpa using hm)
    exact ⟨A, c, w, run_append_none_any _ _ i cy T.u hi _ n xs h, by simpa using h, Frame.refl _ _, fun k h => .inl h⟩
  | some a =>
    obtain ⟨v', w', hr, ho, hg, _, hB⟩ := run_append_own_at (P := Tryz.prog) w base t.S t.S _ i _ t.k t.b T.u hi hz hs hby T.c T.q.1 _ n xs h a m cy ys hm (fun j u hj => by obtain ⟨g, o, e, _, hc⟩ := hY j u hj; cases e; rw [Addr.add_lit]; exact hc) h1 (by simp only [maxLen]; omega) (by have := Nat.mul_le_mul_left (n + m) T.q.2; omega) hb
    rcases ho.2 with ⟨rfl, e⟩ | ⟨g, cp, cur, rfl, r⟩
    · exact ⟨none, 0, w', by rw [hr, e], by rw [e] at ho ⊢; exact ho, frame_grown hg, fun k hk => by simp [blk] at hk⟩
    · refine ⟨_, cp, w', hr, ho, frame_grown hg, fun k hk => ?_⟩
      simp only [blk, List.mem_singleton] at hk
      subst hk
      simp only [Value.ownBlock] at hB
      rcases hB with hB | hB
      · cases A with
        | none => simp at hB
        | some a => simp only [Option.some.injEq] at hB; exact .inl (by simp [blk, hB])
      · simp only [Option.some.injEq] at hB
        exact .inr (by omega)
end
section
variable {α : Type} {f : α → List Value} {k : Nat} (hf : ∀ x, (f x).length = k)
include hf
theorem flat_len : ∀ xs : List α, (xs.flatMap f).length = xs.length * k
 | [] => by simp
 | x :: xs => by rw [List.flatMap_cons, List.length_append, flat_len xs, hf, List.length_cons, Nat.succ_mul, Nat.add_comm]
theorem flat_cut (xs : List α) (i : Nat) : (xs.flatMap f).take (i * k) = (xs.take i).flatMap f ∧ (xs.flatMap f).drop (i * k) = (xs.drop i).flatMap f := by
 have h : xs.flatMap f = (xs.take i).flatMap f ++ (xs.drop i).flatMap f := by rw [← List.flatMap_append, List.take_append_drop]
 by_cases hi : i ≤ xs.length
 ·have l : ((xs.take i).flatMap f).length = i * k := by rw [flat_len hf, List.length_take, Nat.min_eq_left hi]
  rw [h, ← l]
  exact ⟨List.take_left, List.drop_left⟩
 ·have l : (xs.flatMap f).length ≤ i * k := by rw [flat_len hf]; exact Nat.mul_le_mul_right _ (by omega)
  rw [List.take_of_length_le l, List.take_of_length_le (by omega), List.drop_of_length_le l, List.drop_of_length_le (by omega)]
  exact ⟨rfl, rfl⟩
theorem flat_set {y : α} {v : Value} {d : Nat} (hd : d < k) : ∀ (xs : List α) (i : Nat) (h : i < xs.length), f y = (f xs[i]).set d v → (xs.set i y).flatMap f = (xs.flatMap f).set (i * k + d) v
  | x :: xs, 0, h, e => by simp at e; simp [e, List.set_append, hf, hd]
  | x :: xs, i + 1, h, e => by
    have := flat_set hd xs i (by simpa using h) (by simpa using e)
    rw [List.set_cons_succ, List.flatMap_cons, List.flatMap_cons, this, List.set_append, hf, if_neg (by rw [Nat.succ_mul]; omega), show (i + 1) * k + d - k = i * k + d by rw [Nat.succ_mul]; omega]
end
section
variable {α : Type} {f g k : α → Value} {xs : List α} {w w' : World} {A : Option Addr} {n c base : Nat} {T : List Nat}
theorem Rd.at3 (h : Rd w A (xs.flatMap fun x => [f x, g x, k x])) {j : Nat} (hj : j < xs.length) :
  ∃ G o, A = some ⟨G, o, none⟩ ∧ G < w.heap.size ∧ w.cell? ⟨G, o + j * 3, none⟩ = some (f xs[j]) ∧ w.cell? ⟨G, o + j * 3 + 1, none⟩ = some (g xs[j]) ∧ w.cell? ⟨G, o + j * 3 + 2, none⟩ = some (k xs[j]) := by
 obtain ⟨q0, q1, q2⟩ := flat3 (f := f) (g := g) (k := k) xs j hj
 obtain ⟨G, o, rfl, hg, h0⟩ := h _ _ q0
 obtain ⟨_, _, e, _, h1⟩ := h _ _ q1
 cases e
 obtain ⟨_, _, e, _, h2⟩ := h _ _ q2
 cases e
 exact ⟨G, o, rfl, hg, h0, by rw [Nat.add_assoc]; exact h1, by rw [Nat.add_assoc]; exact h2⟩
variable {e : TypeId} {k : Nat} {xs : List Value}
theorem own_rd (h : w.ownsRow base e k (.slice A n c) n xs) : Rd w A xs := fun j u hj => by
 rcases h.2 with ⟨_, rfl⟩ | ⟨g, c, cur, e, hg, hc, r⟩
 ·have := h.1; simp at this; subst this; cases hj
 ·injection e with e1
  subst e1
  have := World.ownsRow.cells h (g := g) rfl j u hj
  exact ⟨g, 0, rfl, (Array.getElem?_eq_some_iff.1 hc).1, by rwa [Addr.add_lit] at this⟩
theorem own_frame (h : w.ownsRow base e k (.slice A n c) n xs) (hf : Frame T w w') (hn : ∀ k ∈ blk A, k ∉ T) : w'.ownsRow base e k (.slice A n c) n xs :=
 ⟨h.1, h.2.imp id fun ⟨g, c, cur, e, a, b, d⟩ => ⟨g, c, cur, e, a, (hf.block g (Array.getElem?_eq_some_iff.1 b).1 (hn g (by simp only [Value.slice.injEq] at e; rw [e.1]; simp [blk]))).trans b, d⟩⟩
theorem own_frz {g : Nat} (h : w.ownsRow base e k (.slice (some ⟨g, 0, none⟩) n c) n xs) (i : Nat) : w.frozen? ⟨g, i, none⟩ = false := by
 rcases h.2 with ⟨e, _⟩ | ⟨_, _, _, e, _, hc, _⟩
 ·cases e
 ·simp only [Value.slice.injEq, Option.some.injEq, Addr.mk.injEq] at e
  obtain ⟨⟨rfl, _⟩, _⟩ := e
  simp [World.frozen?, hc]
end
theorem own_setCell {base k elem g n cap o : Nat} {xs : List Value} {w : World} (h : w.ownsRow base elem k (.slice (some ⟨g, 0, none⟩) n cap) n xs) (ho : o < n * k) (v : Value) :
  (w.setCell ⟨g, o, none⟩ v).ownsRow base elem k (.slice (some ⟨g, 0, none⟩) n cap) n (xs.set o v) := by
 have hl := h.1
 rcases h.2 with ⟨h, _⟩ | ⟨g', cap', cur, h, hbg, hg, hnc, hcm, hcs, htake⟩
 ·simp at h
 ·simp only [Value.slice.injEq, Option.some.injEq, Addr.mk.injEq, and_true, true_and] at h
  obtain ⟨rfl, rfl⟩ := h
  rw [setCell_eq_setRow w g o cur elem (0, 0) v hg]
  refine ⟨by rw [List.length_set]; exact hl, .inr ⟨g, cap, _, rfl, hbg, setRow_heap w g cur _ elem _ hg, hnc, hcm, by simpa using hcs, ?_⟩⟩
  rw [Array.toList_setIfInBounds, ← htake]
  apply List.ext_getElem?
  intro j
  simp only [List.getElem?_take, List.getElem?_set, List.length_take, Array.length_toList]
  have hnk : n * k ≤ cap * k := Nat.mul_le_mul_right _ hnc
  by_cases e : o = j
  ·subst e
   simp only [ho, if_true]
   rw [Nat.min_eq_left (by omega)]
   simp [ho]
   omega
  ·simp [e]
end Go.Proofs.YtlbnlmhcpephbaaGreatDoor

namespace Go.Proofs.YtlbnlmhcpephbaaGreatDoor
open Go.RowKit
theorem HeldS.ne {H : World → Prop} {w : World} (h : HeldS H w) : Nonempty (Held H) := ⟨h.choose⟩
theorem HeldS.get {H : World → Prop} {w : World} (_ : HeldS H w) (x : Held H) : H x.far := x.held
theorem heldT (w : World) : Nonempty (Held fun _ => True) := ⟨⟨w, trivial⟩⟩
theorem until_h {P : Program} {ops : Array Oper} {Q : Exit → Act → World → Prop} {S : World → Prop} (late : Nat) {id : Nat} {a : Act} {w : World} (hm : P.follows .mixedOrders = true) (hS : S w.drew)
  (h : S w.drew → wpAnyU P .any ops (NoPanic Q) S late ops.size (Array.replicate ops.size false) a w.drew) : (Code.region id ops true).wp P Q a w := wp_region_noPanic (wp_region_until late hm (h hS))
theorem held_h {P : Program} {ops : Array Oper} {Q : Exit → Act → World → Prop} {S : World → Prop} {id : Nat} {a : Act} {w : World} (hm : P.follows .mixedOrders = true) (hS : S w.drew)
  (h : S w.drew → wpAnyH P .any ops (NoPanic Q) S ops.size (Array.replicate ops.size false) a w.drew) : (Code.region id ops true).wp P Q a w := wp_region_noPanic (wp_region_held_drew hm hS h)
end Go.Proofs.YtlbnlmhcpephbaaGreatDoor

namespace Go.Proofs.YtlbnlmhcpephbaaGreatDoor
open Go.RowKit
theorem bc {P : Program} {f : FuncId} {a : Array Value} {w W : World} {v : Value} {R : Ending → World → Prop} (hb : Below w.heap.size w W) (h : Calls P f a W fun e W' => e = .returned v ∧ Below W.heap.size W W') (k : ∀ W', Below w.heap.size w W' → R (.returned v) W') : Calls P f a W R := h.mono fun _ W' ⟨e, hh⟩ => e ▸ k W' (keep1 hb hh)
theorem bn (w : World) (o : Obj) : Below w.heap.size w (w.alloc o) := (Below.refl _ w).alloc (Nat.le_refl _) o
structure Mv (S S' : List Nat) (w w' : World) : Prop where
 g : GrownS S S' w.heap.size
 f : Frame S w w'
section
variable {S S' S2 T : List Nat} {w w' w2 : World}
theorem Mv.of (S : List Nat) (h : Below w.heap.size w w') : Mv S S w w' := ⟨GrownS.refl _ _, Frame.of_below h⟩
theorem Mv.trans (h : Mv S S' w w') (k : Mv S' S2 w' w2) : Mv S S2 w w2 := by
 have z := h.f.size
 refine ⟨fun j hj => ?_, ⟨k.f.os.trans h.f.os, k.f.tape.trans h.f.tape, k.f.output.trans h.f.output, Nat.le_trans z k.f.size, fun i hi hn => ?_⟩⟩
 ·rcases k.g j hj with a | a
  ·exact h.g j a
  ·omega
 ·rw [k.f.block i (by omega) fun hm => (h.g i hm).elim hn (by omega), h.f.block i hi hn]
theorem Mv.cons (b : Nat) (h : Mv S S' w w') : Mv (b :: S) (b :: S') w w' :=
 ⟨fun j hj => by rcases List.mem_cons.1 hj with rfl | a; simp; rcases h.g j a with a | a <;> simp [a], h.f.mono fun k hk => by simp [hk]⟩
theorem Mv.ge {n : Nat} (h : Mv S S' w w') (hs : ∀ k ∈ S, n ≤ k) (hz : n ≤ w.heap.size) : ∀ k ∈ S', n ≤ k := fun k hk => (h.g k hk).elim (hs k) (by omega)
def RdA (w : World) (A : Option Addr) (cs : List Value) (S : List Nat) : Prop := Rd w A cs ∧ ∀ a, A = some a → cs ≠ [] → a.block < w.heap.size ∧ a.block ∉ S
theorem RdA.mv {A : Option Addr} {cs : List Value} (h : RdA w A cs S) (m : Mv S S' w w') : RdA w' A cs S' := by
 by_cases e : cs = []
 ·exact ⟨e ▸ Rd.nil _ _, fun a _ k => absurd e k⟩
 exact ⟨m.f.rd h.1 fun a e' => (h.2 a e' e).2, fun a e' _ => ⟨Nat.lt_of_lt_of_le (h.2 a e' e).1 m.f.size, fun k => (m.g _ k).elim (h.2 a e' e).2 fun z => by have := (h.2 a e' e).1; omega⟩⟩
theorem RdA.new {A : Option Addr} {cs : List Value} (h : Rd w A cs) (hb : Below w.heap.size w w') (hs : ∀ k ∈ S, w.heap.size ≤ k) : RdA w' A cs S := ⟨h.below hb, fun a e k => by
  cases cs with
  | nil => exact absurd rfl k
  | cons x l =>
    obtain ⟨g, o, e', hg, _⟩ := h 0 x rfl
    rw [e] at e'
    cases e'
    exact ⟨Nat.lt_of_lt_of_le hg hb.size, fun k => by have := hs _ k; dsimp only at *; omega⟩⟩
end
theorem At.c6 {w : World} {b : Nat} {T : TypeId} {v0 v1 v2 v3 v4 v5 : Value} (h : At w b #[v0, v1, v2, v3, v4, v5] T) : w.cell? ⟨b, 0, none⟩ = some v0 ∧ w.cell? ⟨b, 1, none⟩ = some v1 ∧ w.cell? ⟨b, 2, none⟩ = some v2 ∧ w.cell? ⟨b, 3, none⟩ = some v3 ∧ w.cell? ⟨b, 4, none⟩ = some v4 ∧ w.cell? ⟨b, 5, none⟩ = some v5 ∧ ∀ i, w.frozen? ⟨b, i, none⟩ = false := ⟨h.cell rfl, h.cell rfl, h.cell rfl, h.cell rfl, h.cell rfl, h.cell rfl, h.frozen⟩
theorem far_eq {P : Program} {f : FuncId} {args : Array Value} {w : World} {x : Far w} {v : Value}
  (h : Calls P f args x.far fun e w' => e = .returned v ∧ x.far = w') : Calls P f args x.far fun e w'' => e = .returned v ∧ ∃ y : Far w, w'' = y.far :=
 h.mono fun _ _ ⟨he, hB⟩ => ⟨he, x, hB.symm⟩
def lowE (t lo x : Int) : Int := if t = 0 then x else min lo x
def highE (t hi x : Int) : Int := if t = 0 then x else max hi x
def CellW (b i : Nat) (v : Value) (W : World) : Prop := W.cell? ⟨b, i, none⟩ = some v
theorem CellW.c {b i : Nat} {v : Value} {W : World} (h : CellW b i v W) : W.cell? ⟨b, i, none⟩ = some v := h
structure At2 (b : Nat) (cs : Array Value) (T : TypeId) (d : Nat) (ds : Array Value) (U : TypeId) (W : World) : Prop where
 a : At W b cs T
 b : At W d ds U
theorem At2.below {b d : Nat} {cs ds : Array Value} {T U : TypeId} {W W' : World} (h : At2 b cs T d ds U W) (hb : Below W.heap.size W W') : At2 b cs T d ds U W' := ⟨h.a.below hb, h.b.below hb⟩
theorem At2.frame {b d : Nat} {cs ds : Array Value} {T U : TypeId} {W W' : World} {S : List Nat} (h : At2 b cs T d ds U W) (hf : Frame S W W') (h1 : b ∉ S) (h2 : d ∉ S) : At2 b cs T d ds U W' := ⟨hf.at h.a h1, hf.at h.b h2⟩
theorem wp_scope_head {P : Program} {Q : Exit → Act → World → Prop} {a : Act} {w : World} {rest : Code} {l : Nat} (J : Act → World → Prop) (μ : Act → World → Nat) (hJ : J a w)
  (pass : ∀ a w, J a w → rest.wp P (Exit.jump l (fun a' w' => J a' w' ∧ μ a' w' < μ a w) Q) a w) : (Code.scope ((Code.label l).seq rest)).wp P Q a w :=
 wp_scope_jumps l J μ (rest := .seq .skip rest) (by simp [findLabel]) (wp_seq (wp_label (Code.wp_mono (fun e a w q => by
  cases e with
  | goto l' => exact ⟨q.1, q.2.1⟩
  | _ => exact q) (pass a w hJ)))) fun a w h => wp_seq (wp_skip (pass a w h))
def Curry : Nat → (List Value → Prop) → Prop
 | 0, C => C []
 | n + 1, C => ∀ u, Curry n fun l => C (u :: l)
theorem curry_elim : ∀ {n : Nat} {C : List Value → Prop}, Curry n C → ∀ l : List Value, l.length = n → C l
 | 0, _, h, [], _ => h
 | n + 1, _, h, u :: l, hl => curry_elim (h u) l (by simpa using hl)
theorem own_rda {w : World} {e : TypeId} {k m c n : Nat} {A : Option Addr} {xs : List Value} {S : List Nat} (h : w.ownsRow n e k (.slice A m c) m xs) (hl : ∀ q ∈ S, q < n) : RdA w A xs S :=
 ⟨own_rd h, fun a e _ => by have := own_blk h a.block (by rw [e]; simp [blk]); exact ⟨this.2, fun k => by have := hl _ k; omega⟩⟩
theorem opwp_run {P : Program} {o : Oper} {a : Act} {w w' : World} {K : Act → World → Prop} {Q : Exit → Act → World → Prop} (s x : Operand) (t tn : TypeId) (ho : o.op = .call { callee := .builtin .append, args := #[s, x], argTypes := #[t, tn] }) (vs vx v' : Value) (hs : a.eval s = vs) (hx : a.eval x = vx)
  (hr : (Builtin.append_ #[t, tn] o.type #[vs, vx]).run P w = .ok v' w') (d : Nat) (hd : o.dst = some d) (k : K ⟨a.tmps.setIfInBounds d v', a.defers⟩ w') : Oper.wp P o a w K Q :=
 Lib.wp_append_run w s x t tn ho vs vx hs hx v' w' hr (by rw [hd]; exact k)
end Go.Proofs.YtlbnlmhcpephbaaGreatDoor

namespace Go.Proofs.YtlbnlmhcpephbaaGreatDoor
open Go.RowKit
def plusF : Int → List Int → Option Int
 | n, [] => some n
 | n, a :: l => if n + a ≤ 9223372036854775807 then plusF (n + a) l else none
def plusV (o : Option Int) : Value := .tuple #[.int .u64 (o.getD 0), .bool o.isSome]
theorem plus_any (A : Option Addr) (len cap : Nat) (xs : List Int) (w : World) (hl : xs.length = len) (hm : len ≤ 9223372036854775807)
  (hx : ∀ x ∈ xs, 0 ≤ x ∧ x < 18446744073709551616)
  (hc : ∀ j, j < len → ∃ ad, A = some ad ∧ w.cell? (ad.add j) = some (.int .u64 (xs.getD j 0))) :
  Calls Tryz.prog 102 #[.slice A len cap] w fun e w' => e = .returned (plusV (plusF 0 xs)) ∧ w = w' := by
 go_enter Tryz.func102, Tryz.ntmps102
 go_wp2
 go_loop [4, 9] (fun n i => ∃ k : Nat, ∃ m : Int, k ≤ len ∧ 0 ≤ m ∧ m ≤ 9223372036854775807 ∧ n = .int .u64 m ∧ i = .int .i64 k ∧ Hid (plusF 0 xs = plusF m (xs.drop k))) (fun _ i => len - (intOf i).toNat)
 case atStart => exact ⟨0, 0, by omega, by omega, by omega, rfl, rfl, rfl⟩
 case round =>
  obtain ⟨k, m, hk, hm0, hm', rfl, rfl, HF⟩ := hrel
  by_cases hlt : k < len
  ·obtain ⟨ad, rfl, hcell⟩ := hc k hlt
   have hb : 0 ≤ xs.getD k 0 ∧ xs.getD k 0 < 18446744073709551616 := by
    rw [List.getD_eq_getElem?_getD, List.getElem?_eq_getElem (by omega)]
    exact hx _ (List.getElem_mem _)
   have HD := Lib.hid (show xs.drop k = xs.getD k 0 :: xs.drop (k+1) by
    rw [List.getD_eq_getElem?_getD, List.getElem?_eq_getElem (by omega)]
    exact List.drop_eq_getElem_cons (by omega))
   clear hc hx
   obtain ⟨x, hxk⟩ : ∃ x : Int, xs.getD k 0 = x := ⟨_, rfl⟩
   rw [hxk] at hb hcell HD
   clear hxk
   obtain ⟨hb1, hb2⟩ := hb
   by_cases hs : m + x ≤ 9223372036854775807
   ·have hs' : ¬ 9223372036854775807 - m < x := by omega
    go_wp2
    go_round
    case rel => exact ⟨k + 1, m + x, by omega, by omega, hs, rfl, by go_num, by rw [HF.out, HD.out, plusF, if_pos hs]; rfl⟩
    case measure => simp [intOf]; omega
   ·have hs' : 9223372036854775807 - m < x := by omega
    go_wp2
    go_ret2
    rw [HF.out, HD.out, plusF, if_neg (by omega)]
    exact ⟨rfl, rfl⟩
  ·go_wp2
   go_ret2
   rw [HF.out, List.drop_eq_nil_of_le (by omega)]
   exact ⟨rfl, rfl⟩
def plus2Q (a b : Int) : Int := if a + b ≤ 9223372036854775807 then a + b else 0
def plus2Ok (a b : Int) : Bool := decide (a + b ≤ 9223372036854775807)
theorem plus2_yes {a b : Int} (h : a + b ≤ 9223372036854775807) : plus2Q a b = a + b ∧ plus2Ok a b = true := ⟨if_pos h, decide_eq_true h⟩
theorem plus2_no {a b : Int} (h : ¬ a + b ≤ 9223372036854775807) : plus2Q a b = 0 ∧ plus2Ok a b = false := ⟨if_neg h, decide_eq_false h⟩
theorem plus2_any (g : Nat) (a b : Int) (w : World) (ha : 0 ≤ a) (ha' : a < 18446744073709551616) (hb : 0 ≤ b) (hb' : b < 18446744073709551616)
  (h0 : w.cell? ⟨g, 0, none⟩ = some (.int .u64 a)) (h1 : w.cell? ⟨g, 1, none⟩ = some (.int .u64 b)) :
  Calls Tryz.prog 102 #[.slice (some ⟨g, 0, none⟩) 2 2] w fun e w' => e = .returned (.tuple #[.int .u64 (plus2Q a b), .bool (plus2Ok a b)]) ∧ w = w' := by
 refine (plus_any (some ⟨g, 0, none⟩) 2 2 [a, b] w rfl (by omega) (by intro x hx; simp at hx; omega) (fun j hj => ⟨_, rfl, ?_⟩)).mono ?_
 ·rcases (show j = 0 ∨ j = 1 by omega) with rfl | rfl
  ·simpa [Addr.add] using h0
  ·simpa [Addr.add] using h1
 ·rintro e w' ⟨rfl, rfl⟩
  refine ⟨?_, rfl⟩
  congr 1
  unfold plusV plus2Q plus2Ok plusF plusF plusF
  by_cases h : a + b ≤ 9223372036854775807
  ·rw [if_pos (by omega), if_pos (by omega), if_pos h, decide_eq_true h]; simp
  ·rw [if_neg h, decide_eq_false h]
   by_cases h' : 0 + a ≤ 9223372036854775807
   ·rw [if_pos h', if_neg (by omega)]; rfl
   ·rw [if_neg h']; rfl
end Go.Proofs.YtlbnlmhcpephbaaGreatDoor

namespace Go.Proofs.YtlbnlmhcpephbaaGreatDoor
open Go.RowKit
theorem plus2_new {a b : Int} {w w0 : World} (hb : Below w0.heap.size w0 w) (h0 : 0 ≤ a) (h1 : 0 ≤ b) (h : a + b ≤ 9223372036854775807) : Calls Tryz.prog 102 #[.slice (some ⟨w.heap.size, 0, none⟩) 2 2] (w.alloc (.cells #[.int .u64 a, .int .u64 b] 23)) fun e w' => e = .returned (.tuple #[.int .u64 (a + b), .bool true]) ∧ Below w0.heap.size w0 w' := by
 have s := At.new w #[.int .u64 a, .int .u64 b] 23
 refine (plus2_any w.heap.size a b _ h0 (by omega) h1 (by omega) (s.cell rfl) (s.cell rfl)).mono ?_
 rintro e w1 ⟨rfl, rfl⟩
 obtain ⟨p, q⟩ := plus2_yes h
 exact ⟨by rw [p, q], keep1 hb (bn _ _)⟩
end Go.Proofs.YtlbnlmhcpephbaaGreatDoor

namespace Go.Proofs.YtlbnlmhcpephbaaGreatDoor
open Go.RowKit
structure Cfg where
 kd : Int
 pn : Int
 pd : Int
 sd : Int
 mo : Int
 dg : Int
 li : Int
 de : Int
 fa : Int
 wi : Int
 wo : Int
def Cfg.row (c : Cfg) : Array Value := #[.int .i64 c.kd, .int .u64 c.pn, .int .u64 c.pd, .int .i64 c.sd, .int .i64 c.mo, .int .i64 c.dg, .int .u64 c.li, .int .i64 c.de, .int .i64 c.fa, .int .i64 c.wi, .int .u64 c.wo]
def Cfg.val (c : Cfg) : Value := .agg c.row
structure Cfg.Ok (c : Cfg) : Prop where
 pn : 0 ≤ c.pn ∧ c.pn < 18446744073709551616
 pd : 0 ≤ c.pd ∧ c.pd < 18446744073709551616
 sd : -9223372036854775808 ≤ c.sd ∧ c.sd ≤ 9223372036854775807
 mo : -9223372036854775808 ≤ c.mo ∧ c.mo ≤ 9223372036854775807
 dg : -9223372036854775808 ≤ c.dg ∧ c.dg ≤ 9223372036854775807
 li : 0 ≤ c.li ∧ c.li < 18446744073709551616
theorem At.el {w : World} {b : Nat} {T : TypeId} {v0 v1 v2 v3 v4 v5 v6 v7 v8 v9 v10 : Value} (h : At w b #[v0, v1, v2, v3, v4, v5, v6, v7, v8, v9, v10] T) :
  (w.cell? ⟨b, 0, none⟩ = some v0 ∧ w.cell? ⟨b, 1, none⟩ = some v1 ∧ w.cell? ⟨b, 2, none⟩ = some v2 ∧ w.cell? ⟨b, 3, none⟩ = some v3 ∧ w.cell? ⟨b, 4, none⟩ = some v4 ∧ w.cell? ⟨b, 5, none⟩ = some v5 ∧ w.cell? ⟨b, 6, none⟩ = some v6 ∧ w.cell? ⟨b, 7, none⟩ = some v7 ∧ w.cell? ⟨b, 8, none⟩ = some v8 ∧ w.cell? ⟨b, 9, none⟩ = some v9 ∧ w.cell? ⟨b, 10, none⟩ = some v10) ∧
  w.frozen? ⟨b, 0, none⟩ = false ∧ w.frozen? ⟨b, 1, none⟩ = false ∧ w.frozen? ⟨b, 2, none⟩ = false ∧ w.frozen? ⟨b, 3, none⟩ = false ∧ w.frozen? ⟨b, 4, none⟩ = false ∧ w.frozen? ⟨b, 5, none⟩ = false ∧ w.frozen? ⟨b, 6, none⟩ = false ∧ w.frozen? ⟨b, 7, none⟩ = false ∧ w.frozen? ⟨b, 8, none⟩ = false ∧ w.frozen? ⟨b, 9, none⟩ = false ∧ w.frozen? ⟨b, 10, none⟩ = false :=
 ⟨⟨h.cell rfl, h.cell rfl, h.cell rfl, h.cell rfl, h.cell rfl, h.cell rfl, h.cell rfl, h.cell rfl, h.cell rfl, h.cell rfl, h.cell rfl⟩, h.frozen 0, h.frozen 1, h.frozen 2, h.frozen 3, h.frozen 4, h.frozen 5, h.frozen 6, h.frozen 7, h.frozen 8, h.frozen 9, h.frozen 10⟩
theorem At.set11 {w : World} {b : Nat} {T : TypeId} {u0 u1 u2 u3 u4 u5 u6 u7 u8 u9 u10 : Value} (h : At w b #[u0, u1, u2, u3, u4, u5, u6, u7, u8, u9, u10] T) (v0 v1 v2 v3 v4 v5 v6 v7 v8 v9 v10 : Value) :
  At (((((((((((w.setCell ⟨b, 0, none⟩ v0).setCell ⟨b, 1, none⟩ v1).setCell ⟨b, 2, none⟩ v2).setCell ⟨b, 3, none⟩ v3).setCell ⟨b, 4, none⟩ v4).setCell ⟨b, 5, none⟩ v5).setCell ⟨b, 6, none⟩ v6).setCell ⟨b, 7, none⟩ v7).setCell ⟨b, 8, none⟩ v8).setCell ⟨b, 9, none⟩ v9).setCell ⟨b, 10, none⟩ v10) b #[v0, v1, v2, v3, v4, v5, v6, v7, v8, v9, v10] T := by
 have k0 : At (w.setCell ⟨b, 0, none⟩ v0) b #[v0, u1, u2, u3, u4, u5, u6, u7, u8, u9, u10] T := At.set_any h 0 v0 rfl
 have k1 : At ((w.setCell ⟨b, 0, none⟩ v0).setCell ⟨b, 1, none⟩ v1) b #[v0, v1, u2, u3, u4, u5, u6, u7, u8, u9, u10] T := At.set_any k0 1 v1 rfl
 have k2 : At (((w.setCell ⟨b, 0, none⟩ v0).setCell ⟨b, 1, none⟩ v1).setCell ⟨b, 2, none⟩ v2) b #[v0, v1, v2, u3, u4, u5, u6, u7, u8, u9, u10] T := At.set_any k1 2 v2 rfl
 have k3 : At ((((w.setCell ⟨b, 0, none⟩ v0).setCell ⟨b, 1, none⟩ v1).setCell ⟨b, 2, none⟩ v2).setCell ⟨b, 3, none⟩ v3) b #[v0, v1, v2, v3, u4, u5, u6, u7, u8, u9, u10] T := At.set_any k2 3 v3 rfl
 have k4 : At (((((w.setCell ⟨b, 0, none⟩ v0).setCell ⟨b, 1, none⟩ v1).setCell ⟨b, 2, none⟩ v2).setCell ⟨b, 3, none⟩ v3).setCell ⟨b, 4, none⟩ v4) b #[v0, v1, v2, v3, v4, u5, u6, u7, u8, u9, u10] T := At.set_any k3 4 v4 rfl
 have k5 : At ((((((w.setCell ⟨b, 0, none⟩ v0).setCell ⟨b, 1, none⟩ v1).setCell ⟨b, 2, none⟩ v2).setCell ⟨b, 3, none⟩ v3).setCell ⟨b, 4, none⟩ v4).setCell ⟨b, 5, none⟩ v5) b #[v0, v1, v2, v3, v4, v5, u6, u7, u8, u9, u10] T := At.set_any k4 5 v5 rfl
 have k6 := At.set_any (cs := #[v0, v1, v2, v3, v4, v5, v6, u7, u8, u9, u10]) k5 6 v6 rfl
 have k7 := At.set_any (cs := #[v0, v1, v2, v3, v4, v5, v6, v7, u8, u9, u10]) k6 7 v7 rfl
 have k8 := At.set_any (cs := #[v0, v1, v2, v3, v4, v5, v6, v7, v8, u9, u10]) k7 8 v8 rfl
 have k9 := At.set_any (cs := #[v0, v1, v2, v3, v4, v5, v6, v7, v8, v9, u10]) k8 9 v9 rfl
 exact At.set_any k9 10 v10 rfl
end Go.Proofs.YtlbnlmhcpephbaaGreatDoor
