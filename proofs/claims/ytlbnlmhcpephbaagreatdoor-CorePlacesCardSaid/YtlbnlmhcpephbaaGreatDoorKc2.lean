/- Texts of this claim, joined, indents halved: Loops, SpanAll, Door, Cfg, Row, App, PairsR. -/
import Derived.RangeFuncNested
import Derived.RangeFuncBound
import Derived.RangeFuncCalls
import Derived.RangeFuncLeaves
import Derived.RangeFuncBox
import Derived.Shelf.Abstract
import Derived.Shelf.RegionOpen
import Derived.WalkKit
import Derived.OwnWalkIn
import Derived.TacticsInMore
import Derived.LoopNIn
import Derived.LoopIn
import Derived.Test.YtlbnlmhcpephbaaGreatDoorProg
import Derived.Lib.BitFns
import Derived.BigQuiet
import Derived.Deep.QuietTactic
import Derived.Test.YtlbnlmhcpephbaaGreatDoorRows
import Derived.Lib.LaidTab
import Derived.LaidMore
import Derived.Maps.AppendAt
import Derived.OwnWalk
import Derived.Below
import Derived.Test.YtlbnlmhcpephbaaGreatDoorKc1
namespace Go.Proofs.YtlbnlmhcpephbaaGreatDoor
open Go.RowKit Go.Shelf
structure Frame (S : List Nat) (w w' : World) : Prop where
 os : w'.os = w.os
 tape : w'.tape = w.tape
 output : w'.output = w.output
 size : w.heap.size ≤ w'.heap.size
 block : ∀ k, k < w.heap.size → k ∉ S → w'.heap[k]? = w.heap[k]?
theorem Frame.of_below {S : List Nat} {w w' : World} (h : Below w.heap.size w w') : Frame S w w' := ⟨h.os, h.tape, h.output, h.size, fun k hk _ => h.block k hk⟩
theorem Frame.trans {S : List Nat} {w w1 w2 : World} (h : Frame S w w1) (k : Frame S w1 w2) : Frame S w w2 :=
 ⟨k.os.trans h.os, k.tape.trans h.tape, k.output.trans h.output, Nat.le_trans h.size k.size, fun i hi hn => (k.block i (Nat.lt_of_lt_of_le hi h.size) hn).trans (h.block i hi hn)⟩
theorem Frame.set (S : List Nat) (w : World) (b i : Nat) (v : Value) (hb : b ∈ S) : Frame S w (w.setCell ⟨b, i, none⟩ v) :=
 ⟨rfl, rfl, rfl, by simp [World.setCell], fun k _ hn => Below.heap_setCell w _ v k (by show k ≠ b; rintro rfl; exact hn hb)⟩
theorem Frame.at {S : List Nat} {b : Nat} {w w' : World} {cs : Array Value} {T : TypeId} (h : Frame S w w') (hs : At w b cs T) (hn : b ∉ S) : At w' b cs T := (h.block b hs.lt hn).trans hs
theorem Frame.drew {S : List Nat} {w w' : World} (h : Frame S w w') : Frame S w w'.drew := ⟨h.os, h.tape, h.output, h.size, h.block⟩
theorem Frame.refl (S : List Nat) (w : World) : Frame S w w := ⟨rfl, rfl, rfl, Nat.le_refl _, fun _ _ _ => rfl⟩
theorem Frame.setc {S : List Nat} {b : Nat} {w w' : World} (h : Frame S w w') (hb : b ∈ S ∨ w.heap.size ≤ b) (i : Nat) (v : Value) : Frame S w (w'.setCell ⟨b, i, none⟩ v) :=
 ⟨h.os, h.tape, h.output, by simpa [World.setCell] using h.size, fun k hk hn => (Below.heap_setCell w' _ v k (fun (e : k = b) => hb.elim (fun hb => hn (e ▸ hb)) (fun hb => absurd hk (by omega)))).trans (h.block k hk hn)⟩
theorem Frame.alloc {S : List Nat} {w w' : World} (h : Frame S w w') (o : Obj) : Frame S w (w'.alloc o) := h.trans (Frame.of_below ((Below.refl _ _).alloc (Nat.le_refl _) o))
theorem Frame.below {S : List Nat} {B : Nat} {w0 w w' : World} (hB : Below B w0 w) (hz : B ≤ w.heap.size) (h : Frame S w w') (hS : ∀ k ∈ S, B ≤ k) : Below B w0 w' :=
 hB.trans ⟨h.os, h.tape, h.output, h.size, fun k hk => h.block k (Nat.lt_of_lt_of_le hk hz) fun hm => absurd (hS k hm) (by omega)⟩
theorem Frame.rd {S : List Nat} {w w' : World} {A : Option Addr} {cs : List Value} (h : Frame S w w') (hr : Rd w A cs) (hn : ∀ a, A = some a → a.block ∉ S) : Rd w' A cs := fun j u hj => by
 obtain ⟨g, o, rfl, hg, hc⟩ := hr j u hj
 refine ⟨g, o, rfl, Nat.lt_of_lt_of_le hg h.size, ?_⟩
 rw [← hc]
 exact World.cell?_of_block (w := w) (h.block g hg (hn _ rfl))
def Apart (S T : List Nat) : Prop := ∀ k ∈ S, k ∉ T
def GrownS (S S' : List Nat) (n : Nat) : Prop := ∀ k ∈ S', k ∈ S ∨ n ≤ k
def Within (S : List Nat) (lo hi : Nat) : Prop := ∀ k ∈ S, lo ≤ k ∧ k < hi
theorem Apart.symm {S T : List Nat} (h : Apart S T) : Apart T S := fun k hk hn => h k hn hk
theorem Within.mono {S : List Nat} {lo hi hi' : Nat} (h : Within S lo hi) (hh : hi ≤ hi') : Within S lo hi' := fun k hk => ⟨(h k hk).1, Nat.lt_of_lt_of_le (h k hk).2 hh⟩
theorem Within.grown {S S' : List Nat} {lo hi n : Nat} (h : Within S lo n) (hg : GrownS S S' n) (hl : lo ≤ n) (hs : ∀ k ∈ S', k < hi) : Within S' lo hi := fun k hk => ⟨by
 rcases hg k hk with h1 | h1
 ·exact (h k h1).1
 ·omega, hs k hk⟩
theorem GrownS.refl (S : List Nat) (n : Nat) : GrownS S S n := fun _ hk => .inl hk
theorem Frame.below' {S : List Nat} {lo : Nat} {w0 w w' : World} (h : Frame S w w') (hB : Below lo w0 w) (hz : lo ≤ w.heap.size) (hS : Within S lo w.heap.size) : Below lo w0 w' := h.below hB hz fun k hk => (hS k hk).1
theorem Frame.mono {S T : List Nat} {w w' : World} (h : Frame S w w') (hs : ∀ k ∈ S, k ∈ T) : Frame T w w' := ⟨h.os, h.tape, h.output, h.size, fun k hk hn => h.block k hk fun hm => hn (hs k hm)⟩
def KpB (n₀ Bn : Nat) (W W' : World) : Prop := ∀ k, k < n₀ ∨ k = Bn → W'.heap[k]? = W.heap[k]?
structure Two (B : Nat) (w wr : World) (S T : List Nat) (X Y : Prop) : Prop where
 x : X
 y : Y
 ws : Within S B wr.heap.size
 wt : Within T B wr.heap.size
 ap : Apart S T
 below : Below B w wr
 size : B ≤ wr.heap.size
end Go.Proofs.YtlbnlmhcpephbaaGreatDoor

namespace Go.Proofs.YtlbnlmhcpephbaaGreatDoor
open Go.RowKit
structure TensAt (w : World) : Prop where
 lt : 0 < w.heap.size
 c0 : w.cell? ⟨0, 0, none⟩ = some (.int .u64 1)
 c1 : w.cell? ⟨0, 1, none⟩ = some (.int .u64 10)
 c2 : w.cell? ⟨0, 2, none⟩ = some (.int .u64 100)
 c3 : w.cell? ⟨0, 3, none⟩ = some (.int .u64 1000)
 c4 : w.cell? ⟨0, 4, none⟩ = some (.int .u64 10000)
theorem TensAt.below {w w' : World} (h : TensAt w) (hb : Below w.heap.size w w') : TensAt w' :=
 ⟨Nat.lt_of_lt_of_le h.lt hb.size, cellB hb h.lt h.c0, cellB hb h.lt h.c1, cellB hb h.lt h.c2, cellB hb h.lt h.c3, cellB hb h.lt h.c4⟩
end Go.Proofs.YtlbnlmhcpephbaaGreatDoor
namespace Go.Proofs.YtlbnlmhcpephbaaGreatDoor
open Go.RowKit
theorem sgof_any (x : Int) (w : World) (h1 : -9223372036854775808 ≤ x) (h2 : x ≤ 9223372036854775807) :
  Calls Tryz.prog 188 #[.int .i64 x] w fun e w' => e = .returned (.tuple #[.int .u64 (x.natAbs : Int), .bool (decide (x < 0))]) ∧ w = w' := by
 by_cases hx : x < 0
 ·have HV : Hid ((x.natAbs : Int) = -x) := by show _ = _; omega
  have v1 : IntKind.u64.wrap x = x + 18446744073709551616 := by simp only [IntKind.wrap_u64]; omega
  have v2 : IntKind.u64.wrap (-(x + 18446744073709551616)) = -x := by simp only [IntKind.wrap_u64]; omega
  have hd : decide (x < 0) = true := decide_eq_true hx
  rw [HV.out, hd]
  clear h1 h2
  go_enter Tryz.func188, Tryz.ntmps188
  go_wp2
  go_ret2
  exact ⟨rfl, rfl⟩
 ·have HV : Hid ((x.natAbs : Int) = x) := by show _ = _; omega
  have v1 : IntKind.u64.wrap x = x := by simp only [IntKind.wrap_u64]; omega
  have hd : decide (x < 0) = false := decide_eq_false hx
  rw [HV.out, hd]
  clear h1 h2
  go_enter Tryz.func188, Tryz.ntmps188
  go_wp2
  go_ret2
  exact ⟨rfl, rfl⟩
def valM (m : Int) (below : Bool) : Int := if below then (if m ≤ 9223372036854775808 then -m else 0) else (if m < 9223372036854775808 then m else 0)
def valOk (m : Int) (below : Bool) : Bool := if below then decide (m ≤ 9223372036854775808) else decide (m < 9223372036854775808)
theorem sgval_any (m : Int) (below : Bool) (w : World) (h1 : 0 ≤ m) (h2 : m < 18446744073709551616) :
    Calls Tryz.prog 193 #[.int .u64 m, .bool below] w fun e w' => e = .returned (.tuple #[.int .i64 (valM m below), .bool (valOk m below)]) ∧ w = w' := by
  cases below with
  | true =>
    by_cases hm : m ≤ 9223372036854775808
    · have HV : Hid (valM m true = -m ∧ valOk m true = true) := by show _ ∧ _; unfold valM valOk; simp [hm]
      rw [HV.out.1, HV.out.2]
      have hd : decide (m ≤ 9223372036854775808) = true := decide_eq_true hm
      by_cases h0 : m = 0
      · subst h0
        go_enter Tryz.func193, Tryz.ntmps193
        go_wp2
        go_ret2
        exact ⟨rfl, rfl⟩
      · have v1 : IntKind.u64.wrap (-m) = 18446744073709551616 - m := by simp only [IntKind.wrap_u64]; omega
        have v2 : IntKind.i64.wrap (18446744073709551616 - m) = -m := by simp only [IntKind.wrap_i64]; omega
        clear h1 h2 h0
        go_enter Tryz.func193, Tryz.ntmps193
        go_wp2
        go_ret2
        exact ⟨rfl, rfl⟩
    · have HV : Hid (valM m true = 0 ∧ valOk m true = false) := by show _ ∧ _; unfold valM valOk; simp; omega
      rw [HV.out.1, HV.out.2]
      have hd : decide (m ≤ 9223372036854775808) = false := decide_eq_false hm
      clear h1 h2
      go_enter Tryz.func193, Tryz.ntmps193
      go_wp2
      go_ret2
      exact ⟨rfl, rfl⟩
  | false =>
    by_cases hm : m < 9223372036854775808
    · have HV : Hid (valM m false = m ∧ valOk m false = true) := by show _ ∧ _; unfold valM valOk; simp [hm]
      rw [HV.out.1, HV.out.2]
      have hd : decide (m < 9223372036854775808) = true := decide_eq_true hm
      have v1 : IntKind.i64.wrap m = m := by simp only [IntKind.wrap_i64]; omega
      clear h1 h2
      go_enter Tryz.func193, Tryz.ntmps193
      go_wp2
      go_ret2
      exact ⟨rfl, rfl⟩
    · have HV : Hid (valM m false = 0 ∧ valOk m false = false) := by show _ ∧ _; unfold valM valOk; simp; omega
      rw [HV.out.1, HV.out.2]
      have hd : decide (m < 9223372036854775808) = false := decide_eq_false hm
      clear h1 h2
      go_enter Tryz.func193, Tryz.ntmps193
      go_wp2
      go_ret2
      exact ⟨rfl, rfl⟩
end Go.Proofs.YtlbnlmhcpephbaaGreatDoor
namespace Go.Proofs.YtlbnlmhcpephbaaGreatDoor
open Go.RowKit
theorem log_any (a : Int) (w : World) (h1 : 0 ≤ a) (h2 : a < 18446744073709551616) :
    Calls Tryz.prog 158 #[.int .u64 a] w fun e w' => e = .returned (.tuple #[.int .i64 ((Lib.bitLen a.toNat : Int) - 1), .bool (a != 0)]) ∧ w = w' := by
  have hb : Lib.bitLen a.toNat ≤ 64 := Lib.bitLen_le _ 64 (by omega) (by have : a.toNat < 18446744073709551616 := by omega
                                                                         simpa using this)
  obtain ⟨k, HK⟩ : ∃ k : Nat, Hid (Lib.bitLen a.toNat = k) := ⟨_, rfl⟩
  rw [HK.out] at hb ⊢
  go_enter Tryz.func158, Tryz.ntmps158
  go_wp2_with fail
  refine (Tryz.bits_Len64 a w h1 (by omega)).mono ?_
  rintro e w1 ⟨rfl, hw⟩
  subst hw
  rw [HK.out]
  go_wp2
  go_ret2
  exact ⟨rfl, rfl⟩
theorem bitLen_log2 (a : Nat) (h : 0 < a) (h2 : a < 2 ^ 64) : Lib.bitLen a = Nat.log2 a + 1 := by
 rw [Lib.bitLen_shift (Nat.log2 a) a (Nat.log2_self_le (by omega)) h2]
 have e : a / 2 ^ Nat.log2 a = 1 := by
  have hp : 0 < 2 ^ Nat.log2 a := Nat.pow_pos (by omega)
  have a1 : 1 ≤ a / 2 ^ Nat.log2 a := (Nat.le_div_iff_mul_le hp).2 (by rw [Nat.one_mul]; exact Nat.log2_self_le (by omega))
  have a2 : a / 2 ^ Nat.log2 a < 2 := Nat.div_lt_of_lt_mul (by have := @Nat.lt_log2_self a; rw [Nat.pow_succ] at this; exact this)
  omega
 rw [e]
 have : Lib.bitLen 1 = 1 := by decide +kernel
 omega
theorem log_nat (m : Nat) (w : World) (h : 0 < m) (h2 : m ≤ 9223372036854775808) :
  Calls Tryz.prog 158 #[.int .u64 m] w fun e w' => e = .returned (.tuple #[.int .i64 (Nat.log2 m : Nat), .bool true]) ∧ w = w' := by
 refine (log_any m w (by omega) (by omega)).mono ?_
 rintro e w' ⟨rfl, hw⟩
 refine ⟨?_, hw⟩
 have hp : (2 : Nat) ^ 64 = 18446744073709551616 := by decide +kernel
 have e1 : ((m : Int) != 0) = true := by simp; omega
 rw [show ((m : Int)).toNat = m by omega, bitLen_log2 m h (by omega), e1]
 congr 4
 simp
end Go.Proofs.YtlbnlmhcpephbaaGreatDoor
namespace Go.Proofs.YtlbnlmhcpephbaaGreatDoor
open Go.RowKit
def gOf (d : Int) : Nat := if d = 1 then 4 else if d = 2 then 7 else if d = 3 then 10 else 14
theorem gOf_le (d : Int) : gOf d ≤ 14 := by unfold gOf; (repeat' split) <;> omega
theorem gOf_ge (d : Int) : 4 ≤ gOf d := by unfold gOf; (repeat' split) <;> omega
theorem pow14 {g : Nat} (h : g ≤ 14) : 2 ^ g ≤ 16384 := Nat.le_trans (Nat.pow_le_pow_right (by omega) h) (by decide)
theorem wrap_sum (z1 z2 : Nat) (b1 : z1 ≤ 59 * 16384) (b3 : z2 < 32768) : wrap64 (wrap64 (z1 : Int) + wrap64 (z2 : Int)) = ((z1 + z2 : Nat) : Int) := by unfold wrap64; omega
theorem wrap_rest (i z : Nat) (h : z ≤ i) (hi : i ≤ 64 * 16384) : IntKind.u64.wrap (wrap64 ((i : Int) - wrap64 (z : Int))) = ((i - z : Nat) : Int) := by simp only [IntKind.wrap_u64]; unfold wrap64; omega
structure SpanAt (w : World) (b : Nat) (d : Int) : Prop where
 at' : At w b #[.int .i64 d, .int .i64 (gOf d : Nat)] 210
 d1 : 1 ≤ d
 d4 : d ≤ 4
theorem SpanAt.below {w w' : World} {b : Nat} {d : Int} (h : SpanAt w b d) (hb : Below w.heap.size w w') : SpanAt w' b d := ⟨h.at'.below hb, h.d1, h.d4⟩
def logC (w : World) (b : Nat) : Nat := match w.cell? ⟨b, 1, none⟩ with
 | some (.int _ j) => j.toNat
 | _ => 0
set_option maxHeartbeats 1000000 in
theorem spnew_one (d : Int) (dn : Nat) (g : Nat) (ten : Int) (w : World) (hd : d = dn) (h1 : 1 ≤ dn) (h4 : dn ≤ 4) (hG : 0 < w.heap.size) (hc : w.cell? ⟨0, dn, none⟩ = some (.int .u64 ten)) (hg : ∀ j : Nat, j ≤ g → ((2 : Int) ^ j < ten ↔ j < g)) (hg14 : g ≤ 14) :
  Calls Tryz.prog 58 #[.int .i64 d] w fun e w' => (∃ b, e = .returned (.tuple #[.pointer (some ⟨b, 0, none⟩), .int .i64 0]) ∧ b = w.heap.size ∧ At w' b #[.int .i64 d, .int .i64 g] 210) ∧ Below w.heap.size w w' := by
 subst hd
 have HG := Lib.hid hg
 have n1 : ¬ (dn : Int) < 1 := by omega
 have n2 : ¬ (4 : Int) < dn := by omega
 have n2' : ¬ 4 < dn := by omega
 have hs : At (w.alloc (.cells #[.int .i64 dn, .int .i64 0] 210)) w.heap.size #[.int .i64 dn, .int .i64 0] 210 := At.new w _ _
 have hb0 : Below w.heap.size w (w.alloc (.cells #[.int .i64 dn, .int .i64 0] 210)) := (Below.refl _ _).alloc (Nat.le_refl _) _
 have HS : Hid (∃ j : Nat, j ≤ g ∧ At (w.alloc (.cells #[.int .i64 dn, .int .i64 0] 210)) w.heap.size #[.int .i64 dn, .int .i64 j] 210 ∧ Below w.heap.size w (w.alloc (.cells #[.int .i64 dn, .int .i64 0] 210))) := ⟨0, Nat.zero_le _, hs, hb0⟩
 have HCG : Hid (w.cell? ⟨0, dn, none⟩ = some (.int .u64 ten) ∧ 0 < w.heap.size) := ⟨hc, hG⟩
 clear hg hs hb0 hc hG
 go_enter Tryz.func58, Tryz.ntmps58
 go_wp2
 obtain ⟨b, hb⟩ : ∃ b, w.heap.size = b := ⟨_, rfl⟩
 have HBE := Lib.hid hb
 rw [hb] at HS
 simp only [hb]
 clear hb
 generalize w.alloc (.cells #[.int .i64 dn, .int .i64 0] 210) = W1 at HS ⊢
 clear n1 n2 n2'
 go_loopw [14] (fun _ wr => Hid (∃ j : Nat, j ≤ g ∧ At wr b #[.int .i64 dn, .int .i64 j] 210 ∧ Below b w wr)) (fun _ wr => 64 - logC wr b)
 case atStart => exact HS
 case round =>
  obtain ⟨j, hj, hs, hB⟩ := hrel.out
  have f1 := hs.two
  have l1 := hs.lt
  have c1 : wr.cell? ⟨0, dn, none⟩ = some (.int .u64 ten) := cellB (w := w) (by rw [HBE.out]; exact hB) HCG.out.2 HCG.out.1
  have hGl : 0 < wr.heap.size := by have := HCG.out.2; have := HBE.out; omega
  have HJ := Lib.hid (HG.out j hj)
  have k0 : (0 : Int) ≤ j := by omega
  have k1 : j < 64 := by omega
  have k2 : (j : Int) < 64 := by omega
  have k3 : (0 : Int) ≤ dn := by omega
  have k4 : (dn : Int) < 5 := by omega
  have hp := Lib.hid (show (2 : Int) ^ j ≤ 16384 ∧ (0 : Int) < 2 ^ j by
   have a1 : 2 ^ j ≤ 2 ^ 14 := Nat.pow_le_pow_right (by omega) (by omega)
   have a2 : 0 < 2 ^ j := Nat.pow_pos (by omega)
   have e : ((2 ^ j : Nat) : Int) = (2 : Int) ^ j := by rw [Int.natCast_pow]; rfl
   rw [← e]
   omega)
  have hw : IntKind.u64.wrap ((2 : Int) ^ j) = (2 : Int) ^ j := by have := hp.out; simp only [IntKind.wrap_u64]; omega
  have HLC : Hid (logC wr b = j) := by show _ = _; unfold logC; rw [f1.2.1]; simp
  by_cases hlt : j < g
  ·have hd : decide ((2 : Int) ^ j < ten) = true := decide_eq_true (HJ.out.2 hlt)
   have v1 : IntKind.i64.wrap ((j : Int) + 1) = ((j + 1 : Nat) : Int) := by simp only [IntKind.wrap_i64]; omega
   have HN : Hid (∀ n, ∃ i : Nat, i ≤ g ∧ At ((wr.drewN n).setCell ⟨b, 1, none⟩ (.int .i64 ((j + 1 : Nat) : Int))) b #[.int .i64 dn, .int .i64 i] 210 ∧ Below b w ((wr.drewN n).setCell ⟨b, 1, none⟩ (.int .i64 ((j + 1 : Nat) : Int)))) := fun n => ⟨j + 1, hlt, (hs.drewN n).set_any 1 _ rfl, (hB.drewN n).setCell (p := ⟨b, 1, none⟩) (Nat.le_refl _) _⟩
   have HL2 : Hid (∀ n, logC ((wr.drewN n).setCell ⟨b, 1, none⟩ (.int .i64 ((j : Int) + 1))) b = j + 1) := fun n => by
    have e : (((wr.drewN n).setCell ⟨b, 1, none⟩ (.int .i64 ((j : Int) + 1))).cell? ⟨b, 1, none⟩) = some (.int .i64 ((j : Int) + 1)) := ((hs.drewN n).set_any 1 (.int .i64 ((j : Int) + 1)) rfl).two.2.1
    unfold logC
    rw [e]
    show ((j : Int) + 1).toNat = j + 1
    omega
   clear hs hrel HS
   go_wp2
   go_quiet (fail)
   go_wp2
   go_roundw
   case rel => exact HN.out _
   case measure =>
    have e2 : logC ((wr.drewN nq).setCell ⟨b, 1, none⟩ (.int .i64 ((j : Int) + 1))) b = j + 1 := HL2.out _
    rw [e2, HLC.out]
    omega
  ·obtain rfl : j = g := by omega
   have hd : decide ((2 : Int) ^ j < ten) = false := decide_eq_false fun h => hlt (HJ.out.1 h)
   have HN : Hid (∀ n, At (wr.drewN n) b #[.int .i64 dn, .int .i64 j] 210 ∧ Below b w (wr.drewN n)) := fun n => ⟨hs.drewN n, hB.drewN n⟩
   clear hs hrel HS
   go_wp2
   go_quiet (fail)
   go_wp2
   go_ret2
   exact ⟨⟨b, rfl, HBE.out.symm, (HN.out _).1⟩, by rw [HBE.out]; exact (HN.out _).2⟩
theorem spnew_any (d : Int) (w : World) (hT : TensAt w) (h1 : 1 ≤ d) (h4 : d ≤ 4) :
  Calls Tryz.prog 58 #[.int .i64 d] w fun e w' => (∃ b, e = .returned (.tuple #[.pointer (some ⟨b, 0, none⟩), .int .i64 0]) ∧ b = w.heap.size ∧ SpanAt w' b d) ∧ Below w.heap.size w w' := by
 have key : ∀ (dn g : Nat) (ten : Int), d = dn → 1 ≤ dn → dn ≤ 4 → gOf d = g → w.cell? ⟨0, dn, none⟩ = some (.int .u64 ten) → (∀ j : Nat, j ≤ g → ((2 : Int) ^ j < ten ↔ j < g)) → g ≤ 14 → Calls Tryz.prog 58 #[.int .i64 d] w fun e w' => (∃ b, e = .returned (.tuple #[.pointer (some ⟨b, 0, none⟩), .int .i64 0]) ∧ b = w.heap.size ∧ SpanAt w' b d) ∧ Below w.heap.size w w' := by
  intro dn g ten hd h1' h4' hg hc hj h14
  refine (spnew_one d dn g ten w hd h1' h4' hT.lt hc hj h14).mono ?_
  rintro e w' ⟨⟨b, rfl, hb, hs⟩, hB⟩
  exact ⟨⟨b, rfl, hb, by rw [hg]; exact hs, h1, h4⟩, hB⟩
 have hpow : ∀ (g : Nat) (ten : Int), (g = 0 ∨ (2 : Int) ^ (g - 1) < ten) → ten ≤ (2 : Int) ^ g → ∀ j : Nat, j ≤ g → ((2 : Int) ^ j < ten ↔ j < g) := by
  intro g ten ha hb j hj
  constructor
  ·intro h
   rcases Nat.lt_or_ge j g with h2 | h2
   ·exact h2
   ·obtain rfl : j = g := by omega
    omega
  ·intro h
   rcases ha with ha | ha
   ·omega
   ·have : (2 : Int) ^ j ≤ 2 ^ (g - 1) := by
     have a1 : 2 ^ j ≤ 2 ^ (g - 1) := Nat.pow_le_pow_right (by omega) (by omega)
     have e : ∀ n : Nat, ((2 ^ n : Nat) : Int) = (2 : Int) ^ n := fun n => by rw [Int.natCast_pow]; rfl
     rw [← e, ← e]
     omega
    omega
 rcases (by omega : d = 1 ∨ d = 2 ∨ d = 3 ∨ d = 4) with rfl | rfl | rfl | rfl
 ·exact key 1 4 10 rfl (by omega) (by omega) rfl hT.c1 (hpow _ _ (.inr (by decide)) (by decide)) (by omega)
 ·exact key 2 7 100 rfl (by omega) (by omega) rfl hT.c2 (hpow _ _ (.inr (by decide)) (by decide)) (by omega)
 ·exact key 3 10 1000 rfl (by omega) (by omega) rfl hT.c3 (hpow _ _ (.inr (by decide)) (by decide)) (by omega)
 ·exact key 4 14 10000 rfl (by omega) (by omega) rfl hT.c4 (hpow _ _ (.inr (by decide)) (by decide)) (by omega)
theorem spshift_any (b m : Nat) (d : Int) (w : World) (h : SpanAt w b d) (hm : 0 < m) (hm' : m ≤ 9223372036854775808) :
  Calls Tryz.prog 153 #[.pointer (some ⟨b, 0, none⟩), .int .u64 m] w fun e w' => e = .returned (.int .i64 (kN (gOf d) m : Nat)) ∧ w = w' := by
 have HL := Lib.hid (log_nat m w hm hm')
 have f1 := h.at'.two
 have l1 := h.at'.lt
 have hl := log2_le63 hm hm'
 have hg := gOf_le d
 have HK : Hid ((kN (gOf d) m : Int) = max ((Nat.log2 m : Int) - gOf d) 0) := by show _ = _; unfold kN; omega
 obtain ⟨lg, hlg⟩ : ∃ l, Nat.log2 m = l := ⟨_, rfl⟩
 obtain ⟨g, hgg⟩ : ∃ g, gOf d = g := ⟨_, rfl⟩
 rw [hlg] at HL HK hl
 rw [hgg] at f1 HK hg ⊢
 have v1 : IntKind.i64.wrap ((lg : Int) - g) = (lg : Int) - g := by simp only [IntKind.wrap_i64]; omega
 rw [HK.out]
 clear h hm hm' hlg hgg hl hg
 go_enter Tryz.func153, Tryz.ntmps153
 go_wp2_with fail
 refine HL.out.mono ?_
 rintro e w1 ⟨rfl, rfl⟩
 go_wp2
 go_ret
 exact ⟨by first | rfl | simp, rfl⟩
set_option maxHeartbeats 1000000 in
theorem spindex_any (b m : Nat) (d : Int) (w : World) (h : SpanAt w b d) (hm : 0 < m) (hm' : m ≤ 9223372036854775808) :
  Calls Tryz.prog 143 #[.pointer (some ⟨b, 0, none⟩), .int .u64 m] w fun e w' => e = .returned (.tuple #[.int .i64 (idxN (gOf d) m : Nat), .bool true]) ∧ Below w.heap.size w w' := by
 have HS := Lib.hid (spshift_any b m d w h hm hm')
 have f1 := h.at'.two
 have l1 := h.at'.lt
 have hg := gOf_le d
 have HI : Hid (idxN (gOf d) m = kN (gOf d) m * 2 ^ gOf d + m / 2 ^ kN (gOf d) m) := rfl
 have hk : kN (gOf d) m ≤ 59 := by have := log2_le63 hm hm'; have := gOf_ge d; unfold kN; omega
 obtain ⟨g, hgg⟩ : ∃ g, gOf d = g := ⟨_, rfl⟩
 rw [hgg] at f1 HI HS hg hk ⊢
 obtain ⟨k, hkk⟩ : ∃ k, kN g m = k := ⟨_, rfl⟩
 rw [hkk] at HI HS hk
 have n0 : ((m : Int) == 0) = false := beq_eq_false_iff_ne.2 (by omega)
 have n1 : decide ((9223372036854775808 : Int) < m) = false := decide_eq_false (by omega)
 have k0 : (0 : Int) ≤ k := by omega
 have k1 : (k : Int) < 64 := by omega
 have k2 : (0 : Int) ≤ g := by omega
 have k3 : (g : Int) < 64 := by omega
 have HF : Hid (wrap64 (wrap64 ((k : Int) * 2 ^ g) + wrap64 ((m : Int) / 2 ^ k)) = ((k * 2 ^ g + m / 2 ^ k : Nat) : Int)) := by
  have e1 : (k : Int) * 2 ^ g = ((k * 2 ^ g : Nat) : Int) := by rw [Int.natCast_mul, Int.natCast_pow]; rfl
  have e2 : (m : Int) / 2 ^ k = ((m / 2 ^ k : Nat) : Int) := by rw [Int.natCast_ediv, Int.natCast_pow]; rfl
  have b1 : k * 2 ^ g ≤ 59 * 16384 := Nat.mul_le_mul hk (pow14 hg)
  have b2 : m / 2 ^ k ≤ 9223372036854775808 := Nat.le_trans (Nat.div_le_self _ _) hm'
  have b3 : m / 2 ^ k < 32768 := by
   have := qN_lt (g := g) hm
   unfold qN at this
   rw [hkk, two_pow_succ] at this
   have := pow14 hg
   omega
  show _ = _
  rw [e1, e2]
  exact wrap_sum _ _ b1 b3
 rw [HI.out]
 clear h hkk hgg hm hm' hk hg
 go_enter Tryz.func143, Tryz.ntmps143
 go_wp2_with fail
 refine HS.out.mono ?_
 rintro e w1 ⟨rfl, rfl⟩
 go_wp2
 go_quiet (fail)
 go_wp2
 go_ret2
 exact ⟨by rw [HF.out]; rfl, (Below.refl _ _).drewN _⟩
def loI (g i : Nat) : Nat := qI g i * 2 ^ kI g i
def hiI (g i : Nat) : Nat := min (loI g i + (2 ^ kI g i - 1)) 9223372036854775808
def repI (g i : Nat) : Nat := loI g i + (hiI g i - loI g i) / 2
theorem loI_idx {g m : Nat} (hm : 0 < m) : loI g (idxN g m) = loN g m := by
 have h1 : kI g (idxN g m) = kN g m := idx_div hm
 unfold loI qI
 rw [h1, idx_rest]
 rfl
theorem hiI_idx {g m : Nat} (hm : 0 < m) : hiI g (idxN g m) = hiN g m := by
 have h1 : kI g (idxN g m) = kN g m := idx_div hm
 unfold hiI hiN
 rw [loI_idx hm, h1]
theorem kI_le {g i : Nat} (hg : g ≤ 63) (hi : i ≤ (64 - g) * 2 ^ g) : kI g i ≤ 63 - g := by
 have hd : i / 2 ^ g ≤ 64 - g := Nat.div_le_of_le_mul (by rw [Nat.mul_comm]; exact hi)
 unfold kI
 omega
theorem lastI {g : Nat} (hg : g ≤ 14) : (64 - g) * 2 ^ g ≤ 64 * 16384 := Nat.mul_le_mul (by omega) (pow14 hg)
set_option maxHeartbeats 1000000 in
theorem spparts_any (b i : Nat) (d : Int) (w : World) (h : SpanAt w b d) (hi : 0 < i) (hi' : i ≤ (64 - gOf d) * 2 ^ gOf d) :
  Calls Tryz.prog 136 #[.pointer (some ⟨b, 0, none⟩), .int .i64 i] w fun e w' => e = .returned (.tuple #[.int .i64 (kI (gOf d) i : Nat), .int .u64 (qI (gOf d) i : Nat), .bool true]) ∧ Below w.heap.size w w' := by
 have HX := Lib.hid (spindex_any b 9223372036854775808 d w h (by omega) (Nat.le_refl _))
 have s1 := h.at'
 have hg := gOf_le d
 have hg4 := gOf_ge d
 have hlast := lastI hg
 rw [idx_top (by omega)] at HX
 obtain ⟨g, hgg⟩ : ∃ g, gOf d = g := ⟨_, rfl⟩
 rw [hgg] at s1 HX hg hg4 hi' hlast ⊢
 have hki := kI_le (by omega) hi'
 have hkm := kI_mul g i
 have HKI : Hid (kI g i = i / 2 ^ g - 1 ∧ qI g i = i - kI g i * 2 ^ g) := ⟨rfl, rfl⟩
 have HK2 : Hid (max (wrap64 (((i : Int) / 2 ^ g) - 1)) 0 = (kI g i : Int)) := by
  have e2 : (i : Int) / 2 ^ g = ((i / 2 ^ g : Nat) : Int) := by rw [Int.natCast_ediv, Int.natCast_pow]; rfl
  have b2 : i / 2 ^ g ≤ i := Nat.div_le_self _ _
  have e3 := HKI.out.1
  obtain ⟨z, hz⟩ : ∃ z, i / 2 ^ g = z := ⟨_, rfl⟩
  rw [hz] at e2 b2 e3
  show _ = _
  rw [e2]
  unfold wrap64
  omega
 obtain ⟨last, hla⟩ : ∃ l, (64 - g) * 2 ^ g = l := ⟨_, rfl⟩
 rw [hla] at HX hi' hlast
 obtain ⟨k, hkk⟩ : ∃ k, kI g i = k := ⟨_, rfl⟩
 rw [hkk] at HK2 hki hkm HKI ⊢
 have HF : Hid (IntKind.u64.wrap (wrap64 ((i : Int) - wrap64 ((k : Int) * 2 ^ g))) = (qI g i : Int)) := by
  have e1 : (k : Int) * 2 ^ g = ((k * 2 ^ g : Nat) : Int) := by rw [Int.natCast_mul, Int.natCast_pow]; rfl
  have e3 := HKI.out.2
  obtain ⟨z, hz⟩ : ∃ z, k * 2 ^ g = z := ⟨_, rfl⟩
  rw [hz] at e1 e3 hkm
  show _ = _
  rw [e1, e3]
  exact wrap_rest i z hkm (by omega)
 have n0 : decide ((i : Int) < 1) = false := decide_eq_false (by omega)
 have n1 : decide ((last : Int) < i) = false := decide_eq_false (by omega)
 have n1' : decide (last < i) = false := decide_eq_false (by omega)
 have k0 : (0 : Int) ≤ k := by omega
 have k1 : (k : Int) < 64 := by omega
 have k2 : (0 : Int) ≤ g := by omega
 have k3 : (g : Int) < 64 := by omega
 clear h hkk hgg hi hi' hki hkm hg hg4 hlast hla HKI
 go_enter Tryz.func136, Tryz.ntmps136
 go_wp2_with fail
 refine HX.out.mono ?_
 rintro e w1 ⟨rfl, hb⟩
 replace s1 := s1.below hb
 have f1 := s1.two
 have l1 := s1.lt
 clear HX
 go_wp2
 go_quiet (fail)
 go_wp2
 go_ret3
 exact ⟨by simp only [HK2.out, HF.out]; rfl, hb.drewN _⟩
set_option maxHeartbeats 1000000 in
theorem spparts_bad (b : Nat) (i d : Int) (w : World) (h : SpanAt w b d) (hi : i < 1 ∨ ((64 - gOf d) * 2 ^ gOf d : Nat) < i) :
  Calls Tryz.prog 136 #[.pointer (some ⟨b, 0, none⟩), .int .i64 i] w fun e w' => e = .returned (.tuple #[.int .i64 0, .int .u64 0, .bool false]) ∧ Below w.heap.size w w' := by
 have HX := Lib.hid (spindex_any b 9223372036854775808 d w h (by omega) (Nat.le_refl _))
 rw [idx_top (by have := gOf_le d; omega)] at HX
 obtain ⟨last, hla⟩ : ∃ l, (64 - gOf d) * 2 ^ gOf d = l := ⟨_, rfl⟩
 rw [hla] at HX hi
 clear hla h
 rcases hi with hi | hi
 ·have n0 : decide (i < 1) = true := decide_eq_true hi
  clear hi
  go_enter Tryz.func136, Tryz.ntmps136
  go_wp2_with fail
  refine HX.out.mono ?_
  rintro e w1 ⟨rfl, hb⟩
  clear HX
  go_wp2
  go_ret3
  exact ⟨rfl, hb⟩
 ·have n0 : decide (i < 1) = false := decide_eq_false (by omega)
  have n1 : decide ((last : Int) < i) = true := decide_eq_true hi
  clear hi
  go_enter Tryz.func136, Tryz.ntmps136
  go_wp2_with fail
  refine HX.out.mono ?_
  rintro e w1 ⟨rfl, hb⟩
  clear HX
  go_wp2
  go_ret3
  exact ⟨rfl, hb⟩
theorem wrap_low (z : Nat) (h : z ≤ 9223372036854775808) : IntKind.u64.wrap (z : Int) = (z : Int) := by simp only [IntKind.wrap_u64]; omega
theorem wrap_high (z p : Nat) (h : z ≤ 9223372036854775808) (h0 : 0 < p) (hp : p ≤ 9223372036854775808) : IntKind.u64.wrap ((z : Int) + IntKind.u64.wrap (IntKind.u64.wrap (p : Int) - 1)) = ((z + (p - 1) : Nat) : Int) := by simp only [IntKind.wrap_u64]; omega
set_option maxHeartbeats 1000000 in
theorem sprange_any (b i : Nat) (d : Int) (w : World) (h : SpanAt w b d) (hi : 0 < i) (hi' : i ≤ (64 - gOf d) * 2 ^ gOf d) :
  Calls Tryz.prog 125 #[.pointer (some ⟨b, 0, none⟩), .int .i64 i] w fun e w' => e = .returned (.tuple #[.int .u64 (loI (gOf d) i : Nat), .int .u64 (hiI (gOf d) i : Nat)]) ∧ Below w.heap.size w w' := by
 have HX := Lib.hid (spparts_any b i d w h hi hi')
 have hg := gOf_le d
 have hg4 := gOf_ge d
 obtain ⟨g, hgg⟩ : ∃ g, gOf d = g := ⟨_, rfl⟩
 rw [hgg] at HX hg hg4 hi' ⊢
 have hki := kI_le (by omega) hi'
 have hlo := (idx_of (by omega : g ≤ 63) hi hi').2.1
 have HLO : Hid (loI g i = qI g i * 2 ^ kI g i ∧ hiI g i = min (loI g i + (2 ^ kI g i - 1)) 9223372036854775808) := ⟨rfl, rfl⟩
 obtain ⟨k, hkk⟩ : ∃ k, kI g i = k := ⟨_, rfl⟩
 obtain ⟨q, hqq⟩ : ∃ k, qI g i = k := ⟨_, rfl⟩
 rw [hkk, hqq] at HX HLO hlo
 rw [hkk] at hki
 have h2k : 2 ^ k ≤ 2 ^ 59 := Nat.pow_le_pow_right (by omega) (by omega)
 have h2p : 0 < 2 ^ k := Nat.pow_pos (by omega)
 have HV1 : Hid (IntKind.u64.wrap ((q : Int) * 2 ^ k) = ((loI g i : Nat) : Int)) := by
  have e1 : (q : Int) * 2 ^ k = ((q * 2 ^ k : Nat) : Int) := by rw [Int.natCast_mul, Int.natCast_pow]; rfl
  show _ = _
  rw [e1, HLO.out.1]
  exact wrap_low _ hlo
 have HV2 : Hid (min (IntKind.u64.wrap (((loI g i : Nat) : Int) + IntKind.u64.wrap (IntKind.u64.wrap ((2 : Int) ^ k) - 1))) 9223372036854775808 = ((hiI g i : Nat) : Int)) := by
  have e1 : (2 : Int) ^ k = ((2 ^ k : Nat) : Int) := by rw [Int.natCast_pow]; rfl
  show _ = _
  rw [e1, wrap_high _ _ (by rw [HLO.out.1]; exact hlo) h2p (Nat.le_trans h2k (by decide)), HLO.out.2]
  omega
 have k0 : (0 : Int) ≤ k := by omega
 have k1 : (k : Int) < 64 := by omega
 clear h hkk hgg hi hi' hki hg hg4 hlo hqq h2k h2p
 go_enter Tryz.func125, Tryz.ntmps125
 go_wp2_with fail
 refine HX.out.mono ?_
 rintro e w1 ⟨rfl, hb⟩
 clear HX
 go_wp2
 go_quiet (fail)
 go_wp2
 go_ret2
 exact ⟨by simp only [HV1.out, HV2.out]; rfl, hb.drewN _⟩
theorem sprange_bad (b : Nat) (i d : Int) (w : World) (h : SpanAt w b d) (hi : i < 1 ∨ ((64 - gOf d) * 2 ^ gOf d : Nat) < i) :
  Calls Tryz.prog 125 #[.pointer (some ⟨b, 0, none⟩), .int .i64 i] w fun e w' => e = .returned (.tuple #[.int .u64 0, .int .u64 0]) ∧ Below w.heap.size w w' := by
 have HX := Lib.hid (spparts_bad b i d w h hi)
 clear h hi
 go_enter Tryz.func125, Tryz.ntmps125
 go_wp2_with fail
 refine HX.out.mono ?_
 rintro e w1 ⟨rfl, hb⟩
 clear HX
 go_wp2
 go_ret2
 exact ⟨rfl, hb⟩
theorem hiI_le {g i : Nat} (hg : g ≤ 63) (hi : 0 < i) (hi' : i ≤ (64 - g) * 2 ^ g) : loI g i ≤ hiI g i ∧ hiI g i ≤ 9223372036854775808 := by
 have h1 := (idx_of hg hi hi').2.1
 have h2 : loI g i = qI g i * 2 ^ kI g i := rfl
 rw [← h2] at h1
 unfold hiI
 omega
theorem wrap_mid (lo hi : Nat) (h : lo ≤ hi) (h2 : hi ≤ 9223372036854775808) : IntKind.u64.wrap ((lo : Int) + IntKind.u64.wrap (((hi : Int) - lo).tdiv 2)) = ((lo + (hi - lo) / 2 : Nat) : Int) := by
 rw [Int.tdiv_eq_ediv_of_nonneg (by omega)]; simp only [IntKind.wrap_u64]; omega
theorem sprep_any (b i : Nat) (d : Int) (w : World) (h : SpanAt w b d) (hi : 0 < i) (hi' : i ≤ (64 - gOf d) * 2 ^ gOf d) :
  Calls Tryz.prog 104 #[.pointer (some ⟨b, 0, none⟩), .int .i64 i] w fun e w' => e = .returned (.int .u64 (repI (gOf d) i : Nat)) ∧ Below w.heap.size w w' := by
 have HX := Lib.hid (sprange_any b i d w h hi hi')
 have hg := gOf_le d
 have hb := hiI_le (g := gOf d) (by omega) hi hi'
 have HR : Hid (repI (gOf d) i = loI (gOf d) i + (hiI (gOf d) i - loI (gOf d) i) / 2) := rfl
 obtain ⟨lo, hlo⟩ : ∃ l, loI (gOf d) i = l := ⟨_, rfl⟩
 obtain ⟨hi2, hhi⟩ : ∃ l, hiI (gOf d) i = l := ⟨_, rfl⟩
 rw [hlo, hhi] at HX hb HR
 rw [HR.out]
 have v1 : IntKind.u64.wrap ((hi2 : Int) - lo) = (hi2 : Int) - lo := by simp only [IntKind.wrap_u64]; omega
 have HM := Lib.hid (wrap_mid lo hi2 hb.1 hb.2)
 clear h hi hi' hg hb hlo hhi
 go_enter Tryz.func104, Tryz.ntmps104
 go_wp2_with fail
 refine HX.out.mono ?_
 rintro e w1 ⟨rfl, hb⟩
 clear HX
 go_wp2
 go_ret
 exact ⟨by rw [HM.out]; rfl, hb⟩
theorem sprep_bad (b : Nat) (i d : Int) (w : World) (h : SpanAt w b d) (hi : i < 1 ∨ ((64 - gOf d) * 2 ^ gOf d : Nat) < i) :
  Calls Tryz.prog 104 #[.pointer (some ⟨b, 0, none⟩), .int .i64 i] w fun e w' => e = .returned (.int .u64 0) ∧ Below w.heap.size w w' := by
 have HX := Lib.hid (sprange_bad b i d w h hi)
 clear h hi
 go_enter Tryz.func104, Tryz.ntmps104
 go_wp2_with fail
 refine HX.out.mono ?_
 rintro e w1 ⟨rfl, hb⟩
 clear HX
 go_wp2
 go_ret
 exact ⟨by first | rfl | simp, hb⟩
theorem spindex_zero (b : Nat) (w : World) :
  Calls Tryz.prog 143 #[.pointer (some ⟨b, 0, none⟩), .int .u64 0] w fun e w' => e = .returned (.tuple #[.int .i64 0, .bool false]) ∧ Below w.heap.size w w' := by
 go_enter Tryz.func143, Tryz.ntmps143
 go_wp2
 go_ret2
 exact ⟨rfl, Below.refl _ _⟩
end Go.Proofs.YtlbnlmhcpephbaaGreatDoor

namespace Go.Proofs.YtlbnlmhcpephbaaGreatDoor
open Go.RowKit
def laidL : List (String × DataW Unit) := [("ogive/spans.tens", Rows.laid_ogive_spans_tens)]
theorem gTens : Tryz.prog.globalNamed "ogive/spans.tens" = some 0 := by kernel_rfl
theorem tTens : (Tryz.prog.globals[0]?).map (·.type) = some 211 := by kernel_rfl
theorem cellsTens : Tryz.prog.cellsOf 211 = 5 := by kernel_rfl
theorem cellsU64 : Tryz.prog.cellsOf 23 = 1 := by kernel_rfl
theorem tens_of_laid {W : World} (h : laidMetH Tryz.prog laidL W) : TensAt W := by
 rw [MakeChecks.laidMetH_plain _ _ _ (by kernel_rfl)] at h
 have hT : Lib.TabIs Tryz.prog W "ogive/spans.tens" .u64 [1, 10, 100, 1000, 10000] := Lib.tabIs_of_head (rest := []) gTens tTens Tryz.underlying211 Tryz.underlying23 cellsU64 cellsTens h
 have c : ∀ (i : Nat) (z : Int), i < 5 → ([1, 10, 100, 1000, 10000] : List Int).getD i 0 = z → W.cell? ⟨0, i, none⟩ = some (.int .u64 z) := fun i z hi hz => by
  rw [← hz]; exact hT.cell gTens i hi
 have c0 := c 0 1 (by omega) rfl
 refine ⟨?_, c0, c 1 10 (by omega) rfl, c 2 100 (by omega) rfl, c 3 1000 (by omega) rfl, c 4 10000 (by omega) rfl⟩
 rcases Nat.lt_or_ge 0 W.heap.size with h | h
 ·exact h
 ·exfalso
  unfold World.cell? at c0
  simp [Array.getElem?_eq_none h] at c0
theorem door_met (os : Os) (args : Array Value) : laidMetH Tryz.prog laidL ((World.doorLaid Tryz.prog 400 os).forCall (fun _ _ => 0) ⟨#[], args, []⟩).memory :=
 laidMetH_of_parts3 (fuel := 8) (laidMet_of_run' 8 (by kernel_rfl) (by kernel_rfl)) (by kernel_rfl) (by kernel_rfl)
end Go.Proofs.YtlbnlmhcpephbaaGreatDoor

namespace Go.Proofs.YtlbnlmhcpephbaaGreatDoor
open Go.RowKit
structure Cfg where
 kd : Int
 pn : Int
 pd : Int
 sd : Int
 mo : Int
 dg : Int
 li : Int
 de : Int
 fa : Int
 wi : Int
 wo : Int
def Cfg.row (c : Cfg) : Array Value := #[.int .i64 c.kd, .int .u64 c.pn, .int .u64 c.pd, .int .i64 c.sd, .int .i64 c.mo, .int .i64 c.dg, .int .u64 c.li, .int .i64 c.de, .int .i64 c.fa, .int .i64 c.wi, .int .u64 c.wo]
def Cfg.val (c : Cfg) : Value := .agg c.row
structure Cfg.Ok (c : Cfg) : Prop where
 pn : 0 ≤ c.pn ∧ c.pn < 18446744073709551616
 pd : 0 ≤ c.pd ∧ c.pd < 18446744073709551616
 sd : -9223372036854775808 ≤ c.sd ∧ c.sd ≤ 9223372036854775807
 mo : -9223372036854775808 ≤ c.mo ∧ c.mo ≤ 9223372036854775807
 dg : -9223372036854775808 ≤ c.dg ∧ c.dg ≤ 9223372036854775807
 li : 0 ≤ c.li ∧ c.li < 18446744073709551616
theorem At.el {w : World} {b : Nat} {T : TypeId} {v0 v1 v2 v3 v4 v5 v6 v7 v8 v9 v10 : Value} (h : At w b #[v0, v1, v2, v3, v4, v5, v6, v7, v8, v9, v10] T) :
  (w.cell? ⟨b, 0, none⟩ = some v0 ∧ w.cell? ⟨b, 1, none⟩ = some v1 ∧ w.cell? ⟨b, 2, none⟩ = some v2 ∧ w.cell? ⟨b, 3, none⟩ = some v3 ∧ w.cell? ⟨b, 4, none⟩ = some v4 ∧ w.cell? ⟨b, 5, none⟩ = some v5 ∧ w.cell? ⟨b, 6, none⟩ = some v6 ∧ w.cell? ⟨b, 7, none⟩ = some v7 ∧ w.cell? ⟨b, 8, none⟩ = some v8 ∧ w.cell? ⟨b, 9, none⟩ = some v9 ∧ w.cell? ⟨b, 10, none⟩ = some v10) ∧
  w.frozen? ⟨b, 0, none⟩ = false ∧ w.frozen? ⟨b, 1, none⟩ = false ∧ w.frozen? ⟨b, 2, none⟩ = false ∧ w.frozen? ⟨b, 3, none⟩ = false ∧ w.frozen? ⟨b, 4, none⟩ = false ∧ w.frozen? ⟨b, 5, none⟩ = false ∧ w.frozen? ⟨b, 6, none⟩ = false ∧ w.frozen? ⟨b, 7, none⟩ = false ∧ w.frozen? ⟨b, 8, none⟩ = false ∧ w.frozen? ⟨b, 9, none⟩ = false ∧ w.frozen? ⟨b, 10, none⟩ = false :=
 ⟨⟨h.cell rfl, h.cell rfl, h.cell rfl, h.cell rfl, h.cell rfl, h.cell rfl, h.cell rfl, h.cell rfl, h.cell rfl, h.cell rfl, h.cell rfl⟩, h.frozen 0, h.frozen 1, h.frozen 2, h.frozen 3, h.frozen 4, h.frozen 5, h.frozen 6, h.frozen 7, h.frozen 8, h.frozen 9, h.frozen 10⟩
theorem At.set11 {w : World} {b : Nat} {T : TypeId} {u0 u1 u2 u3 u4 u5 u6 u7 u8 u9 u10 : Value} (h : At w b #[u0, u1, u2, u3, u4, u5, u6, u7, u8, u9, u10] T) (v0 v1 v2 v3 v4 v5 v6 v7 v8 v9 v10 : Value) :
  At (((((((((((w.setCell ⟨b, 0, none⟩ v0).setCell ⟨b, 1, none⟩ v1).setCell ⟨b, 2, none⟩ v2).setCell ⟨b, 3, none⟩ v3).setCell ⟨b, 4, none⟩ v4).setCell ⟨b, 5, none⟩ v5).setCell ⟨b, 6, none⟩ v6).setCell ⟨b, 7, none⟩ v7).setCell ⟨b, 8, none⟩ v8).setCell ⟨b, 9, none⟩ v9).setCell ⟨b, 10, none⟩ v10) b #[v0, v1, v2, v3, v4, v5, v6, v7, v8, v9, v10] T := by
 have k0 : At (w.setCell ⟨b, 0, none⟩ v0) b #[v0, u1, u2, u3, u4, u5, u6, u7, u8, u9, u10] T := At.set_any h 0 v0 rfl
 have k1 : At ((w.setCell ⟨b, 0, none⟩ v0).setCell ⟨b, 1, none⟩ v1) b #[v0, v1, u2, u3, u4, u5, u6, u7, u8, u9, u10] T := At.set_any k0 1 v1 rfl
 have k2 : At (((w.setCell ⟨b, 0, none⟩ v0).setCell ⟨b, 1, none⟩ v1).setCell ⟨b, 2, none⟩ v2) b #[v0, v1, v2, u3, u4, u5, u6, u7, u8, u9, u10] T := At.set_any k1 2 v2 rfl
 have k3 : At ((((w.setCell ⟨b, 0, none⟩ v0).setCell ⟨b, 1, none⟩ v1).setCell ⟨b, 2, none⟩ v2).setCell ⟨b, 3, none⟩ v3) b #[v0, v1, v2, v3, u4, u5, u6, u7, u8, u9, u10] T := At.set_any k2 3 v3 rfl
 have k4 : At (((((w.setCell ⟨b, 0, none⟩ v0).setCell ⟨b, 1, none⟩ v1).setCell ⟨b, 2, none⟩ v2).setCell ⟨b, 3, none⟩ v3).setCell ⟨b, 4, none⟩ v4) b #[v0, v1, v2, v3, v4, u5, u6, u7, u8, u9, u10] T := At.set_any k3 4 v4 rfl
 have k5 : At ((((((w.setCell ⟨b, 0, none⟩ v0).setCell ⟨b, 1, none⟩ v1).setCell ⟨b, 2, none⟩ v2).setCell ⟨b, 3, none⟩ v3).setCell ⟨b, 4, none⟩ v4).setCell ⟨b, 5, none⟩ v5) b #[v0, v1, v2, v3, v4, v5, u6, u7, u8, u9, u10] T := At.set_any k4 5 v5 rfl
 have k6 := At.set_any (cs := #[v0, v1, v2, v3, v4, v5, v6, u7, u8, u9, u10]) k5 6 v6 rfl
 have k7 := At.set_any (cs := #[v0, v1, v2, v3, v4, v5, v6, v7, u8, u9, u10]) k6 7 v7 rfl
 have k8 := At.set_any (cs := #[v0, v1, v2, v3, v4, v5, v6, v7, v8, u9, u10]) k7 8 v8 rfl
 have k9 := At.set_any (cs := #[v0, v1, v2, v3, v4, v5, v6, v7, v8, v9, u10]) k8 9 v9 rfl
 exact At.set_any k9 10 v10 rfl
end Go.Proofs.YtlbnlmhcpephbaaGreatDoor

namespace Go.Proofs.YtlbnlmhcpephbaaGreatDoor
open Go.RowKit
def RdP (w : World) (A : Option Addr) (ps : List (Int × Int)) : Prop := Rd w A (ps.flatMap fun x => [.int .i64 x.1, .int .u64 x.2])
theorem RdP.below {w w' : World} {A : Option Addr} {ps : List (Int × Int)} (h : RdP w A ps) (hb : Below w.heap.size w w') : RdP w' A ps := Rd.below h hb
theorem RdP.at {w : World} {A : Option Addr} {ps : List (Int × Int)} (h : RdP w A ps) (j : Nat) (hj : j < ps.length) :
  ∃ g o, A = some ⟨g, o, none⟩ ∧ g < w.heap.size ∧ w.cell? ⟨g, o + j * 2, none⟩ = some (.int .i64 (ps[j]'hj).1) ∧ w.cell? ⟨g, o + j * 2 + 1, none⟩ = some (.int .u64 (ps[j]'hj).2) := by
 obtain ⟨q0, q1⟩ := flat2 (f := fun x : Int × Int => Value.int .i64 x.1) (g := fun x => Value.int .u64 x.2) ps j hj
 obtain ⟨g, o, rfl, hg, h0⟩ := h _ _ q0
 obtain ⟨g', o', e, _, h1⟩ := h _ _ q1
 simp only [Option.some.injEq, Addr.mk.injEq, and_true] at e
 obtain ⟨rfl, rfl⟩ := e
 exact ⟨g, o, rfl, hg, h0, by rw [← Nat.add_assoc] at h1; exact h1⟩
def okP (ps : List (Int × Int)) : Prop := ∀ x ∈ ps, (-9223372036854775808 ≤ x.1 ∧ x.1 ≤ 9223372036854775807) ∧ (0 ≤ x.2 ∧ x.2 < 18446744073709551616)
theorem okP.at {ps : List (Int × Int)} (h : okP ps) (j : Nat) (hj : j < ps.length) : (-9223372036854775808 ≤ (ps[j]'hj).1 ∧ (ps[j]'hj).1 ≤ 9223372036854775807) ∧ (0 ≤ (ps[j]'hj).2 ∧ (ps[j]'hj).2 < 18446744073709551616) := h _ (List.getElem_mem hj)
def sumP (ps : List (Int × Int)) : Int := (ps.map fun x => x.2).sum
theorem sumP_filter_take (ps : List (Int × Int)) (p : Int × Int → Bool) (k : Nat) (hk : k < ps.length) : sumP ((ps.take (k + 1)).filter p) = sumP ((ps.take k).filter p) + (if p (ps[k]'hk) then (ps[k]'hk).2 else 0) := by
 unfold sumP
 rw [List.take_succ_eq_append_getElem hk, List.filter_append, List.map_append, List.sum_append]
 by_cases h : p (ps[k]'hk) = true <;> simp only [List.filter_cons, h, List.filter_nil, if_true, Bool.false_eq_true, if_false, List.map_cons, List.map_nil, List.sum_cons, List.sum_nil, Int.add_zero]
def findP (t : Int) : Int → List (Int × Int) → Option Int
 | _, [] => none
 | s, p :: l => if 0 < t ∧ t ≤ (s + p.2) % 18446744073709551616 then some p.1 else findP t ((s + p.2) % 18446744073709551616) l
def optI (o : Option Int) : Value := .tuple #[.int .i64 (o.getD 0), .bool o.isSome]
end Go.Proofs.YtlbnlmhcpephbaaGreatDoor

namespace Go.Proofs.YtlbnlmhcpephbaaGreatDoor
open Go.RowKit
def flatP (ps : List (Int × Int)) : List Value := ps.flatMap fun x => [.int .i64 x.1, .int .u64 x.2]
theorem flatP_len (ps : List (Int × Int)) : (flatP ps).length = ps.length * 2 := flat2_len ps
def Own2 (base : Nat) (w : World) (A : Option Addr) (cap : Nat) (ps : List (Int × Int)) : Prop := w.ownsRow base 247 2 (.slice A ps.length cap) ps.length (flatP ps)
theorem Own2.nil (base : Nat) (w : World) : Own2 base w none 0 [] := World.ownsRow_nil w base _ 2
theorem Own2.below {base cap : Nat} {w w' : World} {A : Option Addr} {ps : List (Int × Int)} (h : Own2 base w A cap ps) (hb : Below w.heap.size w w') : Own2 base w' A cap ps := by
 obtain ⟨h1, h2⟩ := h
 refine ⟨h1, ?_⟩
 rcases h2 with h2 | ⟨g, c, cur, e, hg, hc, r⟩
 ·exact .inl h2
 ·exact .inr ⟨g, c, cur, e, hg, (hb.block g (Array.getElem?_eq_some_iff.1 hc).1).trans hc, r⟩
theorem Own2.rd {base cap : Nat} {w : World} {A : Option Addr} {ps : List (Int × Int)} (h : Own2 base w A cap ps) : RdP w A ps := by
 intro j u hj
 rcases h.2 with ⟨e, hn⟩ | ⟨g, c, cur, e, hg, hc, r⟩
 ·have : ps = [] := List.eq_nil_of_length_eq_zero hn
  subst this
  simp at hj
 ·injection e with e1 e2 e3
  subst e1
  have hl := (Array.getElem?_eq_some_iff.1 hc).1
  refine ⟨g, 0, rfl, hl, ?_⟩
  have := World.ownsRow.cells h (g := g) rfl j u hj
  rwa [Addr.add_lit] at this
theorem Own2.base_le {base cap : Nat} {w : World} {A : Option Addr} {ps : List (Int × Int)} (h : Own2 base w A cap ps) : ∀ g, A = some g → base ≤ g.block ∧ g.block < w.heap.size := by
 rintro g rfl
 exact World.ownsRow.lt h g.block rfl
theorem Tryz.underlyingRow : Tryz.prog.underlying 212 = some (.slice 247) := by kernel_rfl
theorem Tryz.infoPair : (Tryz.prog.info? 247).map (fun i => (i.zero, i.size, i.bytes)) = some (some (.agg #[.int .i64 0, .int .u64 0]), 2, 16) := by kernel_rfl
def rowAdd (ps : List (Int × Int)) (q c : Int) : List (Int × Int) :=
 ps.filter (fun x => decide (x.1 < q)) ++ (if 0 < (sumP (ps.filter fun x => decide (x.1 = q)) + c) % 18446744073709551616 then [(q, (sumP (ps.filter fun x => decide (x.1 = q)) + c) % 18446744073709551616)] else []) ++ ps.filter (fun x => decide (q < x.1))
end Go.Proofs.YtlbnlmhcpephbaaGreatDoor

namespace Go.Proofs.YtlbnlmhcpephbaaGreatDoor
def cnt (ps : List (Int × Int)) (i : Int) : Int := sumP (ps.filter fun x => decide (x.1 = i))
structure Gd (ps : List (Int × Int)) : Prop where
 srt : ps.Pairwise fun x y => x.1 < y.1
 pos : ∀ x ∈ ps, 0 < x.2
theorem sumP_nil : sumP [] = 0 := rfl
theorem sumP_cons (x : Int × Int) (ps : List (Int × Int)) : sumP (x :: ps) = x.2 + sumP ps := by simp [sumP]
theorem sumP_append (ps qs : List (Int × Int)) : sumP (ps ++ qs) = sumP ps + sumP qs := by simp [sumP]
theorem cnt_nil (i : Int) : cnt [] i = 0 := rfl
theorem cnt_cons (x : Int × Int) (ps : List (Int × Int)) (i : Int) : cnt (x :: ps) i = (if x.1 = i then x.2 else 0) + cnt ps i := by
 unfold cnt
 by_cases h : x.1 = i
 ·simp [h, sumP_cons]
 ·simp [h]
theorem cnt_append (ps qs : List (Int × Int)) (i : Int) : cnt (ps ++ qs) i = cnt ps i + cnt qs i := by simp [cnt, sumP_append]
theorem cnt_nonneg {ps : List (Int × Int)} (h : ∀ x ∈ ps, 0 < x.2) (i : Int) : 0 ≤ cnt ps i := by
  induction ps with
  | nil => exact Int.le_refl _
  | cons x ps ih =>
    rw [cnt_cons]
    have := ih fun y hy => h y (by simp [hy])
    have := h x (by simp)
    split <;> omega
theorem cnt_le_sumP {ps : List (Int × Int)} (h : ∀ x ∈ ps, 0 < x.2) (i : Int) : cnt ps i ≤ sumP ps := by
  induction ps with
  | nil => exact Int.le_refl _
  | cons x ps ih =>
    rw [cnt_cons, sumP_cons]
    have := ih fun y hy => h y (by simp [hy])
    have := h x (by simp)
    split <;> omega
theorem sumP_nonneg {ps : List (Int × Int)} (h : ∀ x ∈ ps, 0 < x.2) : 0 ≤ sumP ps := Int.le_trans (cnt_nonneg h 0) (cnt_le_sumP h 0)
theorem cnt_zero {ps : List (Int × Int)} {i : Int} (h : ∀ x ∈ ps, x.1 ≠ i) : cnt ps i = 0 := by
  induction ps with
  | nil => rfl
  | cons x ps ih =>
    rw [cnt_cons, if_neg (h x (by simp)), ih fun y hy => h y (by simp [hy])]
    rfl
theorem cnt_pos_mem {ps : List (Int × Int)} {i : Int} (h : 0 < cnt ps i) : ∃ x ∈ ps, x.1 = i := by
  induction ps with
  | nil => rw [cnt_nil] at h; omega
  | cons x ps ih =>
    by_cases hx : x.1 = i
    · exact ⟨x, by simp, hx⟩
    · rw [cnt_cons, if_neg hx] at h
      obtain ⟨y, hy, e⟩ := ih (by omega)
      exact ⟨y, by simp [hy], e⟩
theorem cnt_mem_pos {ps : List (Int × Int)} (h : ∀ x ∈ ps, 0 < x.2) {x : Int × Int} (hx : x ∈ ps) : 0 < cnt ps x.1 := by
  induction ps with
  | nil => simp at hx
  | cons y ps ih =>
    rw [cnt_cons]
    have h' : ∀ x ∈ ps, 0 < x.2 := fun z hz => h z (by simp [hz])
    have := cnt_nonneg h' x.1
    rcases List.mem_cons.1 hx with rfl | hx
    · rw [if_pos rfl]; have := h x (by simp); omega
    · have := ih h' hx
      have := h y (by simp)
      split <;> omega
theorem cnt_filter (p : Int → Bool) (ps : List (Int × Int)) (i : Int) : cnt (ps.filter fun x => p x.1) i = if p i then cnt ps i else 0 := by
  induction ps with
  | nil => simp [cnt_nil]
  | cons x ps ih =>
    by_cases h : p x.1 = true
    · rw [List.filter_cons_of_pos (by simpa using h), cnt_cons, cnt_cons, ih]
      by_cases hx : x.1 = i
      · subst hx; simp [h]
      · simp [hx]
    · rw [List.filter_cons_of_neg (by simpa using h), cnt_cons, ih]
      by_cases hx : x.1 = i
      · subst hx; simp [h]
      · simp [hx]
theorem Gd.tail {x : Int × Int} {ps : List (Int × Int)} (h : Gd (x :: ps)) : Gd ps := ⟨h.srt.of_cons, fun y hy => h.pos y (by simp [hy])⟩
theorem Gd.head {x : Int × Int} {ps : List (Int × Int)} (h : Gd (x :: ps)) : ∀ y ∈ ps, x.1 < y.1 := (List.pairwise_cons.1 h.srt).1
theorem Gd.nil : Gd [] := ⟨List.Pairwise.nil, by simp⟩
theorem sumP_split (ps : List (Int × Int)) (q : Int) : sumP ps = sumP (ps.filter fun x => decide (x.1 < q)) + cnt ps q + sumP (ps.filter fun x => decide (q < x.1)) := by
  induction ps with
  | nil => rfl
  | cons x ps ih =>
    rw [sumP_cons, cnt_cons, ih]
    rcases Int.lt_trichotomy x.1 q with h | h | h
    · simp [List.filter_cons, h, show ¬ x.1 = q by omega, show ¬ q < x.1 by omega, sumP_cons]; omega
    · simp [List.filter_cons, h, sumP_cons]; omega
    · simp [List.filter_cons, h, show ¬ x.1 = q by omega, show ¬ x.1 < q by omega, sumP_cons]; omega
theorem rowAdd_eq {ps : List (Int × Int)} {q c : Int} (h : Gd ps) (hc : 0 < c) (hs : cnt ps q + c < 18446744073709551616) :
  rowAdd ps q c = ps.filter (fun x => decide (x.1 < q)) ++ [(q, cnt ps q + c)] ++ ps.filter (fun x => decide (q < x.1)) := by
 have h0 := cnt_nonneg h.pos q
 unfold rowAdd
 rw [show sumP (ps.filter fun x => decide (x.1 = q)) = cnt ps q from rfl, Int.emod_eq_of_lt (by omega) hs, if_pos (by omega)]
theorem cnt_rowAdd {ps : List (Int × Int)} {q c : Int} (h : Gd ps) (hc : 0 < c) (hs : cnt ps q + c < 18446744073709551616) (i : Int) : cnt (rowAdd ps q c) i = cnt ps i + if i = q then c else 0 := by
 rw [rowAdd_eq h hc hs, cnt_append, cnt_append, cnt_filter (fun y => decide (y < q)), cnt_filter (fun y => decide (q < y)), cnt_cons, cnt_nil]
 dsimp only
 rcases Int.lt_trichotomy i q with hi | hi | hi
 ·simp [hi, show ¬ q < i by omega, show ¬ q = i by omega, show ¬ i = q by omega]
 ·subst hi; simp
 ·simp [hi, show ¬ i < q by omega, show ¬ q = i by omega, show ¬ i = q by omega]
theorem sumP_rowAdd {ps : List (Int × Int)} {q c : Int} (h : Gd ps) (hc : 0 < c) (hs : cnt ps q + c < 18446744073709551616) : sumP (rowAdd ps q c) = sumP ps + c := by
 rw [rowAdd_eq h hc hs, sumP_append, sumP_append, sumP_cons, sumP_nil]
 have := sumP_split ps q
 dsimp only
 omega
theorem Gd.rowAdd {ps : List (Int × Int)} {q c : Int} (h : Gd ps) (hc : 0 < c) (hs : cnt ps q + c < 18446744073709551616) : Gd (rowAdd ps q c) := by
 have h0 := cnt_nonneg h.pos q
 rw [rowAdd_eq h hc hs]
 refine ⟨?_, ?_⟩
 ·rw [List.pairwise_append, List.pairwise_append]
  refine ⟨⟨h.srt.filter _, by simp, ?_⟩, h.srt.filter _, ?_⟩
  ·intro x hx y hy
   simp only [List.mem_filter, decide_eq_true_eq, List.mem_singleton] at hx hy
   subst hy
   exact hx.2
  ·intro x hx y hy
   simp only [List.mem_append, List.mem_filter, decide_eq_true_eq, List.mem_singleton] at hx hy
   rcases hx with hx | rfl
   ·have := hx.2; have := hy.2; omega
   ·exact hy.2
 ·intro x hx
  simp only [List.mem_append, List.mem_filter, List.mem_singleton] at hx
  rcases hx with (hx | rfl) | hx
  ·exact h.pos x hx.1
  ·show 0 < cnt ps q + c; omega
  ·exact h.pos x hx.1
theorem okP_rowAdd {ps : List (Int × Int)} {q c : Int} (h : okP ps) (hq : -9223372036854775808 ≤ q ∧ q ≤ 9223372036854775807) : okP (rowAdd ps q c) := by
 intro x hx
 unfold rowAdd at hx
 simp only [List.mem_append, List.mem_filter] at hx
 rcases hx with (hx | hx) | hx
 ·exact h x hx.1
 ·split at hx
  ·simp only [List.mem_singleton] at hx
   subst hx
   exact ⟨hq, by dsimp only; omega⟩
  ·simp at hx
 ·exact h x hx.1
def span (ps : List (Int × Int)) : Int := (ps.getD (ps.length - 1) (0, 0)).1 - (ps.getD 0 (0, 0)).1
theorem Gd.le {ps : List (Int × Int)} (h : Gd ps) {i j : Nat} (hij : i ≤ j) (hj : j < ps.length) : (ps.getD i (0, 0)).1 ≤ (ps.getD j (0, 0)).1 := by
 rw [List.getD_eq_getElem?_getD, List.getD_eq_getElem?_getD, List.getElem?_eq_getElem (by omega), List.getElem?_eq_getElem hj]
 by_cases e : i = j
 ·subst e; exact Int.le_refl _
 ·exact Int.le_of_lt (List.pairwise_iff_getElem.1 h.srt i j (by omega) hj (by omega))
theorem getD_mem' {ps : List (Int × Int)} {i : Nat} (hi : i < ps.length) : ps.getD i (0, 0) ∈ ps := by
 rw [List.getD_eq_getElem?_getD, List.getElem?_eq_getElem hi]
 exact List.getElem_mem hi
theorem sumP_filter_le {ps : List (Int × Int)} (h : ∀ x ∈ ps, 0 < x.2) (p : Int × Int → Bool) : 0 ≤ sumP (ps.filter p) ∧ sumP (ps.filter p) ≤ sumP ps := by
  induction ps with
  | nil => exact ⟨Int.le_refl _, Int.le_refl _⟩
  | cons x ps ih =>
    have := ih fun y hy => h y (by simp [hy])
    have := h x (by simp)
    rw [List.filter_cons, sumP_cons]
    split
    · rw [sumP_cons]; omega
    · omega
theorem findP_zero (ps : List (Int × Int)) : ∀ s, findP 0 s ps = none := by
 induction ps with
 | nil => intro s; rfl
 | cons x ps ih => intro s; rw [findP, if_neg (by omega)]; exact ih _
def upto (ps : List (Int × Int)) (q : Int) : Int := sumP (ps.filter fun x => decide (x.1 ≤ q))
theorem cnt_le_upto {ps : List (Int × Int)} (h : ∀ x ∈ ps, 0 < x.2) (q : Int) : cnt ps q ≤ upto ps q := by
 have : ps.filter (fun x => decide (x.1 = q)) = (ps.filter fun x => decide (x.1 ≤ q)).filter fun x => decide (x.1 = q) := by
  rw [List.filter_filter]
  refine List.filter_congr fun x _ => ?_
  by_cases e : x.1 = q
  ·simp [e]
  ·simp [e]
 unfold cnt upto
 rw [this]
 exact (sumP_filter_le (fun x hx => h x (List.mem_filter.1 hx).1) _).2
end Go.Proofs.YtlbnlmhcpephbaaGreatDoor
