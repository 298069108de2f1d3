/- A store of either side, and a partition of either kind: what a call through an interface comes to, and the contracts. -/
import Derived.Test.YtondkkhagbcadaaGreatProg
import Derived.Test.YtondkkhagbcadaaGreatLowAll
import Derived.Test.YtondkkhagbcadaaGreatHighAll
import Derived.Test.YtondkkhagbcadaaGreatSpanAll
import Derived.Test.YtondkkhagbcadaaGreatPartD
import Derived.Test.YtondkkhagbcadaaGreatCellsAll
namespace Go.Proofs.YtondkkhagbcadaaGreat
open Go.RowKit

/-! ## Calls through an interface. -/
structure SKnd where
  T : TypeId
  fA : FuncId
  fT : FuncId
  fL : FuncId
  fP : FuncId
  fF : FuncId
  fB : FuncId
def sKnd : Bool → SKnd
  | true => ⟨149, 151, 93, 154, 155, 153, 152⟩
  | false => ⟨151, 157, 96, 160, 161, 159, 158⟩
/-- A method of an interface's value: which function it is. -/
def Meth (T : TypeId) (name : String) (f : FuncId) : Prop := (∀ (c : Nat) (w : World), (method 309 T (.pointer (some ⟨c, 0, none⟩)) name).run Tryz.prog w = .ok (f, .pointer (some ⟨c, 0, none⟩)) w) ∧ ∀ (args : Array Value) (w : World), (callFunc f args).run Tryz.prog w = .ok (.enter f args) w
theorem sAdd (s : Bool) : Meth (sKnd s).T "Add" (sKnd s).fA := by cases s <;> exact ⟨fun c w => by kernel_rfl, fun a w => by kernel_rfl⟩
theorem sTotal (s : Bool) : Meth (sKnd s).T "Total" (sKnd s).fT := by cases s <;> exact ⟨fun c w => by kernel_rfl, fun a w => by kernel_rfl⟩
theorem sLost (s : Bool) : Meth (sKnd s).T "Lost" (sKnd s).fL := by cases s <;> exact ⟨fun c w => by kernel_rfl, fun a w => by kernel_rfl⟩
theorem sPairs (s : Bool) : Meth (sKnd s).T "Pairs" (sKnd s).fP := by cases s <;> exact ⟨fun c w => by kernel_rfl, fun a w => by kernel_rfl⟩
theorem sFind (s : Bool) : Meth (sKnd s).T "Find" (sKnd s).fF := by cases s <;> exact ⟨fun c w => by kernel_rfl, fun a w => by kernel_rfl⟩

structure PKnd where
  T : TypeId
  fI : FuncId
  fR : FuncId
/-- By digits (true), or by a table. -/
def pKnd : Bool → PKnd
  | _ => ⟨109, 141, 143⟩
theorem pIndex (k : Bool) : Meth (pKnd k).T "Index" (pKnd k).fI := by cases k <;> exact ⟨fun c w => by kernel_rfl, fun a w => by kernel_rfl⟩
theorem pRep (k : Bool) : Meth (pKnd k).T "Rep" (pKnd k).fR := by cases k <;> exact ⟨fun c w => by kernel_rfl, fun a w => by kernel_rfl⟩

/-! ## Stores. -/
/-- What a store keeps (of the greatest parts: true; of the least ones), and how many there are in all. -/
def Sto (w : World) : Bool → Nat → List Nat → Int → List (Int × Int) → Int → Prop
  | true => Lo.Low w
  | false => Hi.High w
section
variable {w w' : World} {s : Bool} {b : Nat} {S T : List Nat} {most tot : Int} {ps : List (Int × Int)}
theorem Sto.frame (h : Sto w s b S most ps tot) (hf : Frame T w w') (hn : Apart S T) : Sto w' s b S most ps tot := by
  cases s
  · exact Hi.High.frame h hf hn
  · exact Lo.Low.frame h hf hn
theorem Sto.below (h : Sto w s b S most ps tot) (hb : Below w.heap.size w w') : Sto w' s b S most ps tot := h.frame (T := []) (Frame.of_below hb) (fun _ _ => by simp)
theorem Sto.lt (h : Sto w s b S most ps tot) : ∀ k ∈ S, k < w.heap.size := by
  cases s
  · exact Hi.High.lt h
  · exact Lo.Low.lt h
theorem Sto.mem (h : Sto w s b S most ps tot) : b ∈ S := by
  cases s
  · exact Hi.HighR.mem (Hi.High.r h)
  · exact Lo.LowR.mem (Lo.Low.r h)
theorem Sto.gd (h : Sto w s b S most ps tot) : Gd ps := by
  cases s
  · exact Hi.High.gd h
  · exact Lo.Low.gd h
theorem Sto.ok (h : Sto w s b S most ps tot) : okP ps := by
  cases s
  · exact Hi.High.ok h
  · exact Lo.Low.ok h
theorem Sto.len (h : Sto w s b S most ps tot) : (ps.length : Int) ≤ most ∧ ps.length ≤ 4096 := by
  cases s
  · exact Hi.High.len h
  · exact Lo.Low.len h
theorem Sto.m14 (h : Sto w s b S most ps tot) : 1 ≤ most ∧ most ≤ 4096 := by
  cases s
  · exact ⟨Hi.High.m1 h, Hi.High.most4 h⟩
  · exact ⟨Lo.Low.m1 h, Lo.Low.most4 h⟩
theorem Sto.sums (h : Sto w s b S most ps tot) : 0 ≤ sumP ps ∧ sumP ps ≤ tot ∧ tot ≤ 9223372036854775807 := by
  cases s
  · exact ⟨Hi.High.sum0 h, Hi.High.lo h, Hi.High.hi h⟩
  · exact ⟨Lo.Low.sum0 h, Lo.Low.lo h, Lo.Low.hi h⟩
end
theorem sto_total (s : Bool) (b : Nat) (S : List Nat) (most tot : Int) (ps : List (Int × Int)) (w : World) (h : Sto w s b S most ps tot) :
    Calls Tryz.prog (sKnd s).fT #[.pointer (some ⟨b, 0, none⟩)] w fun e w' => e = .returned (.int .u64 tot) ∧ Below w.heap.size w w' := by
  cases s
  · exact Hi.ltotal_any b S most tot ps w h
  · exact Lo.ltotal_any b S most tot ps w h
theorem sto_lost (s : Bool) (b : Nat) (S : List Nat) (most tot : Int) (ps : List (Int × Int)) (w : World) (h : Sto w s b S most ps tot) :
    Calls Tryz.prog (sKnd s).fL #[.pointer (some ⟨b, 0, none⟩)] w fun e w' => e = .returned (.int .u64 (tot - sumP ps)) ∧ w = w' := by
  cases s
  · exact Hi.llost_any b S most tot ps w h
  · exact Lo.llost_any b S most tot ps w h
theorem sto_pairs (s : Bool) (b : Nat) (S : List Nat) (most tot : Int) (ps : List (Int × Int)) (w : World) (h : Sto w s b S most ps tot) :
    Calls Tryz.prog (sKnd s).fP #[.pointer (some ⟨b, 0, none⟩)] w fun e w' => CloR ps w e w' := by
  cases s
  · exact Hi.lpairs_any b S most tot ps w h
  · exact Lo.lpairs_any b S most tot ps w h
/-- What an addition leaves. -/
def StoA (s : Bool) (b : Nat) (S : List Nat) (most : Int) (ps : List (Int × Int)) (tot : Int) (w w' : World) : Prop :=
  ∃ S', GrownS S S' w.heap.size ∧ Sto w' s b S' most ps tot ∧ Frame S w w'
theorem sto_add (s : Bool) (b : Nat) (S : List Nat) (most tot q cc : Int) (ps : List (Int × Int)) (w : World) (h : Sto w s b S most ps tot) (hc : 0 < cc) (ht : tot + cc ≤ 9223372036854775807) (hq : -9223372036854775808 ≤ q ∧ q ≤ 9223372036854775807) :
    Calls Tryz.prog (sKnd s).fA #[.pointer (some ⟨b, 0, none⟩), .int .i64 q, .int .u64 cc] w fun e w' => e = .returned (.int .i64 0) ∧ StoA s b S most (capRow s most ps q cc) (tot + cc) w w' := by
  cases s
  · exact Hi.ladd_any b S most tot q cc ps w h hc ht hq
  · exact Lo.ladd_any b S most tot q cc ps w h hc ht hq
/-- What it finds of what is kept: so many are lost. -/
def stoFind : Bool → Int → List (Int × Int) → Int → Option Int
  | true => Lo.lowFind
  | false => Hi.lowFind
theorem sto_find (s : Bool) (b : Nat) (S : List Nat) (most tot t : Int) (ps : List (Int × Int)) (w : World) (h : Sto w s b S most ps tot) (ht : 0 ≤ t ∧ t < 18446744073709551616) :
    Calls Tryz.prog (sKnd s).fF #[.pointer (some ⟨b, 0, none⟩), .int .u64 t] w fun e w' => e = .returned (optI (stoFind s (tot - sumP ps) ps t)) ∧ Below w.heap.size w w' := by
  cases s
  · exact Hi.lfind_any b S most tot t ps w h ht
  · exact Lo.lfind_any b S most tot t ps w h ht
def stoBelow : Bool → Int → Int → List (Int × Int) → Int → Int × Int
  | true => Lo.lowBelow
  | false => Hi.lowBelow

/-! ## Partitions. -/
/-- A partition: the part of each magnitude, and what stands for each part (0: there is none such). -/
structure Prt (w : World) (k : Bool) (a : Nat) (part : Nat → Int) (rep : Int → Int) : Prop where
  ix : ∀ W, Below w.heap.size w W → ∀ m : Nat, 0 < m → m ≤ 9223372036854775808 →
    Calls Tryz.prog (pKnd k).fI #[.pointer (some ⟨a, 0, none⟩), .int .u64 m] W fun e W' => e = .returned (.tuple #[.int .i64 (part m), .bool true]) ∧ Below W.heap.size W W'
  i0 : ∀ W, Below w.heap.size w W → Calls Tryz.prog (pKnd k).fI #[.pointer (some ⟨a, 0, none⟩), .int .u64 0] W fun e W' => e = .returned (.tuple #[.int .i64 0, .bool false]) ∧ Below W.heap.size W W'
  rp : ∀ W, Below w.heap.size w W → ∀ i : Int, -9223372036854775808 ≤ i → i ≤ 9223372036854775807 →
    Calls Tryz.prog (pKnd k).fR #[.pointer (some ⟨a, 0, none⟩), .int .i64 i] W fun e W' => e = .returned (.int .u64 (rep i)) ∧ Below W.heap.size W W'
  rng : ∀ m : Nat, 0 < m → m ≤ 9223372036854775808 → 0 ≤ part m ∧ part m ≤ 1048576
  some : ∀ m : Nat, 0 < m → m ≤ 9223372036854775808 → 0 < rep (part m)
  hi : ∀ i, 0 ≤ rep i ∧ rep i ≤ 9223372036854775808
  mono : PartMono part
theorem Prt.below {w w' : World} {k : Bool} {a : Nat} {part : Nat → Int} {rep : Int → Int} (h : Prt w k a part rep) (hb : Below w.heap.size w w') : Prt w' k a part rep :=
  ⟨fun W hW => h.ix W (keep1 hb hW), fun W hW => h.i0 W (keep1 hb hW), fun W hW => h.rp W (keep1 hb hW), h.rng, h.some, h.hi, h.mono⟩
end Go.Proofs.YtondkkhagbcadaaGreat
