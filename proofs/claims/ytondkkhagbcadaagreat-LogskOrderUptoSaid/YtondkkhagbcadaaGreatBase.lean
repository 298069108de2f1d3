/- Plain lemmas on worlds that all other texts of this claim lean on; no program in sight. -/
import Derived.WalkKit
import Derived.Lib.Hide
import Derived.Deep.RegionHeld3
import Derived.Deep.QuietTactic
import Derived.BigQuiet
import Derived.WalkSpells
import Derived.WalkLawsBesides
import Derived.Deep.CutBlock
import Derived.Deep.DeepCutAuto
import Derived.Maps.AppendAt
namespace Go.Proofs.YtondkkhagbcadaaGreat
open Go.RowKit

theorem bcell {W w1 : World} (hb : Below W.heap.size W w1) : (∀ b o, b < W.heap.size → w1.cell? ⟨b, o, none⟩ = W.cell? ⟨b, o, none⟩) ∧ (∀ b o, b < W.heap.size → w1.frozen? ⟨b, o, none⟩ = W.frozen? ⟨b, o, none⟩) :=
  ⟨fun b o h => hb.cell (p := ⟨b, o, none⟩) h, fun b o h => hb.frozen (p := ⟨b, o, none⟩) h⟩

theorem _root_.Go.RowKit.Below.drewN {B : Nat} {a w : World} (h : Below B a w) (n : Nat) : Below B a (w.drewN n) := ⟨h.os, h.tape, h.output, h.size, h.block⟩

theorem cellB {B : Nat} {w w' : World} (h : Below B w w') {b o : Nat} (hb : b < B) {v : Option Value} (hv : w.cell? ⟨b, o, none⟩ = v) : w'.cell? ⟨b, o, none⟩ = v := (h.cell (p := ⟨b, o, none⟩) hb).trans hv
theorem frozB {B : Nat} {w w' : World} (h : Below B w w') {b o : Nat} (hb : b < B) {v : Bool} (hv : w.frozen? ⟨b, o, none⟩ = v) : w'.frozen? ⟨b, o, none⟩ = v := (h.frozen (p := ⟨b, o, none⟩) hb).trans hv

/-- Block b of the world is a row of just these cells, none of them frozen. -/
def At (w : World) (b : Nat) (cs : Array Value) (T : TypeId) : Prop := w.heap[b]? = some (.cells cs T (0, 0))

namespace At
variable {w w' : World} {b b' i : Nat} {cs : Array Value} {T : TypeId}
theorem lt (h : At w b cs T) : b < w.heap.size := (Array.getElem?_eq_some_iff.1 h).1
theorem new (w : World) (cs : Array Value) (T : TypeId) : At (w.alloc (.cells cs T)) w.heap.size cs T := heap_alloc_new w _
theorem new' (w : World) (cs : Array Value) (T : TypeId) (hb : b = w.heap.size) : At (w.alloc (.cells cs T)) b cs T := hb ▸ heap_alloc_new w _
theorem alloc (h : At w b cs T) (o : Obj) : At (w.alloc o) b cs T := (Below.heap_alloc w o b h.lt).trans h
theorem drew (h : At w b cs T) : At w.drew b cs T := h
theorem drewN (h : At w b cs T) (n : Nat) : At (w.drewN n) b cs T := h
theorem of_below {B : Nat} (h : At w b cs T) (hb : Below B w w') (hB : b < B) : At w' b cs T := (hb.block b hB).trans h
theorem below (h : At w b cs T) (hb : Below w.heap.size w w') : At w' b cs T := h.of_below hb h.lt
theorem set_other (h : At w b cs T) {p : Addr} (hne : b ≠ p.block) (v : Value) : At (w.setCell p v) b cs T := (Below.heap_setCell w p v b hne).trans h
theorem set_same (h : At w b cs T) (i : Nat) (v : Value) : At (w.setCell ⟨b, i, none⟩ v) b (cs.setIfInBounds i v) T := by
  unfold At at *
  simp [World.setCell, Array.getElem?_modify, h]
theorem set_any {c0 : Array Value} (h : At w b c0 T) (i : Nat) (v : Value) (hc : c0.setIfInBounds i v = cs) : At (w.setCell ⟨b, i, none⟩ v) b cs T := hc ▸ h.set_same i v
theorem set2 {u0 u1 : Value} (h : At w b #[u0, u1] T) (x y : Value) : At ((w.setCell ⟨b, 0, none⟩ x).setCell ⟨b, 1, none⟩ y) b #[x, y] T := (h.set_same 0 x).set_same 1 y
theorem cell {v : Value} (h : At w b cs T) (hi : cs[i]? = some v) : w.cell? ⟨b, i, none⟩ = some v := by
  unfold At at h
  simp [World.cell?, h, hi]
theorem frozen (h : At w b cs T) (i : Nat) : w.frozen? ⟨b, i, none⟩ = false := by
  unfold At at h
  simp [World.frozen?, h]
theorem one {v0 : Value} (h : At w b #[v0] T) : w.cell? ⟨b, 0, none⟩ = some v0 ∧ w.frozen? ⟨b, 0, none⟩ = false := ⟨h.cell rfl, h.frozen 0⟩
theorem two {v0 v1 : Value} (h : At w b #[v0, v1] T) : w.cell? ⟨b, 0, none⟩ = some v0 ∧ w.cell? ⟨b, 1, none⟩ = some v1 ∧ w.frozen? ⟨b, 0, none⟩ = false ∧ w.frozen? ⟨b, 1, none⟩ = false := ⟨h.cell rfl, h.cell rfl, h.frozen 0, h.frozen 1⟩
theorem three {v0 v1 v2 : Value} (h : At w b #[v0, v1, v2] T) : w.cell? ⟨b, 0, none⟩ = some v0 ∧ w.cell? ⟨b, 1, none⟩ = some v1 ∧ w.cell? ⟨b, 2, none⟩ = some v2 ∧ w.frozen? ⟨b, 0, none⟩ = false ∧ w.frozen? ⟨b, 1, none⟩ = false ∧ w.frozen? ⟨b, 2, none⟩ = false := ⟨h.cell rfl, h.cell rfl, h.cell rfl, h.frozen 0, h.frozen 1, h.frozen 2⟩
end At

theorem keep1 {W0 W w' : World} (hB : Below W0.heap.size W0 W) (hb : Below W.heap.size W w') : Below W0.heap.size W0 w' := hB.trans (hb.mono hB.size)

/-- The world under a name, with what is known of it. -/
theorem gen_world {P : Program} {c : Code} {Q : Exit → Act → World → Prop} {a : Act} {w : World} (S : World → Prop) (hS : S w) (h : ∀ W, S W → c.wp P Q a W) : c.wp P Q a w := h w hS

/-- A wide number comes back: its value; the world has new blocks alone. -/
def RetW (w : World) (X : Int) (e : Ending) (w' : World) : Prop :=
  ∃ hi lo : Int, 0 ≤ hi ∧ hi < 18446744073709551616 ∧ 0 ≤ lo ∧ lo < 18446744073709551616 ∧ hi * 18446744073709551616 + lo = X ∧
    e = .returned (.agg #[.int .u64 hi, .int .u64 lo]) ∧ Below w.heap.size w w'

/-- A wide number and a bool come back. -/
def RetWB (w : World) (X : Int) (b : Bool) (e : Ending) (w' : World) : Prop :=
  ∃ hi lo : Int, 0 ≤ hi ∧ hi < 18446744073709551616 ∧ 0 ≤ lo ∧ lo < 18446744073709551616 ∧ hi * 18446744073709551616 + lo = X ∧
    e = .returned (.tuple #[.agg #[.int .u64 hi, .int .u64 lo], .bool b]) ∧ Below w.heap.size w w'

/-- -1, 0 or 1. -/
def cmpI (x y : Int) : Int := if x < y then -1 else if x = y then 0 else 1

end Go.Proofs.YtondkkhagbcadaaGreat
