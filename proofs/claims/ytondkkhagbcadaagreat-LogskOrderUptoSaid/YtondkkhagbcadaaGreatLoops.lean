/- Frames, sets of blocks, and loops over iterators in a plain walk; no program in sight. -/
import Derived.RangeFuncNested
import Derived.RangeFuncBound
import Derived.RangeFuncCalls
import Derived.RangeFuncLeaves
import Derived.RangeFuncBox
import Derived.Shelf.Abstract
import Derived.Shelf.RegionOpen
import Derived.WalkKit
import Derived.OwnWalkIn
import Derived.TacticsInMore
import Derived.LoopNIn
import Derived.LoopIn
import Derived.Test.YtondkkhagbcadaaGreatBase
import Derived.Test.YtondkkhagbcadaaGreatOpen
namespace Go.Proofs.YtondkkhagbcadaaGreat
open Go.RowKit Go.Shelf

/-- All blocks of the world lie as they lay, but those of a list. -/
structure Frame (S : List Nat) (w w' : World) : Prop where
  os : w'.os = w.os
  tape : w'.tape = w.tape
  output : w'.output = w.output
  size : w.heap.size ≤ w'.heap.size
  block : ∀ k, k < w.heap.size → k ∉ S → w'.heap[k]? = w.heap[k]?

theorem Frame.of_below {S : List Nat} {w w' : World} (h : Below w.heap.size w w') : Frame S w w' := ⟨h.os, h.tape, h.output, h.size, fun k hk _ => h.block k hk⟩
theorem Frame.trans {S : List Nat} {w w1 w2 : World} (h : Frame S w w1) (k : Frame S w1 w2) : Frame S w w2 :=
  ⟨k.os.trans h.os, k.tape.trans h.tape, k.output.trans h.output, Nat.le_trans h.size k.size, fun i hi hn => (k.block i (Nat.lt_of_lt_of_le hi h.size) hn).trans (h.block i hi hn)⟩
theorem Frame.set (S : List Nat) (w : World) (b i : Nat) (v : Value) (hb : b ∈ S) : Frame S w (w.setCell ⟨b, i, none⟩ v) :=
  ⟨rfl, rfl, rfl, by simp [World.setCell], fun k _ hn => Below.heap_setCell w _ v k (by show k ≠ b; rintro rfl; exact hn hb)⟩
theorem Frame.at {S : List Nat} {b : Nat} {w w' : World} {cs : Array Value} {T : TypeId} (h : Frame S w w') (hs : At w b cs T) (hn : b ∉ S) : At w' b cs T := (h.block b hs.lt hn).trans hs
theorem Frame.drew {S : List Nat} {w w' : World} (h : Frame S w w') : Frame S w w'.drew := ⟨h.os, h.tape, h.output, h.size, h.block⟩
theorem Frame.drewN {S : List Nat} {w w' : World} (h : Frame S w w') (n : Nat) : Frame S w (w'.drewN n) := ⟨h.os, h.tape, h.output, h.size, h.block⟩
theorem Frame.refl (S : List Nat) (w : World) : Frame S w w := ⟨rfl, rfl, rfl, Nat.le_refl _, fun _ _ _ => rfl⟩
theorem Frame.setc {S : List Nat} {b : Nat} {w w' : World} (h : Frame S w w') (hb : b ∈ S ∨ w.heap.size ≤ b) (i : Nat) (v : Value) : Frame S w (w'.setCell ⟨b, i, none⟩ v) :=
  ⟨h.os, h.tape, h.output, by simpa [World.setCell] using h.size, fun k hk hn => (Below.heap_setCell w' _ v k (fun (e : k = b) => hb.elim (fun hb => hn (e ▸ hb)) (fun hb => absurd hk (by omega)))).trans (h.block k hk hn)⟩
theorem Frame.alloc {S : List Nat} {w w' : World} (h : Frame S w w') (o : Obj) : Frame S w (w'.alloc o) := h.trans (Frame.of_below ((Below.refl _ _).alloc (Nat.le_refl _) o))
/-- Where the blocks of the list are new, all lies as it lay. -/
theorem Frame.below {S : List Nat} {B : Nat} {w0 w w' : World} (hB : Below B w0 w) (hz : B ≤ w.heap.size) (h : Frame S w w') (hS : ∀ k ∈ S, B ≤ k) : Below B w0 w' :=
  hB.trans ⟨h.os, h.tape, h.output, h.size, fun k hk => h.block k (Nat.lt_of_lt_of_le hk hz) fun hm => absurd (hS k hm) (by omega)⟩

theorem Frame.rd {S : List Nat} {w w' : World} {A : Option Addr} {cs : List Value} (h : Frame S w w') (hr : Rd w A cs) (hn : ∀ a, A = some a → a.block ∉ S) : Rd w' A cs := fun j u hj => by
  obtain ⟨g, o, rfl, hg, hc⟩ := hr j u hj
  refine ⟨g, o, rfl, Nat.lt_of_lt_of_le hg h.size, ?_⟩
  rw [← hc]
  exact World.cell?_of_block (w := w) (h.block g hg (hn _ rfl))
/-! Sets of blocks. -/
def Apart (S T : List Nat) : Prop := ∀ k ∈ S, k ∉ T
def GrownS (S S' : List Nat) (n : Nat) : Prop := ∀ k ∈ S', k ∈ S ∨ n ≤ k
def Within (S : List Nat) (lo hi : Nat) : Prop := ∀ k ∈ S, lo ≤ k ∧ k < hi
theorem Apart.symm {S T : List Nat} (h : Apart S T) : Apart T S := fun k hk hn => h k hn hk
theorem Apart.grown {S S' T : List Nat} {n lo : Nat} (h : Apart S T) (hg : GrownS S S' n) (hw : Within T lo n) : Apart S' T := fun k hk hn => by
  rcases hg k hk with h1 | h1
  · exact h k h1 hn
  · have := (hw k hn).2; omega
theorem Within.mono {S : List Nat} {lo hi hi' : Nat} (h : Within S lo hi) (hh : hi ≤ hi') : Within S lo hi' := fun k hk => ⟨(h k hk).1, Nat.lt_of_lt_of_le (h k hk).2 hh⟩
theorem Within.grown {S S' : List Nat} {lo hi n : Nat} (h : Within S lo n) (hg : GrownS S S' n) (hl : lo ≤ n) (hs : ∀ k ∈ S', k < hi) : Within S' lo hi := fun k hk => ⟨by
  rcases hg k hk with h1 | h1
  · exact (h k h1).1
  · omega, hs k hk⟩
theorem GrownS.refl (S : List Nat) (n : Nat) : GrownS S S n := fun _ hk => .inl hk
theorem Frame.below' {S : List Nat} {lo : Nat} {w0 w w' : World} (h : Frame S w w') (hB : Below lo w0 w) (hz : lo ≤ w.heap.size) (hS : Within S lo w.heap.size) : Below lo w0 w' := h.below hB hz fun k hk => (hS k hk).1
theorem Frame.mono {S T : List Nat} {w w' : World} (h : Frame S w w') (hs : ∀ k ∈ S, k ∈ T) : Frame T w w' := ⟨h.os, h.tape, h.output, h.size, fun k hk hn => h.block k hk fun hm => hn (hs k hm)⟩

/-- What a round of a loop keeps: the blocks that lay below n₀, and one more. -/
def KpB (n₀ Bn : Nat) (W W' : World) : Prop := ∀ k, k < n₀ ∨ k = Bn → W'.heap[k]? = W.heap[k]?
theorem KpB.trans {n₀ Bn : Nat} {A B C : World} (h : KpB n₀ Bn A B) (k : KpB n₀ Bn B C) : KpB n₀ Bn A C := fun i hi => (k i hi).trans (h i hi)
theorem KpB.refl (n₀ Bn : Nat) (A : World) : KpB n₀ Bn A A := fun _ _ => rfl
theorem KpB.turn {n₀ Bn : Nat} {w : World} (hn : n₀ ≤ w.heap.size) (hB : Bn < w.heap.size) (W : World) (l : Nat) (o o' : Obj) (hl : w.heap.size ≤ l) (_ : W.heap[l]? = some o) (_ : o.isCells = false) (_ : o.isWalk = false) : KpB n₀ Bn W (W.putObj l o') :=
  fun k hk => World.putObj_heap_other (fun e => by omega)
theorem KpB.at {n₀ Bn k : Nat} {A B : World} {cs : Array Value} {T : TypeId} (h : KpB n₀ Bn A B) (hs : At A k cs T) (hk : k < n₀ ∨ k = Bn) : At B k cs T := (h k hk).trans hs
theorem KpB.set {n₀ Bn b : Nat} (W : World) (hb : n₀ ≤ b) (hn : b ≠ Bn) (i : Nat) (v : Value) : KpB n₀ Bn W (W.setCell ⟨b, i, none⟩ v) := fun k hk => Below.heap_setCell W _ v k (by show k ≠ b; omega)

theorem calls_of_wp_marks {P : Program} {f : FuncId} {fn : Func} {c : Code} {args : Array Value} {w : World} {R : Ending → World → Prop} (hf : P.funcs[f]? = some fn) (hb : fn.body = some c)
    (h : c.wp P (bodyPostM Fence.wide 5 P fn R) { tmps := args ++ Array.replicate (fn.ntmps - args.size) undef, defers := [] } w) : Calls P f args w R :=
  (callsIn_wide (n := 5)).1 (callsIn_of_wp_marks (F := Fence.wide) (n := 5) hf hb trivial (wpIn_wide.2 h) rfl)

/-! What a caller's own blocks hold abides the turn of what is no cells. -/
theorem At.grown {W W' : World} {row : Option Nat} {b : Nat} {cs : Array Value} {T : TypeId} (h : At W b cs T) (hg : W.grownBy W' row) (hr : ∀ r, row = some r → ∃ o : Obj, W.heap[r]? = some o ∧ o.isCells = false) : At W' b cs T := by
  refine (hg.block b h.lt ?_).trans h
  intro e
  obtain ⟨o, ho, hc⟩ := hr b e.symm
  rw [show W.heap[b]? = _ from h] at ho
  cases ho
  cases hc
theorem At.own {β : Type} {B b : Nat} {T : TypeId} (cs : β → Array Value) : OwnFrom B (fun (s : β) W => At W b (cs s) T) := fun s W W' row h hg hr => h.grown hg fun r e => (hr r e).2
theorem OwnFrom.ex {β γ : Type} {B : Nat} {I : γ → β → World → Prop} (h : ∀ c, OwnFrom B (I c)) : OwnFrom B (fun s W => ∃ c, I c s W) := fun s W W' row ⟨c, hc⟩ hg hr => ⟨c, h c s W W' row hc hg hr⟩
theorem OwnFrom.pure {β : Type} {B : Nat} (p : β → Prop) : OwnFrom B (fun s (_ : World) => p s) := fun _ _ _ _ h _ _ => h
theorem frame_own {β : Type} (S : List Nat) (w1 : World) : OwnFrom w1.heap.size (fun (_ : β) W => Frame S w1 W) := fun _ W W' row h hg hr =>
  ⟨hg.os.trans h.os, hg.tape.trans h.tape, hg.output.trans h.output, Nat.le_trans h.size hg.size, fun k hk hn => (hg.block k (Nat.lt_of_lt_of_le hk h.size) fun e => by have := (hr k e.symm).1; omega).trans (h.block k hk hn)⟩
theorem Below.ownF {β : Type} {w w1 : World} {n : Nat} (hn : n ≤ w1.heap.size) (hz : n = w.heap.size) : OwnFrom w1.heap.size (fun (_ : β) W => Below w.heap.size w W) := by
  subst hz
  exact ownFrom_below (Nat.le_refl _) hn
theorem marks_mark {P : Program} {fn : Func} {R : Ending → World → Prop} {tmps : Array Value} {D : Nat} {W : World} {v : Value} (hK : W.heap[D]? = some (.deferred (some [])))
    (hres : (results fn tmps).run P (W.putObj D (.deferred none)) = .ok v (W.putObj D (.deferred none))) (hR : R (.returned v) (W.putObj D (.deferred none))) :
    bodyPostM Fence.wide 5 P fn R .ret { tmps := tmps, defers := [{ target := .collected D, args := #[] }] } W :=
  ⟨by simp, .inl ⟨_, _, rfl, run_takeDeferred hK, v, hres, hR⟩⟩
theorem marks_none {P : Program} {fn : Func} {R : Ending → World → Prop} {tmps : Array Value} {W : World} {v : Value}
    (hres : (results fn tmps).run P W = .ok v W) (hR : R (.returned v) W) : bodyPostM Fence.wide 5 P fn R .ret { tmps := tmps, defers := [] } W := ⟨v, hres, hR⟩
theorem At.putD {W : World} {b D : Nat} {cs : Array Value} {T : TypeId} (h : At W b cs T) (hK : W.heap[D]? = some (.deferred (some []))) : At (W.putObj D (.deferred none)) b cs T :=
  h.grown (grownBy_putObj' W D (.deferred none)) fun r e => by cases e; exact ⟨_, hK, rfl⟩
theorem _root_.Go.RowKit.Below.putD {B D : Nat} {w W : World} (h : Below B w W) (hK : W.heap[D]? = some (.deferred (some []))) (hD : B ≤ D) : Below B w (W.putObj D (.deferred none)) :=
  h.trans (belowK_b (n₀ := B) (w := { W with heap := W.heap.extract 0 B }) (by have := (Array.getElem?_eq_some_iff.1 hK).1; simp; omega) W D _ _ (by simp; omega) hK rfl rfl)

/-- Two things that own blocks apart from one another, all laid since the world w. -/
structure Two (B : Nat) (w wr : World) (S T : List Nat) (X Y : Prop) : Prop where
  x : X
  y : Y
  ws : Within S B wr.heap.size
  wt : Within T B wr.heap.size
  ap : Apart S T
  below : Below B w wr
  size : B ≤ wr.heap.size
theorem Two.stepX {B : Nat} {w wr w' : World} {S S' T : List Nat} {X X' Y Y' : Prop} (h : Two B w wr S T X Y) (hg : GrownS S S' wr.heap.size) (hX : X') (hlt : ∀ k ∈ S', k < w'.heap.size) (hF : Frame S wr w') (hY : Y') : Two B w w' S' T X' Y' :=
  ⟨hX, hY, h.ws.grown hg h.size hlt, h.wt.mono hF.size, h.ap.grown hg h.wt, hF.below' h.below h.size h.ws, Nat.le_trans h.size hF.size⟩
theorem Two.stepY {B : Nat} {w wr w' : World} {S T T' : List Nat} {X X' Y Y' : Prop} (h : Two B w wr S T X Y) (hg : GrownS T T' wr.heap.size) (hY : Y') (hlt : ∀ k ∈ T', k < w'.heap.size) (hF : Frame T wr w') (hX : X') : Two B w w' S T' X' Y' :=
  ⟨hX, hY, h.ws.mono hF.size, h.wt.grown hg h.size hlt, (h.ap.symm.grown hg h.ws).symm, hF.below' h.below h.size h.wt, Nat.le_trans h.size hF.size⟩
theorem Two.belowW {B : Nat} {w wr w' : World} {S T : List Nat} {X X' Y Y' : Prop} (h : Two B w wr S T X Y) (hb : Below wr.heap.size wr w') (hX : X → X') (hY : Y → Y') : Two B w w' S T X' Y' :=
  ⟨hX h.x, hY h.y, h.ws.mono hb.size, h.wt.mono hb.size, h.ap, h.below.trans (hb.mono h.size), Nat.le_trans h.size hb.size⟩

theorem Two.fin {B : Nat} {w wr w' : World} {S T : List Nat} {X Y : Prop} (h : Two B w wr S T X Y) (hb : Below wr.heap.size wr w') : Below B w w' := h.below.trans (hb.mono h.size)
end Go.Proofs.YtondkkhagbcadaaGreat
