/- Texts of this claim, joined, indents halved: Base, Walks, Shelf, Span, Open, Loops, SpanAll, Door, Cfg, Row, App, PairsR. -/
import Derived.WalkKit
import Derived.Lib.Hide
import Derived.Deep.RegionHeld3
import Derived.Deep.QuietTactic
import Derived.BigQuiet
import Derived.WalkSpells
import Derived.WalkLawsBesides
import Derived.Deep.CutBlock
import Derived.Deep.DeepCutAuto
import Derived.Maps.AppendAt
import Derived.Test.YtlbnlmhcpephbaaGreatDoorProg
import Derived.Deep.RegionHeld
import Derived.Shelf.Small.Bits
import Derived.Shelf.Strconv.Itoa0
import Derived.Shelf.Bits.Mul64
import Derived.Shelf.Spec.BitsCarry
import Derived.Test.YtlbnlmhcpephbaaGreatDoorRows
import Derived.ProofKit
import Derived.OpenShut
import Derived.ShutString
import Derived.ChangeOld
import Derived.Carry
import Derived.Deep.Slices
import Derived.Deep.Fields
import Derived.Lib.SmallJoins
import Derived.RangeFuncNested
import Derived.RangeFuncBound
import Derived.RangeFuncCalls
import Derived.RangeFuncLeaves
import Derived.RangeFuncBox
import Derived.Shelf.Abstract
import Derived.Shelf.RegionOpen
import Derived.OwnWalkIn
import Derived.TacticsInMore
import Derived.LoopNIn
import Derived.LoopIn
import Derived.Lib.BitFns
import Derived.Lib.LaidTab
import Derived.LaidMore
import Derived.OwnWalk
import Derived.Below
namespace Go.Proofs.YtlbnlmhcpephbaaGreatDoor
open Go.RowKit
theorem bcell {W w1 : World} (hb : Below W.heap.size W w1) : (∀ b o, b < W.heap.size → w1.cell? ⟨b, o, none⟩ = W.cell? ⟨b, o, none⟩) ∧ (∀ b o, b < W.heap.size → w1.frozen? ⟨b, o, none⟩ = W.frozen? ⟨b, o, none⟩) :=
 ⟨fun b o h => hb.cell (p := ⟨b, o, none⟩) h, fun b o h => hb.frozen (p := ⟨b, o, none⟩) h⟩
theorem _root_.Go.RowKit.Below.drewN {B : Nat} {a w : World} (h : Below B a w) (n : Nat) : Below B a (w.drewN n) := ⟨h.os, h.tape, h.output, h.size, h.block⟩
theorem cellB {B : Nat} {w w' : World} (h : Below B w w') {b o : Nat} (hb : b < B) {v : Option Value} (hv : w.cell? ⟨b, o, none⟩ = v) : w'.cell? ⟨b, o, none⟩ = v := (h.cell (p := ⟨b, o, none⟩) hb).trans hv
def At (w : World) (b : Nat) (cs : Array Value) (T : TypeId) : Prop := w.heap[b]? = some (.cells cs T (0, 0))
namespace At
variable {w w' : World} {b b' i : Nat} {cs : Array Value} {T : TypeId}
theorem lt (h : At w b cs T) : b < w.heap.size := (Array.getElem?_eq_some_iff.1 h).1
theorem new (w : World) (cs : Array Value) (T : TypeId) : At (w.alloc (.cells cs T)) w.heap.size cs T := heap_alloc_new w _
theorem new' (w : World) (cs : Array Value) (T : TypeId) (hb : b = w.heap.size) : At (w.alloc (.cells cs T)) b cs T := hb ▸ heap_alloc_new w _
theorem alloc (h : At w b cs T) (o : Obj) : At (w.alloc o) b cs T := (Below.heap_alloc w o b h.lt).trans h
theorem drew (h : At w b cs T) : At w.drew b cs T := h
theorem drewN (h : At w b cs T) (n : Nat) : At (w.drewN n) b cs T := h
theorem of_below {B : Nat} (h : At w b cs T) (hb : Below B w w') (hB : b < B) : At w' b cs T := (hb.block b hB).trans h
theorem below (h : At w b cs T) (hb : Below w.heap.size w w') : At w' b cs T := h.of_below hb h.lt
theorem set_other (h : At w b cs T) {p : Addr} (hne : b ≠ p.block) (v : Value) : At (w.setCell p v) b cs T := (Below.heap_setCell w p v b hne).trans h
theorem set_same (h : At w b cs T) (i : Nat) (v : Value) : At (w.setCell ⟨b, i, none⟩ v) b (cs.setIfInBounds i v) T := by
 unfold At at *
 simp [World.setCell, Array.getElem?_modify, h]
theorem set_any {c0 : Array Value} (h : At w b c0 T) (i : Nat) (v : Value) (hc : c0.setIfInBounds i v = cs) : At (w.setCell ⟨b, i, none⟩ v) b cs T := hc ▸ h.set_same i v
theorem set2 {u0 u1 : Value} (h : At w b #[u0, u1] T) (x y : Value) : At ((w.setCell ⟨b, 0, none⟩ x).setCell ⟨b, 1, none⟩ y) b #[x, y] T := (h.set_same 0 x).set_same 1 y
theorem cell {v : Value} (h : At w b cs T) (hi : cs[i]? = some v) : w.cell? ⟨b, i, none⟩ = some v := by
 unfold At at h
 simp [World.cell?, h, hi]
theorem frozen (h : At w b cs T) (i : Nat) : w.frozen? ⟨b, i, none⟩ = false := by
 unfold At at h
 simp [World.frozen?, h]
theorem one {v0 : Value} (h : At w b #[v0] T) : w.cell? ⟨b, 0, none⟩ = some v0 ∧ w.frozen? ⟨b, 0, none⟩ = false := ⟨h.cell rfl, h.frozen 0⟩
theorem two {v0 v1 : Value} (h : At w b #[v0, v1] T) : w.cell? ⟨b, 0, none⟩ = some v0 ∧ w.cell? ⟨b, 1, none⟩ = some v1 ∧ w.frozen? ⟨b, 0, none⟩ = false ∧ w.frozen? ⟨b, 1, none⟩ = false := ⟨h.cell rfl, h.cell rfl, h.frozen 0, h.frozen 1⟩
theorem three {v0 v1 v2 : Value} (h : At w b #[v0, v1, v2] T) : w.cell? ⟨b, 0, none⟩ = some v0 ∧ w.cell? ⟨b, 1, none⟩ = some v1 ∧ w.cell? ⟨b, 2, none⟩ = some v2 ∧ w.frozen? ⟨b, 0, none⟩ = false ∧ w.frozen? ⟨b, 1, none⟩ = false ∧ w.frozen? ⟨b, 2, none⟩ = false := ⟨h.cell rfl, h.cell rfl, h.cell rfl, h.frozen 0, h.frozen 1, h.frozen 2⟩
end At
theorem keep1 {W0 W w' : World} (hB : Below W0.heap.size W0 W) (hb : Below W.heap.size W w') : Below W0.heap.size W0 w' := hB.trans (hb.mono hB.size)
theorem gen_world {P : Program} {c : Code} {Q : Exit → Act → World → Prop} {a : Act} {w : World} (S : World → Prop) (hS : S w) (h : ∀ W, S W → c.wp P Q a W) : c.wp P Q a w := h w hS
def RetW (w : World) (X : Int) (e : Ending) (w' : World) : Prop :=
 ∃ hi lo : Int, 0 ≤ hi ∧ hi < 18446744073709551616 ∧ 0 ≤ lo ∧ lo < 18446744073709551616 ∧ hi * 18446744073709551616 + lo = X ∧
  e = .returned (.agg #[.int .u64 hi, .int .u64 lo]) ∧ Below w.heap.size w w'
def RetWB (w : World) (X : Int) (b : Bool) (e : Ending) (w' : World) : Prop :=
 ∃ hi lo : Int, 0 ≤ hi ∧ hi < 18446744073709551616 ∧ 0 ≤ lo ∧ lo < 18446744073709551616 ∧ hi * 18446744073709551616 + lo = X ∧
  e = .returned (.tuple #[.agg #[.int .u64 hi, .int .u64 lo], .bool b]) ∧ Below w.heap.size w w'
def cmpI (x y : Int) : Int := if x < y then -1 else if x = y then 0 else 1
end Go.Proofs.YtlbnlmhcpephbaaGreatDoor

namespace Go.Proofs.YtlbnlmhcpephbaaGreatDoor
open Go.RowKit
structure Far (w : World) where
 far : World
 below : Below w.heap.size w far
instance Far.some (w : World) : Nonempty (Far w) := ⟨⟨w, Below.refl _ _⟩⟩
theorem Far.cell {w : World} (x : Far w) {b o : Nat} {v : Option Value} (hb : b < w.heap.size) (h : w.cell? ⟨b, o, none⟩ = v) : x.far.cell? ⟨b, o, none⟩ = v := cellB x.below hb h
theorem Far.at {w : World} (x : Far w) {b : Nat} {cs : Array Value} {T : TypeId} (h : At w b cs T) : At x.far b cs T := h.below x.below
theorem wp_region_far {P : Program} {id : Nat} {Q : Exit → Act → World → Prop} {a : Act} {w : World} {l : List Oper} (hm : P.follows .mixedOrders = true) (hB : Region.lexB .any l.toArray = true)
  (h : wpQuiet P l.toArray (fun w' => ∃ x : Far w, w' = x.far) (fun a' => ∀ w', (∃ x : Far w, w' = x.far) → Q .normal a' w') l a) : (Code.region id l.toArray true).wp P Q a w :=
 wp_region_quiet (C := fun w' => ∃ x : Far w, w' = x.far) hm hB ⟨⟨w.drewN 1, (Below.refl _ _).drewN 1⟩, rfl⟩ (by simpa using h)
theorem far_of {P : Program} {f : FuncId} {args : Array Value} {w : World} {x : Far w} {v : Value}
  (h : Calls P f args x.far fun e w' => e = .returned v ∧ Below x.far.heap.size x.far w') : Calls P f args x.far fun e w'' => e = .returned v ∧ ∃ y : Far w, w'' = y.far :=
 h.mono fun _ w' ⟨he, hB⟩ => ⟨he, ⟨w', keep1 x.below hB⟩, rfl⟩
theorem far_of_same {P : Program} {f : FuncId} {args : Array Value} {w : World} {x : Far w} {v : Value}
  (h : Calls P f args x.far fun e w' => e = .returned v ∧ w' = x.far) : Calls P f args x.far fun e w'' => e = .returned v ∧ ∃ y : Far w, w'' = y.far :=
 h.mono fun _ _ ⟨he, hB⟩ => ⟨he, x, hB⟩
end Go.Proofs.YtlbnlmhcpephbaaGreatDoor
namespace Go.Proofs.YtlbnlmhcpephbaaGreatDoor
open Go.RowKit
section
variable {P : Program} {ops : Array Oper} {Q : Exit → Act → World → Prop} {md : Region.Mode} {S : World → Prop}
def noCall (o : Oper) : Bool := match o.op with
 | .move _ | .assign _ | .pick .. | .load .. | .binOp .. | .unOp .. | .convert .. | .fieldAddr .. | .field .. | .indexAddr .. | .index .. | .extract .. | .slice .. | .build .. | .nilCheck _ => true
 | .call c => match c.callee with
  | .builtin .len => true
  | _ => false
 | _ => false
theorem bind_value {s : Sem Value} {w w' : World} {n : Next} (h : (do pure (Next.value (← s)) : Sem Next).run P w = .ok n w') : ∃ u, n = .value u := by
 rw [Sem.run_bind] at h
 generalize s.run P w = r at h
 cases r with
 | ok u w1 => simp only [Result.andThen, Sem.run_pure] at h; injection h with h1 h2; exact ⟨u, h1.symm⟩
 | halt x w1 => simp only [Result.andThen] at h; cases h
theorem run_bind_ok {α β : Type} {s : Sem α} {f : α → Sem β} {w w' : World} {n : β} (h : (s >>= f).run P w = .ok n w') : ∃ u w1, s.run P w = .ok u w1 ∧ (f u).run P w1 = .ok n w' := by
 rw [Sem.run_bind] at h
 generalize s.run P w = r at h
 cases r with
 | ok u w1 => exact ⟨u, w1, rfl, h⟩
 | halt x w1 => simp only [Result.andThen] at h; cases h
theorem noCall_value {o : Oper} {a : Act} {w w' : World} {n : Next} (hn : noCall o = true) (h : (execOp a.eval o).run P w = .ok n w') : ∃ u, n = .value u := by
  obtain ⟨d, op, t, pos, af, gd⟩ := o
  unfold noCall at hn
  unfold execOp at h
  cases op <;> simp only [Bool.false_eq_true] at hn <;> dsimp only at h
  case call c =>
    obtain ⟨callee, args, ts⟩ := c
    cases callee <;> simp only [Bool.false_eq_true] at hn
    rename_i bi
    cases bi <;> simp only [Bool.false_eq_true] at hn
    exact bind_value h
  all_goals first
    | exact bind_value h
    | (rw [Sem.run_pure] at h; injection h with h1 h2; exact ⟨_, h1.symm⟩)
    | (split at h <;> first
        | (rw [Sem.run_pure] at h; injection h with h1 h2; exact ⟨_, h1.symm⟩)
        | (simp [runtimePanic, Sem.run] at h; done)
        | (split at h <;> first
            | (rw [Sem.run_pure] at h; injection h with h1 h2; exact ⟨_, h1.symm⟩)
            | (simp [runtimePanic, Sem.run] at h; done)
            | (obtain ⟨_, _, _, h⟩ := run_bind_ok h
               obtain ⟨_, _, _, h⟩ := run_bind_ok h
               split at h
               · obtain ⟨_, _, _, h⟩ := run_bind_ok h
                 rw [Sem.run_pure] at h; injection h with h1 h2; exact ⟨_, h1.symm⟩
               · rw [Sem.run_pure] at h; injection h with h1 h2; exact ⟨_, h1.symm⟩)))
    | (rw [Sem.run_bind] at h
       generalize (asBool _).run P w = r at h
       cases r with
       | ok u w1 => simp only [Result.andThen, Sem.run_pure] at h; injection h with h1 h2; exact ⟨_, h1.symm⟩
       | halt x w1 => simp only [Result.andThen] at h; cases h)
def runOps : List Bool → List Oper → List Oper
 | true :: m, o :: l => o :: runOps m l
 | false :: m, _ :: l => runOps m l
 | _, _ => []
theorem runOps_true (m : List Bool) (o : Oper) (l : List Oper) : runOps (true :: m) (o :: l) = o :: runOps m l := rfl
theorem runOps_false (m : List Bool) (o : Oper) (l : List Oper) : runOps (false :: m) (o :: l) = runOps m l := rfl
theorem runOps_nil (l : List Oper) : runOps [] l = [] := by cases l <;> rfl
def setB : List Bool → Nat → Array Bool → Array Bool
 | [], _, listed => listed
 | true :: m, k, listed => setB m (k + 1) (listed.setIfInBounds k true)
 | false :: m, k, listed => setB m (k + 1) listed
def countB : List Bool → Nat
 | [] => 0
 | true :: m => countB m + 1
 | false :: m => countB m
def runB (md : Region.Mode) (ops : Array Oper) : List Bool → Nat → Array Bool → Bool
 | [], _, _ => true
 | false :: m, k, listed => runB md ops m (k + 1) listed
 | true :: m, k, listed => (Region.ready md ops listed).contains k && Region.free md ops listed k && (match ops[k]? with | some o => noCall o | none => false) && runB md ops m (k + 1) (listed.setIfInBounds k true)
theorem wpAnyH_run (hs : Region.noSelect ops = true) (hQ : ∀ c a a' w, Q (.panic c) a w → Q (.panic c) a' w) : ∀ (m : List Bool) (l : List Oper) (k fuel : Nat) (listed : Array Bool) (a : Act) (w : World), (∀ j, l[j]? = ops[k + j]?) →
  runB md ops m k listed = true → S w → wpQuiet P ops S (fun a' => wpAnyH P md ops Q S fuel (setB m k listed) a' w) (runOps m l) a → wpAnyH P md ops Q S (fuel + countB m) listed a w
 | [], l, k, fuel, listed, a, w, hl, hB, hS, h => by rw [runOps_nil] at h; exact h
 | false :: m, [], k, fuel, listed, a, w, hl, hB, hS, h => by
  have : ∀ (m : List Bool) (k : Nat) (listed : Array Bool), (∀ j, k ≤ j → ops[j]? = none) → runB md ops m k listed = true → setB m k listed = listed ∧ countB m = 0 := by
   intro m
   induction m with
   | nil => intro k listed _ _; exact ⟨rfl, rfl⟩
   | cons t m ih =>
    intro k listed hn hb
    cases t with
    | false => exact ih (k + 1) listed (fun j hj => hn j (by omega)) hb
    | true => simp [runB, hn k (Nat.le_refl _)] at hb
  obtain ⟨e1, e2⟩ := this (false :: m) k listed (fun j hj => by have := hl (j - k); rw [show k + (j - k) = j by omega] at this; rw [← this]; rfl) hB
  rw [e2]
  rw [e1] at h
  exact h
 | false :: m, o :: l, k, fuel, listed, a, w, hl, hB, hS, h =>
  wpAnyH_run hs hQ m l (k + 1) fuel listed a w (fun j => by have := hl (j + 1); simpa [Nat.add_assoc, Nat.add_comm 1 j] using this) hB hS h
 | true :: m, [], k, fuel, listed, a, w, hl, hB, hS, h => by
  have h0 : ops[k]? = none := by simpa using (hl 0).symm
  simp [runB, h0] at hB
 | true :: m, o :: l, k, fuel, listed, a, w, hl, hB, hS, h => by
  have h0 : ops[k]? = some o := by simpa using (hl 0).symm
  simp only [runB, h0, Bool.and_eq_true] at hB
  obtain ⟨⟨⟨hr, hf⟩, hn⟩, hB'⟩ := hB
  have hst : qOp P ops S k (wpQuiet P ops S (fun a' => wpAnyH P md ops Q S fuel (setB m (k + 1) (listed.setIfInBounds k true)) a' w) (runOps m l)) a := by unfold qOp; simp only [h0]; exact h
  obtain ⟨v, hy, hK⟩ := yieldsIn_of_qOp h0 hst
  have hy' : YieldsIf P ops S o v a := by
   rcases hy with ⟨hw, hq⟩ | h
   ·refine .inl ⟨hw, fun w' hw' => ?_⟩
    have h3 := hq w' hw'
    unfold Oper.quietAt at h3
    have hne := fun n w'' => noCall_value (P := P) (o := o) (a := a) (w := w') (w' := w'') (n := n) hn
    generalize (execOp a.eval o).run P w' = r at *
    cases r with
    | ok n w1 =>
     cases n <;> simp only [Oper.quietUpon] at h3
     case value u => obtain ⟨rfl, rfl⟩ := h3; rfl
     case skip => obtain ⟨u, hu⟩ := hne _ w1 rfl; cases hu
     case enter f args => obtain ⟨u, hu⟩ := hne _ w1 rfl; cases hu
    | halt x w1 => simp only [Oper.quietUpon] at h3
   ·exact .inr h
  exact wpAnyH_take (v := v) h0 hs hf hr (fun c a w h => hQ c _ _ w h) hy' hS
   (wpAnyH_run hs hQ m l (k + 1) fuel _ _ w (fun j => by have := hl (j + 1); simpa [Nat.add_assoc, Nat.add_comm 1 j] using this) hB' hS hK)
end
structure Held (H : World → Prop) where
 far : World
 held : H far
def HeldS (H : World → Prop) (w : World) : Prop := ∃ x : Held H, w = x.far
theorem HeldS.mk' {H : World → Prop} {w : World} (h : H w) : HeldS H w := ⟨⟨w, h⟩, rfl⟩
section
variable {P : Program} {Q : Exit → Act → World → Prop} {md : Region.Mode}
theorem wpAnyH_run0 {H : World → Prop} {l : List Oper} (m : List Bool) (fuel : Nat) {F : Nat} {listed : Array Bool} {a : Act} {w : World} (hf : fuel + countB m = F) (hs : Region.noSelect l.toArray = true) (hQ : ∀ c a a' w, Q (.panic c) a w → Q (.panic c) a' w)
  (hB : runB md l.toArray m 0 listed = true) (hS : HeldS H w) (h : wpQuiet P l.toArray (fun w' => ∃ x : Held H, w' = x.far) (fun a' => wpAnyH P md l.toArray Q (HeldS H) fuel (setB m 0 listed) a' w) (runOps m l) a) : wpAnyH P md l.toArray Q (HeldS H) F listed a w := by
 subst hf
 exact wpAnyH_run hs hQ m l 0 fuel listed a w (fun j => by simp) hB hS h
end
end Go.Proofs.YtlbnlmhcpephbaaGreatDoor
namespace Go.Proofs.YtlbnlmhcpephbaaGreatDoor
open Go.RowKit
section
variable {P : Program} {ops : Array Oper} {Q : Exit → Act → World → Prop} {md : Region.Mode} {S : World → Prop} {late : Nat}
def noLate (late : Nat) (listed : Array Bool) : Bool := (List.range listed.size).all fun j => decide (j < late) || !listed.getD j false
theorem noLate_spec {listed : Array Bool} (h : noLate late listed = true) (j : Nat) (hj : late ≤ j) : listed.getD j false = false := by
 rcases Nat.lt_or_ge j listed.size with hs | hs
 ·simp only [noLate, List.all_eq_true, List.mem_range] at h
  have := h j hs
  simpa [Nat.not_lt.2 hj] using this
 ·simp [Array.getElem?_eq_none hs]
theorem noLate_of {listed : Array Bool} (h : ∀ j, late ≤ j → listed.getD j false = false) : noLate late listed = true := by
 simp only [noLate, List.all_eq_true, List.mem_range]
 intro j _
 rcases Nat.lt_or_ge j late with hs | hs
 ·simp [hs]
 ·rw [h j hs]; simp
theorem getD_set_true {listed : Array Bool} {i j : Nat} (h : i ≠ j) : (listed.setIfInBounds i true).getD j false = listed.getD j false := by
 simp [Array.getElem?_setIfInBounds, h]
theorem noLate_set {listed : Array Bool} {i : Nat} (hi : i < late) (h : noLate late listed = true) : noLate late (listed.setIfInBounds i true) = true :=
 noLate_of fun j hj => by rw [getD_set_true (by omega)]; exact noLate_spec h j hj
theorem noLate_back {listed : Array Bool} {i : Nat} (h : noLate late (listed.setIfInBounds i true) = true) : noLate late listed = true :=
 noLate_of fun j hj => by
  by_cases e : i = j
  ·subst e
   have := noLate_spec h i hj
   rcases Nat.lt_or_ge i listed.size with hs | hs
   ·simp [hs] at this
   ·simp [Array.getElem?_eq_none hs]
  ·rw [← getD_set_true e]; exact noLate_spec h j hj
theorem late_no {p : Prop} {b : Bool} (h : b = true) (k : b = false) : p := by rw [k] at h; cases h
def wpAnyU (P : Program) (md : Region.Mode) (ops : Array Oper) (Q : Exit → Act → World → Prop) (S : World → Prop) (late : Nat) : Nat → Array Bool → Act → World → Prop
 | 0, listed, a, w => Region.ready md ops listed = [] ∧ Q .normal a w
 | fuel + 1, listed, a, w =>
  (Region.ready md ops listed = [] → Q .normal a w) ∧
  ∀ i ∈ Region.ready md ops listed, wpOp P ops Q i (fun a' w' => (noLate late (listed.setIfInBounds i true) = true → S w') ∧ wpAnyU P md ops Q S late fuel (listed.setIfInBounds i true) a' w') a w
theorem wpAny_of_until : ∀ (fuel : Nat) (listed : Array Bool) (a : Act) (w : World), wpAnyU P md ops Q S late fuel listed a w → wpAny P md ops Q fuel listed a w
 | 0, _, _, _, h => h
 | fuel + 1, _, _, _, h => ⟨h.1, fun i hi => wpOp_mono (fun a' w' h' => wpAny_of_until fuel _ a' w' h'.2) (h.2 i hi)⟩
def lateB (md : Region.Mode) (ops : Array Oper) (late i : Nat) : Bool := (List.range ops.size).all fun j => j < late || match ops[j]? with
 | some oj => oj.after.any fun e => Region.binds md e && e.on == i
 | none => true
theorem lateB_spec {i j : Nat} {oj : Oper} (h : lateB md ops late i = true) (hj : ops[j]? = some oj) (hl : ¬ j < late) : ∃ e ∈ oj.after, Region.binds md e = true ∧ e.on = i := by
 simp only [lateB, List.all_eq_true, List.mem_range] at h
 have h1 := h j (Array.getElem?_eq_some_iff.1 hj).1
 simp only [hj, hl, decide_false, Bool.false_or] at h1
 obtain ⟨e, he, hb⟩ := Array.any_eq_true'.1 h1
 rw [Bool.and_eq_true, beq_iff_eq] at hb
 exact ⟨e, he, hb.1, hb.2⟩
theorem wpAnyU_first {i : Nat} {oi : Oper} {v : Value} (hi : ops[i]? = some oi) (hlt : i < late) (hlb : lateB md ops late i = true) (hsel : ∀ (j : Nat) (o : Oper) cs b, ops[j]? = some o → o.op ≠ .select cs b)
  (hQ : ∀ c a w, Q (.panic c) (a.put oi.dst v) w → Q (.panic c) a w) :
  ∀ (fuel : Nat) (listed : Array Bool) (a : Act) (w : World),
   (∀ j oj, ops[j]? = some oj → j ≠ i → listed.getD j true = false → (∀ e ∈ oj.after, Region.binds md e = true → e.on ≠ i) → oi.apart ops oj = true) →
   i ∈ Region.ready md ops listed → YieldsIf P ops S oi v a → noLate late listed = true → S w →
   wpAnyU P md ops Q S late fuel (listed.setIfInBounds i true) (a.put oi.dst v) w → wpAnyU P md ops Q S late (fuel + 1) listed a w := by
 intro fuel
 induction fuel with
 | zero =>
  intro listed a w _ hr hy hnl hS H
  refine ⟨fun h => (by rw [h] at hr; cases hr), fun j hj => ?_⟩
  by_cases hji : j = i
  ·subst hji; exact hy.wpOp hi hS ⟨fun _ => hS, H⟩
  ·have := ready_mono hj hji
   rw [H.1] at this
   cases this
 | succ fuel ih =>
  intro listed a w hfree hr hy hnl hS H
  refine ⟨fun h => (by rw [h] at hr; cases hr), fun j hj => ?_⟩
  by_cases hji : j = i
  ·subst hji; exact hy.wpOp hi hS ⟨fun _ => hS, H⟩
  ·have h1 := H.2 j (ready_mono hj hji)
   obtain ⟨hjun, oj, hoj, hall⟩ := mem_ready.1 hj
   have hnot : ∀ e ∈ oj.after, Region.binds md e = true → e.on ≠ i := fun e he hb heq => by
    have h1 := hall e he hb
    have h0 := (mem_ready.1 hr).1
    rw [heq] at h1
    rcases Nat.lt_or_ge i listed.size with h' | h'
    ·simp [h'] at h0 h1; rw [h0] at h1; cases h1
    ·simp [Array.getElem?_eq_none h'] at h1
   have hjl : j < late := by
    rcases Nat.lt_or_ge j late with h | h
    ·exact h
    ·obtain ⟨e, he, hb, ho⟩ := lateB_spec hlb hoj (by omega)
     exact absurd ho (hnot e he hb)
   have h2 := wpOp_putIf hoj (hfree j oj hoj hji hjun hnot) (fun cs b => hsel i oi cs b hi) (fun cs b => hsel j oj cs b hoj) hQ hy h1
   have hfree' : ∀ k ok, ops[k]? = some ok → k ≠ i → (listed.setIfInBounds j true).getD k true = false →
     (∀ e ∈ ok.after, Region.binds md e = true → e.on ≠ i) → oi.apart ops ok = true := fun k ok hk hki hun hno => by
    refine hfree k ok hk hki ?_ hno
    by_cases hjk : j = k
    ·subst hjk; exact hjun
    ·rw [getD_set_ne true hjk] at hun; exact hun
   refine wpOp_mono (fun a' w' h3 => ⟨fun _ => h3.2.1 (noLate_set hjl (noLate_set hlt hnl)), ih (listed.setIfInBounds j true) a' w' hfree' (ready_mono hr (Ne.symm hji)) h3.1 (noLate_set hjl hnl) (h3.2.1 (noLate_set hjl (noLate_set hlt hnl))) ?_⟩) h2
   rw [Array.setIfInBounds_comm _ _ hji]
   exact h3.2.2
theorem wpAnyU_firstF {T : World → Prop} (hT : ∀ w, T w) {i : Nat} {oi : Oper} {v : Value} (hi : ops[i]? = some oi) (hlt : i < late) (hsel : ∀ (j : Nat) (o : Oper) cs b, ops[j]? = some o → o.op ≠ .select cs b)
  (hQ : ∀ c a w, Q (.panic c) (a.put oi.dst v) w → Q (.panic c) a w) :
  ∀ (fuel : Nat) (listed : Array Bool) (a : Act) (w : World),
   (∀ j oj, ops[j]? = some oj → j ≠ i → listed.getD j true = false → (∀ e ∈ oj.after, Region.binds md e = true → e.on ≠ i) → oi.apart ops oj = true) →
   i ∈ Region.ready md ops listed → YieldsIf P ops T oi v a → (noLate late listed = true → S w) →
   wpAnyU P md ops Q S late fuel (listed.setIfInBounds i true) (a.put oi.dst v) w → wpAnyU P md ops Q S late (fuel + 1) listed a w := by
 intro fuel
 induction fuel with
 | zero =>
  intro listed a w _ hr hy hS H
  refine ⟨fun h => (by rw [h] at hr; cases hr), fun j hj => ?_⟩
  by_cases hji : j = i
  ·subst hji; exact hy.wpOp hi (hT _) ⟨fun h => hS (noLate_back h), H⟩
  ·have := ready_mono hj hji
   rw [H.1] at this
   cases this
 | succ fuel ih =>
  intro listed a w hfree hr hy hS H
  refine ⟨fun h => (by rw [h] at hr; cases hr), fun j hj => ?_⟩
  by_cases hji : j = i
  ·subst hji; exact hy.wpOp hi (hT _) ⟨fun h => hS (noLate_back h), H⟩
  ·have h1 := H.2 j (ready_mono hj hji)
   obtain ⟨hjun, oj, hoj, hall⟩ := mem_ready.1 hj
   have hnot : ∀ e ∈ oj.after, Region.binds md e = true → e.on ≠ i := fun e he hb heq => by
    have h1 := hall e he hb
    have h0 := (mem_ready.1 hr).1
    rw [heq] at h1
    rcases Nat.lt_or_ge i listed.size with h' | h'
    ·simp [h'] at h0 h1; rw [h0] at h1; cases h1
    ·simp [Array.getElem?_eq_none h'] at h1
   have h2 := wpOp_putIf hoj (hfree j oj hoj hji hjun hnot) (fun cs b => hsel i oi cs b hi) (fun cs b => hsel j oj cs b hoj) hQ hy h1
   have hfree' : ∀ k ok, ops[k]? = some ok → k ≠ i → (listed.setIfInBounds j true).getD k true = false →
     (∀ e ∈ ok.after, Region.binds md e = true → e.on ≠ i) → oi.apart ops ok = true := fun k ok hk hki hun hno => by
    refine hfree k ok hk hki ?_ hno
    by_cases hjk : j = k
    ·subst hjk; exact hjun
    ·rw [getD_set_ne true hjk] at hun; exact hun
   have hc : ∀ {w' : World}, (noLate late ((listed.setIfInBounds i true).setIfInBounds j true) = true → S w') → noLate late (listed.setIfInBounds j true) = true → S w' := fun h hn => h (by
    rw [Array.setIfInBounds_comm _ _ (Ne.symm hji)]
    exact noLate_set hlt hn)
   refine wpOp_mono (fun a' w' h3 => ⟨hc h3.2.1, ih (listed.setIfInBounds j true) a' w' hfree' (ready_mono hr (Ne.symm hji)) h3.1 (hc h3.2.1) ?_⟩) h2
   rw [Array.setIfInBounds_comm _ _ hji]
   exact h3.2.2
def runU (md : Region.Mode) (ops : Array Oper) (late : Nat) : List Bool → Nat → Array Bool → Bool
 | [], _, _ => true
 | false :: m, k, listed => runU md ops late m (k + 1) listed
 | true :: m, k, listed => decide (k < late) && noLate late listed && lateB md ops late k && (Region.ready md ops listed).contains k && Region.free md ops listed k && (match ops[k]? with | some o => noCall o | none => false) && runU md ops late m (k + 1) (listed.setIfInBounds k true)
theorem wpAnyU_run (hs : Region.noSelect ops = true) (hQ : ∀ c a a' w, Q (.panic c) a w → Q (.panic c) a' w) : ∀ (m : List Bool) (l : List Oper) (k fuel : Nat) (listed : Array Bool) (a : Act) (w : World), (∀ j, l[j]? = ops[k + j]?) →
  runU md ops late m k listed = true → S w → wpQuiet P ops S (fun a' => wpAnyU P md ops Q S late fuel (setB m k listed) a' w) (runOps m l) a → wpAnyU P md ops Q S late (fuel + countB m) listed a w
 | [], l, k, fuel, listed, a, w, hl, hB, hS, h => by rw [runOps_nil] at h; exact h
 | false :: m, [], k, fuel, listed, a, w, hl, hB, hS, h => by
  have : ∀ (m : List Bool) (k : Nat) (listed : Array Bool), (∀ j, k ≤ j → ops[j]? = none) → runU md ops late m k listed = true → setB m k listed = listed ∧ countB m = 0 := by
   intro m
   induction m with
   | nil => intro k listed _ _; exact ⟨rfl, rfl⟩
   | cons t m ih =>
    intro k listed hn hb
    cases t with
    | false => exact ih (k + 1) listed (fun j hj => hn j (by omega)) hb
    | true => simp [runU, hn k (Nat.le_refl _)] at hb
  obtain ⟨e1, e2⟩ := this (false :: m) k listed (fun j hj => by have := hl (j - k); rw [show k + (j - k) = j by omega] at this; rw [← this]; rfl) hB
  rw [e2]
  rw [e1] at h
  exact h
 | false :: m, o :: l, k, fuel, listed, a, w, hl, hB, hS, h =>
  wpAnyU_run hs hQ m l (k + 1) fuel listed a w (fun j => by have := hl (j + 1); simpa [Nat.add_assoc, Nat.add_comm 1 j] using this) hB hS h
 | true :: m, [], k, fuel, listed, a, w, hl, hB, hS, h => by
  have h0 : ops[k]? = none := by simpa using (hl 0).symm
  simp [runU, h0] at hB
 | true :: m, o :: l, k, fuel, listed, a, w, hl, hB, hS, h => by
  have h0 : ops[k]? = some o := by simpa using (hl 0).symm
  simp only [runU, h0, Bool.and_eq_true, decide_eq_true_eq] at hB
  obtain ⟨⟨⟨⟨⟨⟨hlt, hnl⟩, hlb⟩, hr⟩, hf⟩, hn⟩, hB'⟩ := hB
  have hst : qOp P ops S k (wpQuiet P ops S (fun a' => wpAnyU P md ops Q S late fuel (setB m (k + 1) (listed.setIfInBounds k true)) a' w) (runOps m l)) a := by unfold qOp; simp only [h0]; exact h
  obtain ⟨v, hy, hK⟩ := yieldsIn_of_qOp h0 hst
  have hy' : YieldsIf P ops S o v a := by
   rcases hy with ⟨hw, hq⟩ | h
   ·refine .inl ⟨hw, fun w' hw' => ?_⟩
    have h3 := hq w' hw'
    unfold Oper.quietAt at h3
    have hne := fun n w'' => noCall_value (P := P) (o := o) (a := a) (w := w') (w' := w'') (n := n) hn
    generalize (execOp a.eval o).run P w' = r at *
    cases r with
    | ok n w1 =>
     cases n <;> simp only [Oper.quietUpon] at h3
     case value u => obtain ⟨rfl, rfl⟩ := h3; rfl
     case skip => obtain ⟨u, hu⟩ := hne _ w1 rfl; cases hu
     case enter f args => obtain ⟨u, hu⟩ := hne _ w1 rfl; cases hu
    | halt x w1 => simp only [Oper.quietUpon] at h3
   ·exact .inr h
  exact wpAnyU_first (v := v) h0 hlt hlb (Region.noSelect_spec hs) (fun c a w h => hQ c _ _ w h) _ _ _ _ (Region.free_spec h0 hf) (by simpa using hr) hy' hnl hS
   (wpAnyU_run hs hQ m l (k + 1) fuel _ _ w (fun j => by have := hl (j + 1); simpa [Nat.add_assoc, Nat.add_comm 1 j] using this) hB' hS hK)
def runF (md : Region.Mode) (ops : Array Oper) (late : Nat) : List Bool → Nat → Array Bool → Bool
 | [], _, _ => true
 | false :: m, k, listed => runF md ops late m (k + 1) listed
 | true :: m, k, listed => decide (k < late) && (Region.ready md ops listed).contains k && Region.free md ops listed k && (match ops[k]? with | some o => noCall o | none => false) && runF md ops late m (k + 1) (listed.setIfInBounds k true)
theorem wpAnyU_runF {T : World → Prop} (hT : ∀ w, T w) (hs : Region.noSelect ops = true) (hQ : ∀ c a a' w, Q (.panic c) a w → Q (.panic c) a' w) : ∀ (m : List Bool) (l : List Oper) (k fuel : Nat) (listed : Array Bool) (a : Act) (w : World), (∀ j, l[j]? = ops[k + j]?) →
  runF md ops late m k listed = true → (noLate late listed = true → S w) → wpQuiet P ops T (fun a' => wpAnyU P md ops Q S late fuel (setB m k listed) a' w) (runOps m l) a → wpAnyU P md ops Q S late (fuel + countB m) listed a w
 | [], l, k, fuel, listed, a, w, hl, hB, hS, h => by rw [runOps_nil] at h; exact h
 | false :: m, [], k, fuel, listed, a, w, hl, hB, hS, h => by
  have : ∀ (m : List Bool) (k : Nat) (listed : Array Bool), (∀ j, k ≤ j → ops[j]? = none) → runF md ops late m k listed = true → setB m k listed = listed ∧ countB m = 0 := by
   intro m
   induction m with
   | nil => intro k listed _ _; exact ⟨rfl, rfl⟩
   | cons t m ih =>
    intro k listed hn hb
    cases t with
    | false => exact ih (k + 1) listed (fun j hj => hn j (by omega)) hb
    | true => simp [runF, hn k (Nat.le_refl _)] at hb
  obtain ⟨e1, e2⟩ := this (false :: m) k listed (fun j hj => by have := hl (j - k); rw [show k + (j - k) = j by omega] at this; rw [← this]; rfl) hB
  rw [e2]
  rw [e1] at h
  exact h
 | false :: m, o :: l, k, fuel, listed, a, w, hl, hB, hS, h =>
  wpAnyU_runF hT hs hQ m l (k + 1) fuel listed a w (fun j => by have := hl (j + 1); simpa [Nat.add_assoc, Nat.add_comm 1 j] using this) hB hS h
 | true :: m, [], k, fuel, listed, a, w, hl, hB, hS, h => by
  have h0 : ops[k]? = none := by simpa using (hl 0).symm
  simp [runF, h0] at hB
 | true :: m, o :: l, k, fuel, listed, a, w, hl, hB, hS, h => by
  have h0 : ops[k]? = some o := by simpa using (hl 0).symm
  simp only [runF, h0, Bool.and_eq_true, decide_eq_true_eq] at hB
  obtain ⟨⟨⟨⟨hlt, hr⟩, hf⟩, hn⟩, hB'⟩ := hB
  have hst : qOp P ops T k (wpQuiet P ops T (fun a' => wpAnyU P md ops Q S late fuel (setB m (k + 1) (listed.setIfInBounds k true)) a' w) (runOps m l)) a := by unfold qOp; simp only [h0]; exact h
  obtain ⟨v, hy, hK⟩ := yieldsIn_of_qOp h0 hst
  have hy' : YieldsIf P ops T o v a := by
   rcases hy with ⟨hw, hq⟩ | h
   ·refine .inl ⟨hw, fun w' hw' => ?_⟩
    have h3 := hq w' hw'
    unfold Oper.quietAt at h3
    have hne := fun n w'' => noCall_value (P := P) (o := o) (a := a) (w := w') (w' := w'') (n := n) hn
    generalize (execOp a.eval o).run P w' = r at *
    cases r with
    | ok n w1 =>
     cases n <;> simp only [Oper.quietUpon] at h3
     case value u => obtain ⟨rfl, rfl⟩ := h3; rfl
     case skip => obtain ⟨u, hu⟩ := hne _ w1 rfl; cases hu
     case enter f args => obtain ⟨u, hu⟩ := hne _ w1 rfl; cases hu
    | halt x w1 => simp only [Oper.quietUpon] at h3
   ·exact .inr h
  exact wpAnyU_firstF (v := v) hT h0 hlt (Region.noSelect_spec hs) (fun c a w h => hQ c _ _ w h) _ _ _ _ (Region.free_spec h0 hf) (by simpa using hr) hy' hS
   (wpAnyU_runF hT hs hQ m l (k + 1) fuel _ _ w (fun j => by have := hl (j + 1); simpa [Nat.add_assoc, Nat.add_comm 1 j] using this) hB' (fun h => hS (noLate_back h)) hK)
def AllReadyU (P : Program) (md : Region.Mode) (ops : Array Oper) (Q : Exit → Act → World → Prop) (S : World → Prop) (late fuel : Nat) (listed : Array Bool) (a : Act) (w : World) (rs : List Nat) : Prop :=
 ∀ i ∈ rs, wpOp P ops Q i (fun a' w' => (noLate late (listed.setIfInBounds i true) = true → S w') ∧ wpAnyU P md ops Q S late fuel (listed.setIfInBounds i true) a' w') a w
theorem AllReadyU.nil {fuel : Nat} {listed : Array Bool} {a : Act} {w : World} : AllReadyU P md ops Q S late fuel listed a w [] := fun _ h => by cases h
theorem AllReadyU.cons {fuel : Nat} {listed : Array Bool} {a : Act} {w : World} {i : Nat} {o : Oper} {rs : List Nat} (ho : ops[i]? = some o)
  (h : ∀ K' : Act → World → Prop, Shut (∀ a w, (noLate late (listed.setIfInBounds i true) = true → S w) → wpAnyU P md ops Q S late fuel (listed.setIfInBounds i true) a w → K' a w) → if Region.wanted o (yielded ops a.tmps) = true then Oper.wp P o a w K' Q else K' (a.put o.dst undef) w)
  (hs : AllReadyU P md ops Q S late fuel listed a w rs) : AllReadyU P md ops Q S late fuel listed a w (i :: rs) := fun j hj => by
 rcases List.mem_cons.1 hj with rfl | hj
 ·exact wpOp_step ho (fun K' hK => h K' (fun a w hS hW => hK a w ⟨hS, hW⟩))
 ·exact hs j hj
theorem wpAnyU_ready {rs : List Nat} {fuel : Nat} {listed : Array Bool} {a : Act} {w : World} (hr : Region.ready md ops listed = rs) (hne : rs ≠ [])
  (h : AllReadyU P md ops Q S late fuel listed a w rs) : wpAnyU P md ops Q S late (fuel + 1) listed a w := ⟨fun h0 => absurd (hr ▸ h0) hne, hr ▸ h⟩
theorem wpAnyU_done {listed : Array Bool} {a : Act} {w : World} (hr : Region.ready md ops listed = []) (h : Q .normal a w) :
  ∀ fuel, wpAnyU P md ops Q S late fuel listed a w
 | 0 => ⟨hr, h⟩
 | _ + 1 => ⟨fun _ => h, by rw [hr]; simp⟩
theorem wp_region_until (late : Nat) {id : Nat} {a : Act} {w : World} (hm : P.follows .mixedOrders = true)
  (h : wpAnyU P .any ops Q S late ops.size (Array.replicate ops.size false) a w.drew) : (Code.region id ops true).wp P Q a w :=
 wp_region_any hm (wpAny_of_until _ _ _ _ h)
end
section
variable {P : Program} {Q : Exit → Act → World → Prop} {md : Region.Mode} {late : Nat}
theorem wpAnyU_run0F {S : World → Prop} {l : List Oper} (m : List Bool) (fuel : Nat) {F : Nat} {listed : Array Bool} {a : Act} {w : World} (hf : fuel + countB m = F) (hs : Region.noSelect l.toArray = true) (hQ : ∀ c a a' w, Q (.panic c) a w → Q (.panic c) a' w)
  (hB : runF md l.toArray late m 0 listed = true) (hS : S w) (h : wpQuiet P l.toArray (fun w' => ∃ x : Held (fun _ => True), w' = x.far) (fun a' => wpAnyU P md l.toArray Q S late fuel (setB m 0 listed) a' w) (runOps m l) a) : wpAnyU P md l.toArray Q S late F listed a w := by
 subst hf
 exact wpAnyU_runF (T := fun w' => ∃ x : Held (fun _ => True), w' = x.far) (fun w => ⟨⟨w, trivial⟩, rfl⟩) hs hQ m l 0 fuel listed a w (fun j => by simp) hB (fun _ => hS) h
theorem wpAnyU_run0 {H : World → Prop} {l : List Oper} (m : List Bool) (fuel : Nat) {F : Nat} {listed : Array Bool} {a : Act} {w : World} (hf : fuel + countB m = F) (hs : Region.noSelect l.toArray = true) (hQ : ∀ c a a' w, Q (.panic c) a w → Q (.panic c) a' w)
  (hB : runU md l.toArray late m 0 listed = true) (hS : HeldS H w) (h : wpQuiet P l.toArray (fun w' => ∃ x : Held H, w' = x.far) (fun a' => wpAnyU P md l.toArray Q (HeldS H) late fuel (setB m 0 listed) a' w) (runOps m l) a) : wpAnyU P md l.toArray Q (HeldS H) late F listed a w := by
 subst hf
 exact wpAnyU_run hs hQ m l 0 fuel listed a w (fun j => by simp) hB hS h
end
end Go.Proofs.YtlbnlmhcpephbaaGreatDoor

namespace Go.Shelf
end Go.Shelf
namespace Go.Proofs
open Go.Shelf
def Tryz.lays134_ren : Go.Shelf.Ren := ⟨fun | 134 => 140 | 129 => 146 | n => n, fun | 53 => 23 | 3 => 3 | 4 => 4 | 46 => 73 | 5 => 5 | 9 => 9 | n => n, fun | n => n⟩
theorem Tryz.lays134 : Go.Proofs.Lays.n134 Tryz.prog Tryz.lays134_ren := {
 mixed := by kernel_rfl
 f129 := Tryz.func146.trans (congrArg some (by kernel_rfl))
 f134 := Tryz.func140.trans (congrArg some (by kernel_rfl))
 t3 := Tryz.underlying3
 a3 := Tryz.isAgg3
 z3 := Tryz.sizeOf3
 v3 := Tryz.zeroValue3
 t4 := Tryz.underlying4
 a4 := Tryz.isAgg4
 z4 := Tryz.sizeOf4
 v4 := Tryz.zeroValue4
 t5 := Tryz.underlying5
 a5 := Tryz.isAgg5
 z5 := Tryz.sizeOf5
 v5 := Tryz.zeroValue5
 t9 := Tryz.underlying9
 a9 := Tryz.isAgg9
 z9 := Tryz.sizeOf9
 v9 := Tryz.zeroValue9
 t46 := Tryz.underlying73
 a46 := Tryz.isAgg73
 z46 := Tryz.sizeOf73
 v46 := Tryz.zeroValue73
 t53 := Tryz.underlying23
 a53 := Tryz.isAgg23
 z53 := Tryz.sizeOf23
 v53 := Tryz.zeroValue23 }
theorem Tryz.bits_LeadingZeros64 (x : Int) (w : World) (h0 : 0 ≤ x) (h1 : x ≤ 18446744073709551615) :
  Calls Tryz.prog 140 #[.int .u64 x] w fun e w' => e = .returned (.int .i64 (64 - (Lib.bitLen x.toNat : Int))) ∧ w' = w := Any.bits_LeadingZeros64 Tryz.lays134 x w h0 h1
def Tryz.lays129_ren : Go.Shelf.Ren := ⟨fun | 129 => 146 | n => n, fun | 53 => 23 | 3 => 3 | 4 => 4 | 46 => 73 | 5 => 5 | 9 => 9 | n => n, fun | n => n⟩
theorem Tryz.lays129 : Go.Proofs.Lays.n129 Tryz.prog Tryz.lays129_ren := {
 mixed := by kernel_rfl
 f129 := Tryz.func146.trans (congrArg some (by kernel_rfl))
 t3 := Tryz.underlying3
 a3 := Tryz.isAgg3
 z3 := Tryz.sizeOf3
 v3 := Tryz.zeroValue3
 t4 := Tryz.underlying4
 a4 := Tryz.isAgg4
 z4 := Tryz.sizeOf4
 v4 := Tryz.zeroValue4
 t5 := Tryz.underlying5
 a5 := Tryz.isAgg5
 z5 := Tryz.sizeOf5
 v5 := Tryz.zeroValue5
 t9 := Tryz.underlying9
 a9 := Tryz.isAgg9
 z9 := Tryz.sizeOf9
 v9 := Tryz.zeroValue9
 t46 := Tryz.underlying73
 a46 := Tryz.isAgg73
 z46 := Tryz.sizeOf73
 v46 := Tryz.zeroValue73
 t53 := Tryz.underlying23
 a53 := Tryz.isAgg23
 z53 := Tryz.sizeOf23
 v53 := Tryz.zeroValue23 }
theorem Tryz.bits_Len64 (x : Int) (w : World) (h0 : 0 ≤ x) (h1 : x ≤ 18446744073709551615) :
  Calls Tryz.prog 146 #[.int .u64 x] w fun e w' => e = .returned (.int .i64 (Lib.bitLen x.toNat)) ∧ w' = w := Any.bits_Len64 Tryz.lays129 x w h0 h1
def Tryz.lays264_ren : Go.Shelf.Ren := ⟨fun | 264 => 130 | n => n, fun | 53 => 23 | 46 => 73 | n => n, fun | n => n⟩
theorem Tryz.lays264 : Go.Proofs.Lays.n264 Tryz.prog Tryz.lays264_ren := {
 mixed := by kernel_rfl
 f264 := Tryz.func130.trans (congrArg some (by kernel_rfl))
 t46 := Tryz.underlying73
 a46 := Tryz.isAgg73
 z46 := Tryz.sizeOf73
 v46 := Tryz.zeroValue73
 t53 := Tryz.underlying23
 a53 := Tryz.isAgg23
 z53 := Tryz.sizeOf23
 v53 := Tryz.zeroValue23 }
open Go.RowKit Go.Lib in
theorem Tryz.bits_Mul64 (x y : Nat) (hx : x < 18446744073709551616) (hy : y < 18446744073709551616) (w : World) :
  Calls Tryz.prog 130 #[.int .u64 x, .int .u64 y] w fun e w' => e = .returned (.tuple #[.int .u64 ((x * y / 18446744073709551616 : Nat) : Int), .int .u64 ((x * y % 18446744073709551616 : Nat) : Int)]) ∧ w' = w := Any.bits_Mul64 Tryz.lays264 x y hx hy w
def Tryz.lays25_ren : Go.Shelf.Ren := ⟨fun | 25 => 192 | n => n, fun | 22 => 23 | n => n, fun | n => n⟩
theorem Tryz.lays25 : Go.Proofs.Lays7.n25 Tryz.prog Tryz.lays25_ren := {
 mixed := by kernel_rfl
 f25 := Tryz.func192.trans (congrArg some (by kernel_rfl))
 t22 := Tryz.underlying23
 a22 := Tryz.isAgg23
 z22 := Tryz.sizeOf23
 v22 := Tryz.zeroValue23
 i22 := by kernel_rfl }
theorem Tryz.bits_Add64 (x y c : Nat) (hc : c ≤ 1) (w : World) :
  (callFunc 192 #[.int .u64 x, .int .u64 y, .int .u64 c]).run Tryz.prog w = .ok (.value (.tuple #[.int .u64 (((x + y + c) % 18446744073709551616 : Nat) : Int), .int .u64 (((x + y + c) / 18446744073709551616 : Nat) : Int)])) w :=
 Any7.bits_Add64 Tryz.lays25 x y c hc w
theorem Tryz.add64_int (x y c : Int) (hx : 0 ≤ x) (hy : 0 ≤ y) (hc : 0 ≤ c) (hc1 : c ≤ 1) (w : World) :
  (callFunc 192 #[.int .u64 x, .int .u64 y, .int .u64 c]).run Tryz.prog w = .ok (.value (.tuple #[.int .u64 ((x + y + c) % 18446744073709551616), .int .u64 ((x + y + c) / 18446744073709551616)])) w := by
 obtain ⟨x, rfl⟩ := Int.eq_ofNat_of_zero_le hx
 obtain ⟨y, rfl⟩ := Int.eq_ofNat_of_zero_le hy
 obtain ⟨c, rfl⟩ := Int.eq_ofNat_of_zero_le hc
 rw [Tryz.bits_Add64 x y c (by omega) w]
 simp
end Go.Proofs

namespace Go.Proofs.YtlbnlmhcpephbaaGreatDoor
def kN (g m : Nat) : Nat := Nat.log2 m - g
def qN (g m : Nat) : Nat := m / 2 ^ kN g m
def idxN (g m : Nat) : Nat := kN g m * 2 ^ g + qN g m
def loN (g m : Nat) : Nat := qN g m * 2 ^ kN g m
def hiN (g m : Nat) : Nat := min (loN g m + (2 ^ kN g m - 1)) 9223372036854775808
section
variable {g m a b : Nat}
theorem log2_mono (ha : 0 < a) (h : a ≤ b) : Nat.log2 a ≤ Nat.log2 b := (Nat.le_log2 (by omega)).2 (Nat.le_trans (Nat.log2_self_le (by omega)) h)
theorem kN_mono (ha : 0 < a) (h : a ≤ b) : kN g a ≤ kN g b := by have := log2_mono ha h; unfold kN; omega
theorem qN_lt (hm : 0 < m) : qN g m < 2 ^ (g + 1) := by
 unfold qN
 refine Nat.div_lt_of_lt_mul ?_
 rw [← Nat.pow_add]
 refine Nat.lt_of_lt_of_le Nat.lt_log2_self (Nat.pow_le_pow_right (by omega) ?_)
 unfold kN
 omega
theorem qN_ge (hm : 0 < m) : kN g m = 0 ∨ 2 ^ g ≤ qN g m := by
 rcases Nat.eq_zero_or_pos (kN g m) with h | h
 ·exact .inl h
 ·refine .inr ?_
  unfold qN
  rw [Nat.le_div_iff_mul_le (Nat.pow_pos (by omega)), ← Nat.pow_add]
  refine Nat.le_trans (Nat.pow_le_pow_right (by omega) ?_) (Nat.log2_self_le (by omega : m ≠ 0))
  unfold kN at h ⊢
  omega
theorem qN_pos (hm : 0 < m) : 0 < qN g m := by
 rcases qN_ge (g := g) hm with h | h
 ·unfold qN; rw [h]; simpa using hm
 ·exact Nat.lt_of_lt_of_le (Nat.pow_pos (by omega)) h
theorem two_pow_succ (g : Nat) : 2 ^ (g + 1) = 2 * 2 ^ g := by rw [Nat.pow_succ, Nat.mul_comm]
theorem hpos (g : Nat) : 0 < 2 ^ g := Nat.pow_pos (by omega)
theorem idx_div (hm : 0 < m) : idxN g m / 2 ^ g - 1 = kN g m := by
 have h1 := qN_lt (g := g) hm
 have h2 := qN_ge (g := g) hm
 have h3 := hpos g
 rw [two_pow_succ] at h1
 unfold idxN
 rw [Nat.add_comm, Nat.add_mul_div_right _ _ h3]
 rcases h2 with h2 | h2
 ·rw [h2]
  have : qN g m / 2 ^ g < 2 := Nat.div_lt_of_lt_mul (by omega)
  omega
 ·have : qN g m / 2 ^ g = 1 := by
   have a1 : qN g m / 2 ^ g < 2 := Nat.div_lt_of_lt_mul (by omega)
   have a2 : 1 ≤ qN g m / 2 ^ g := (Nat.le_div_iff_mul_le h3).2 (by omega)
   omega
  omega
theorem idx_rest : idxN g m - kN g m * 2 ^ g = qN g m := by unfold idxN; omega
theorem idx_pos (hm : 0 < m) : 0 < idxN g m := by have := qN_pos (g := g) hm; unfold idxN; omega
theorem lo_le (g m : Nat) : loN g m ≤ m := Nat.div_mul_le_self _ _
theorem lt_hi (g m : Nat) : m < loN g m + 2 ^ kN g m := by
 unfold loN qN
 have := Nat.lt_div_mul_add (a := m) (hpos (kN g m))
 omega
theorem lo_pos (hm : 0 < m) : 0 < loN g m := Nat.mul_pos (qN_pos hm) (hpos _)
theorem idx_mono (ha : 0 < a) (h : a ≤ b) : idxN g a ≤ idxN g b := by
 have hk := kN_mono (g := g) ha h
 rcases Nat.lt_or_ge (kN g a) (kN g b) with hlt | hge
 ·have h1 := qN_lt (g := g) ha
  rw [two_pow_succ] at h1
  rcases qN_ge (g := g) (m := b) (by omega) with h2 | h2
  ·omega
  ·have h3 : (kN g a + 1) * 2 ^ g ≤ kN g b * 2 ^ g := Nat.mul_le_mul_right _ hlt
   rw [Nat.add_mul, Nat.one_mul] at h3
   unfold idxN
   omega
 ·have e : kN g a = kN g b := by omega
  have : qN g a ≤ qN g b := by unfold qN; rw [e]; exact Nat.div_le_div_right h
  unfold idxN
  rw [e]
  omega
theorem log2_le63 (hm : 0 < m) (h : m ≤ 9223372036854775808) : Nat.log2 m ≤ 63 := by
 have : Nat.log2 m < 64 := (Nat.log2_lt (by omega)).2 (by omega)
 omega
theorem log2_lt63 (hm : 0 < m) (h : m < 9223372036854775808) : Nat.log2 m ≤ 62 := by
 have : Nat.log2 m < 63 := (Nat.log2_lt (by omega)).2 (by omega)
 omega
theorem log2_top : Nat.log2 9223372036854775808 = 63 := by
 have h1 := log2_le63 (m := 9223372036854775808) (by omega) (Nat.le_refl _)
 have h2 := (Nat.le_log2 (n := 9223372036854775808) (k := 63) (by omega)).2 (by omega)
 omega
theorem pow63 : (2 : Nat) ^ 63 = 9223372036854775808 := by decide +kernel
theorem cell_top (hm : 0 < m) (h : m < 9223372036854775808) : loN g m + 2 ^ kN g m ≤ 9223372036854775808 := by
 have h1 := qN_lt (g := g) hm
 have h2 := log2_lt63 hm h
 rcases Nat.eq_zero_or_pos (kN g m) with h0 | h0
 ·have := lo_le g m
  rw [h0]
  simp only [Nat.pow_zero]
  omega
 ·have h4 : (qN g m + 1) * 2 ^ kN g m ≤ 2 ^ (g + 1) * 2 ^ kN g m := Nat.mul_le_mul_right _ h1
  rw [← Nat.pow_add, Nat.add_mul, Nat.one_mul] at h4
  have h5 : 2 ^ (g + 1 + kN g m) ≤ 2 ^ 63 := Nat.pow_le_pow_right (by omega) (by unfold kN at h0 ⊢; omega)
  rw [pow63] at h5
  unfold loN
  omega
theorem hi_below (hm : 0 < m) (h : m < 9223372036854775808) : hiN g m = loN g m + (2 ^ kN g m - 1) := by
 have := cell_top (g := g) hm h
 have := hpos (kN g m)
 unfold hiN
 omega
theorem k_top (hg : g ≤ 63) : kN g 9223372036854775808 = 63 - g := by unfold kN; rw [log2_top]
theorem q_top (hg : g ≤ 63) : qN g 9223372036854775808 = 2 ^ g := by
 unfold qN
 rw [k_top hg, ← pow63]
 rw [show (63 : Nat) = g + (63 - g) by omega, Nat.pow_add, show g + (63 - g) - g = 63 - g by omega]
 exact Nat.mul_div_cancel _ (hpos _)
theorem lo_top (hg : g ≤ 63) : loN g 9223372036854775808 = 9223372036854775808 := by
 unfold loN
 rw [q_top hg, k_top hg, ← Nat.pow_add, show g + (63 - g) = 63 by omega, pow63]
theorem hi_top (hg : g ≤ 63) : hiN g 9223372036854775808 = 9223372036854775808 := by
 have := hpos (kN g 9223372036854775808)
 unfold hiN
 rw [lo_top hg]
 omega
theorem idx_top (hg : g ≤ 63) : idxN g 9223372036854775808 = (64 - g) * 2 ^ g := by
 unfold idxN
 rw [k_top hg, q_top hg, show 64 - g = (63 - g) + 1 by omega, Nat.add_mul, Nat.one_mul]
theorem m_le_hi (hm : 0 < m) (h : m ≤ 9223372036854775808) : m ≤ hiN g m := by
 have := lt_hi g m
 unfold hiN
 omega
theorem hi_le (g m : Nat) : hiN g m ≤ 9223372036854775808 := by unfold hiN; omega
theorem lo_le_hi (hm : 0 < m) (h : m ≤ 9223372036854775808) : loN g m ≤ hiN g m := Nat.le_trans (lo_le g m) (m_le_hi hm h)
def kI (g i : Nat) : Nat := i / 2 ^ g - 1
def qI (g i : Nat) : Nat := i - kI g i * 2 ^ g
theorem qI_lt (g i : Nat) : qI g i < 2 ^ (g + 1) := by
 have h3 := hpos g
 have h1 := Nat.lt_div_mul_add (a := i) h3
 rw [two_pow_succ]
 unfold qI kI
 rcases Nat.eq_zero_or_pos (i / 2 ^ g) with h | h
 ·rw [h] at h1 ⊢; simp only [Nat.zero_mul, Nat.zero_sub, Nat.sub_zero] at *; omega
 ·have e : (i / 2 ^ g - 1) * 2 ^ g + 2 ^ g = i / 2 ^ g * 2 ^ g := by
   conv => rhs; rw [show i / 2 ^ g = (i / 2 ^ g - 1) + 1 by omega, Nat.add_mul, Nat.one_mul]
  omega
theorem qI_ge (g i : Nat) : kI g i = 0 ∨ 2 ^ g ≤ qI g i := by
 have h3 := hpos g
 have h1 := Nat.div_mul_le_self i (2 ^ g)
 unfold qI kI
 rcases Nat.lt_or_ge (i / 2 ^ g) 2 with h | h
 ·exact .inl (by omega)
 ·refine .inr ?_
  have e : (i / 2 ^ g - 1) * 2 ^ g + 2 ^ g = i / 2 ^ g * 2 ^ g := by
   conv => rhs; rw [show i / 2 ^ g = (i / 2 ^ g - 1) + 1 by omega, Nat.add_mul, Nat.one_mul]
  omega
theorem kI_mul (g i : Nat) : kI g i * 2 ^ g ≤ i := by
 have h1 := Nat.div_mul_le_self i (2 ^ g)
 have : (i / 2 ^ g - 1) * 2 ^ g ≤ i / 2 ^ g * 2 ^ g := Nat.mul_le_mul_right _ (Nat.sub_le _ _)
 unfold kI
 exact Nat.le_trans this h1
theorem qI_pos {i : Nat} (hi : 0 < i) : 0 < qI g i := by
 rcases qI_ge g i with h | h
 ·unfold qI; rw [h]; omega
 ·exact Nat.lt_of_lt_of_le (hpos g) h
theorem idx_of {i : Nat} (hg : g ≤ 63) (hi : 0 < i) (ht : i ≤ (64 - g) * 2 ^ g) : 0 < qI g i * 2 ^ kI g i ∧ qI g i * 2 ^ kI g i ≤ 9223372036854775808 ∧ idxN g (qI g i * 2 ^ kI g i) = i ∧ kN g (qI g i * 2 ^ kI g i) = kI g i ∧ qN g (qI g i * 2 ^ kI g i) = qI g i := by
 have h3 := hpos g
 have hq := qI_pos (g := g) hi
 have hp := Nat.mul_pos hq (hpos (kI g i))
 have h1 := qI_lt g i
 have hk : kN g (qI g i * 2 ^ kI g i) = kI g i := by
  have u : Nat.log2 (qI g i * 2 ^ kI g i) < g + 1 + kI g i := (Nat.log2_lt (by omega)).2 (by rw [Nat.pow_add]; exact Nat.mul_lt_mul_of_pos_right h1 (hpos _))
  unfold kN
  rcases Nat.eq_zero_or_pos (kI g i) with h0 | h0
  ·rw [h0] at u ⊢; omega
  ·rcases qI_ge g i with h2 | h2
   ·omega
   ·have l : g + kI g i ≤ Nat.log2 (qI g i * 2 ^ kI g i) := (Nat.le_log2 (by omega)).2 (by rw [Nat.pow_add]; exact Nat.mul_le_mul_right _ h2)
    omega
 have hqq : qN g (qI g i * 2 ^ kI g i) = qI g i := by unfold qN; rw [hk]; exact Nat.mul_div_cancel _ (hpos _)
 refine ⟨hp, ?_, ?_, hk, hqq⟩
 ·have hd : i / 2 ^ g ≤ 64 - g := Nat.div_le_of_le_mul (by rw [Nat.mul_comm]; exact ht)
  rcases Nat.lt_or_ge (kI g i) (63 - g) with h | h
  ·have h4 : qI g i * 2 ^ kI g i ≤ 2 ^ (g + 1) * 2 ^ kI g i := Nat.mul_le_mul_right _ (Nat.le_of_lt h1)
   rw [← Nat.pow_add] at h4
   have h5 : 2 ^ (g + 1 + kI g i) ≤ 2 ^ 63 := Nat.pow_le_pow_right (by omega) (by omega)
   rw [pow63] at h5
   omega
  ·have hke : kI g i = 63 - g := by unfold kI at h ⊢; omega
   have hqe : qI g i ≤ 2 ^ g := by
    unfold qI
    rw [hke]
    have : (64 - g) * 2 ^ g = (63 - g) * 2 ^ g + 2 ^ g := by rw [show 64 - g = (63 - g) + 1 by omega, Nat.add_mul, Nat.one_mul]
    omega
   have h4 : qI g i * 2 ^ kI g i ≤ 2 ^ g * 2 ^ kI g i := Nat.mul_le_mul_right _ hqe
   rw [← Nat.pow_add, hke, show g + (63 - g) = 63 by omega, pow63] at h4
   rw [hke]
   exact h4
 ·have := kI_mul g i
  unfold idxN
  rw [hk, hqq]
  unfold qI
  omega
theorem idx_le_top (hg : g ≤ 63) (hm : 0 < m) (h : m ≤ 9223372036854775808) : idxN g m ≤ (64 - g) * 2 ^ g := by
 rw [← idx_top hg]; exact idx_mono hm h
end
end Go.Proofs.YtlbnlmhcpephbaaGreatDoor

namespace Go.Proofs.YtlbnlmhcpephbaaGreatDoor
open Go.ChangeShapes Go.WideShapes Go.ChangeAt Go.RowKit Go.Deep
def Rd (w : World) (A : Option Addr) (cs : List Value) : Prop := ∀ j u, cs[j]? = some u → ∃ g o, A = some ⟨g, o, none⟩ ∧ g < w.heap.size ∧ w.cell? ⟨g, o + j, none⟩ = some u
theorem Rd.below {w w' : World} {A : Option Addr} {cs : List Value} (h : Rd w A cs) (hb : Below w.heap.size w w') : Rd w' A cs := fun j u hj => by
 obtain ⟨g, o, e, hg, hc⟩ := h j u hj
 exact ⟨g, o, e, Nat.lt_of_lt_of_le hg hb.size, cellB hb hg hc⟩
theorem Rd.nil (w : World) (A : Option Addr) : Rd w A [] := fun j u h => by simp at h
theorem list_choose {α : Type} {P : Nat → α → Prop} : ∀ n : Nat, (∀ i, i < n → ∃ x, P i x) → ∃ xs : List α, xs.length = n ∧ ∀ i (h : i < xs.length), P i (xs[i]) := by
 intro n
 induction n with
 | zero => intro _; exact ⟨[], rfl, fun i h => by simp at h⟩
 | succ n ih =>
  intro h
  obtain ⟨xs, hl, hx⟩ := ih fun i hi => h i (by omega)
  obtain ⟨x, hp⟩ := h n (by omega)
  refine ⟨xs ++ [x], by simp [hl], fun i hi => ?_⟩
  by_cases hin : i < xs.length
  ·rw [List.getElem_append_left hin]; exact hx i hin
  ·have : i = n := by simp at hi; omega
   subst this
   rw [List.getElem_append_right (by omega)]
   simpa [hl] using hp
theorem rd_cell {w : World} {a : Addr} {j : Nat} {u : Value} (hs : a.spot = none) (h : w.cell? (a.add j) = some u) : ∃ g o, some a = some ⟨g, o, none⟩ ∧ g < w.heap.size ∧ w.cell? ⟨g, o + j, none⟩ = some u := by
 obtain ⟨g, o, s⟩ := a
 obtain rfl : s = none := hs
 rw [Addr.add_lit] at h
 exact ⟨g, o, rfl, World.block_lt_of_cell? w _ h, h⟩
section
variable {H : Type} {enc : TypeId × Value → H} {P : Program} {w : World}
theorem open_ints_rd {t e : TypeId} {k : IntKind} {a0 : Option Addr} {len cap : Nat} {d : DataW H} {p : List MemPlace} (ht : P.underlying t = some (.slice e)) (he : P.underlying e = some (.int k)) (hc : P.cellsOf e = 1)
  (h : DataW.Trod enc P w 0 (fun _ => true) true t (.slice a0 len cap) d p) :
  ∃ xs : List Int, xs.length = len ∧ Rd w a0 (xs.map (Value.int k)) ∧ (∀ x ∈ xs, (Lit.int k x).wf = true) ∧ len ≤ 9223372036854775807 := by
 obtain ⟨fuel, hf⟩ := h
 rcases open_ints ht he hc hf with ⟨hcs, _⟩ | ⟨a, len', cap', zs, hcs, _, hl, hm, hz, _, hcell, hwz⟩
 ·simp [Value.cells] at hcs
  obtain ⟨rfl, rfl, rfl⟩ := hcs
  exact ⟨[], rfl, Rd.nil _ _, by simp, by omega⟩
 ·simp [Value.cells] at hcs
  obtain ⟨rfl, rfl, rfl⟩ := hcs
  simp only [if_true] at hz
  unfold maxLen at hm
  refine ⟨zs.take len, by simp; omega, fun j u hj => ?_, fun x hx => hwz x (List.mem_of_mem_take hx), by omega⟩
  have hjl : j < len := by
   have := (List.getElem?_eq_some_iff.1 hj).1
   simp at this; omega
  have hc := hcell j (by omega)
  have hs : a.spot = none := by simpa [Addr.add] using World.cell?_spot (hcell 0 (by omega))
  have : u = .int k (zs.getD j 0) := by
   rw [List.getElem?_map, List.getElem?_take, if_pos hjl] at hj
   rw [List.getD_eq_getElem?_getD]
   have hjz : j < zs.length := by omega
   rw [List.getElem?_eq_getElem hjz] at hj ⊢
   simpa using hj.symm
  rw [this]
  exact rd_cell hs hc
theorem open_fields {t e : TypeId} {fs : Array Field} {a0 : Option Addr} {len cap : Nat} {d : DataW H} {p : List MemPlace} (ht : P.underlying t = some (.slice e)) (he : P.underlying e = some (.struct fs))
  (hone : oneCellFields P fs = true) (hC : P.cellsOf e = fs.size) (h : DataW.Trod enc P w 0 (fun _ => true) true t (.slice a0 len cap) d p) :
  len ≤ 9223372036854775807 ∧ ∀ i, i < len → ∃ n : Nat, ∀ (j : Nat) (f : Field), fs[j]? = some f → ∃ (v : Value) (y : DataW H × List MemPlace),
   (∃ g o, a0 = some ⟨g, o, none⟩ ∧ g < w.heap.size ∧ w.cell? ⟨g, o + (i * fs.size + j), none⟩ = some v) ∧ DataW.trod enc P w 0 (fun _ => true) true n f.type [v] = some y := by
 obtain ⟨fuel, hf⟩ := h
 rcases open_slice ht hf with ⟨hcs, _⟩ | ⟨a, len', cap', m, n, D, Pl, hcs, _, hl, hm, hmm, _, hi⟩
 ·simp [Value.cells] at hcs
  obtain ⟨rfl, rfl, rfl⟩ := hcs
  exact ⟨by omega, fun i h => by omega⟩
 ·simp [Value.cells] at hcs
  obtain ⟨rfl, rfl, rfl⟩ := hcs
  simp only [if_true] at hmm
  unfold maxLen at hm
  refine ⟨by omega, fun i him => ?_⟩
  have hall : ∀ i, i < len → ∃ n : Nat, ∀ (j : Nat) (f : Field), fs[j]? = some f → ∃ (v : Value) (y : DataW H × List MemPlace), w.cell? (a.add (i * fs.size + j)) = some v ∧ DataW.trod enc P w 0 (fun _ => true) true n f.type [v] = some y := by
   intro i him
   obtain ⟨cs', hc, ht'⟩ := hi i (by omega)
   rw [hC] at hc
   obtain ⟨ys, n', hn', hy, hlen, hyl, hf⟩ := DataW.trod_struct he ht'
   obtain ⟨_, hcl, hat⟩ := World.cells?_some hc
   refine ⟨n', fun j f hj => ?_⟩
   obtain ⟨ho, hk⟩ := hone_of hone j f hj
   have hjl : j < fs.size := (Array.getElem?_eq_some_iff.1 hj).1
   have hcell := hat j hjl
   have hv : cs'[j]? = some (cs'[j]'(by omega)) := List.getElem?_eq_getElem (by omega)
   have h1 := hf j f hj
   rw [ho, hk] at h1
   have hone' : (cs'.drop j).take 1 = [cs'[j]'(by omega)] := by
    rw [List.drop_eq_getElem_cons (by omega)]
    rfl
   rw [hone'] at h1
   have hys : ys[j]? = some (ys[j]'(by omega)) := List.getElem?_eq_getElem (by omega)
   refine ⟨_, _, ?_, h1.trans hys⟩
   rw [← Go.Deep.add_add, hcell, hv]
  by_cases hfs : fs.size = 0
  ·exact ⟨0, fun j f hj => by have := (Array.getElem?_eq_some_iff.1 hj).1; omega⟩
  ·have hs : a.spot = none := by
    obtain ⟨n0, h0⟩ := hall 0 (by omega)
    obtain ⟨v, y, hc, _⟩ := h0 0 (fs[0]'(by omega)) (Array.getElem?_eq_getElem (by omega))
    simpa [Addr.add] using World.cell?_spot hc
   obtain ⟨n, hn⟩ := hall i him
   refine ⟨n, fun j f hj => ?_⟩
   obtain ⟨v, y, hc, ht⟩ := hn j f hj
   exact ⟨v, y, rd_cell hs hc, ht⟩
theorem flat2 {α : Type} {f g : α → Value} (xs : List α) (j : Nat) (h : j < xs.length) : (xs.flatMap fun x => [f x, g x])[j * 2]? = some (f xs[j]) ∧ (xs.flatMap fun x => [f x, g x])[j * 2 + 1]? = some (g xs[j]) := by
 induction xs generalizing j with
 | nil => simp at h
 | cons x xs ih =>
  cases j with
  | zero => simp
  | succ j =>
   obtain ⟨h1, h2⟩ := ih j (by simpa using h)
   simp only [List.flatMap_cons, List.getElem_cons_succ]
   rw [show (j + 1) * 2 = j * 2 + 1 + 1 by omega]
   simp [h1, h2]
theorem flat2_len {α : Type} {f g : α → Value} (xs : List α) : (xs.flatMap fun x => [f x, g x]).length = xs.length * 2 := by
 induction xs with
 | nil => rfl
 | cons x xs ih => simp [List.flatMap_cons, ih]; omega
theorem open_two_rd {t e : TypeId} {f0 f1 : Field} {k0 k1 : IntKind} {a0 : Option Addr} {len cap : Nat} {d : DataW H} {p : List MemPlace} (ht : P.underlying t = some (.slice e)) (he : P.underlying e = some (.struct #[f0, f1]))
  (hone : oneCellFields P #[f0, f1] = true) (hC : P.cellsOf e = 2) (h0 : P.underlying f0.type = some (.int k0)) (h1 : P.underlying f1.type = some (.int k1)) (h : DataW.Trod enc P w 0 (fun _ => true) true t (.slice a0 len cap) d p) :
  ∃ xs : List (Int × Int), xs.length = len ∧ Rd w a0 (xs.flatMap fun x => [.int k0 x.1, .int k1 x.2]) ∧ (∀ x ∈ xs, (Lit.int k0 x.1).wf = true ∧ (Lit.int k1 x.2).wf = true) ∧ len ≤ 9223372036854775807 := by
 obtain ⟨hl, hi⟩ := open_fields ht he hone hC h
 obtain ⟨xs, hxl, hx⟩ := list_choose (P := fun i (x : Int × Int) => ((Lit.int k0 x.1).wf = true ∧ (Lit.int k1 x.2).wf = true) ∧
   (∃ g o, a0 = some ⟨g, o, none⟩ ∧ g < w.heap.size ∧ w.cell? ⟨g, o + i * 2, none⟩ = some (.int k0 x.1)) ∧ (∃ g o, a0 = some ⟨g, o, none⟩ ∧ g < w.heap.size ∧ w.cell? ⟨g, o + (i * 2 + 1), none⟩ = some (.int k1 x.2))) len (fun i him => by
  obtain ⟨n, hn⟩ := hi i him
  obtain ⟨v0, y0, c0, t0⟩ := hn 0 f0 rfl
  obtain ⟨v1, y1, c1, t1⟩ := hn 1 f1 rfl
  obtain ⟨x0, e0, _, w0⟩ := DataW.trod_int h0 t0
  obtain ⟨x1, e1, _, w1⟩ := DataW.trod_int h1 t1
  simp only [List.cons.injEq, and_true] at e0 e1
  subst e0 e1
  exact ⟨(x0, x1), ⟨w0, w1⟩, c0, c1⟩)
 refine ⟨xs, hxl, fun j u hj => ?_, fun x hx' => ?_, hl⟩
 ·have hjl := (List.getElem?_eq_some_iff.1 hj).1
  rw [flat2_len] at hjl
  obtain ⟨i, hij⟩ : ∃ i, i = j / 2 := ⟨_, rfl⟩
  obtain ⟨_, p0, p1⟩ := hx i (by omega)
  obtain ⟨q0, q1⟩ := flat2 (f := fun x : Int × Int => Value.int k0 x.1) (g := fun x => Value.int k1 x.2) xs i (by omega)
  rcases (show j = i * 2 ∨ j = i * 2 + 1 by omega) with rfl | rfl
  ·rw [q0] at hj
   obtain rfl := Option.some.inj hj
   exact p0
  ·rw [q1] at hj
   obtain rfl := Option.some.inj hj
   exact p1
 ·obtain ⟨i, hil, rfl⟩ := List.getElem_of_mem hx'
  exact (hx i hil).1
theorem trodAll_below {W W' : World} (hl : laidOutB P = true) (hb : Below W.heap.size W W') : ∀ {ts : List TypeId} {vs : List Value} {ds : List (DataW H)} {p : List MemPlace}, (∀ t ∈ ts, P.readableRec t = true ∧ t < P.types.size) →
  DataW.TrodAll enc P W 0 (fun _ => true) true ts vs ds p → DataW.TrodAll enc P W' 0 (fun b => decide (b < W.heap.size)) true ts vs ds p := by
 intro ts
 induction ts with
 | nil =>
  intro vs ds p _ h
  obtain ⟨rfl, rfl, rfl⟩ := trodAll_nil h
  exact trodAll_mk0
 | cons t ts ih =>
  intro vs ds p hts h
  obtain ⟨v, vs', d, ds', p0, q0, rfl, rfl, rfl, h0, r0⟩ := trodAll_cons h
  have lt0 : ∀ x ∈ p0, x.block < W.heap.size := by obtain ⟨m, hm⟩ := h0; exact DataW.trod_lt m _ _ _ hm
  exact trodAll_cons_mk (Below.trod hl (hts t (by simp)).1 (hts t (by simp)).2 h0 hb lt0) (ih (fun t' h' => hts t' (by simp [h'])) r0)
end
theorem wf_u64 {x : Int} (h : (Lit.int .u64 x).wf = true) : 0 ≤ x ∧ x < 18446744073709551616 := by
 simp only [Lit.wf, Bool.and_eq_true, decide_eq_true_eq] at h
 have h1 : IntKind.u64.min = 0 := rfl
 have h2 : IntKind.u64.max = 18446744073709551615 := rfl
 omega
theorem wf_i64 {x : Int} (h : (Lit.int .i64 x).wf = true) : -9223372036854775808 ≤ x ∧ x ≤ 9223372036854775807 := by
 simp only [Lit.wf, Bool.and_eq_true, decide_eq_true_eq] at h
 have h1 : IntKind.i64.min = -9223372036854775808 := rfl
 have h2 : IntKind.i64.max = 9223372036854775807 := rfl
 omega
theorem own : ownKnob Tryz.prog.godebug = none := by kernel_rfl
theorem laidOut : laidOutB Tryz.prog = true := by kernel_rfl
end Go.Proofs.YtlbnlmhcpephbaaGreatDoor

namespace Go.Proofs.YtlbnlmhcpephbaaGreatDoor
open Go.RowKit Go.Shelf
structure Frame (S : List Nat) (w w' : World) : Prop where
 os : w'.os = w.os
 tape : w'.tape = w.tape
 output : w'.output = w.output
 size : w.heap.size ≤ w'.heap.size
 block : ∀ k, k < w.heap.size → k ∉ S → w'.heap[k]? = w.heap[k]?
theorem Frame.of_below {S : List Nat} {w w' : World} (h : Below w.heap.size w w') : Frame S w w' := ⟨h.os, h.tape, h.output, h.size, fun k hk _ => h.block k hk⟩
theorem Frame.trans {S : List Nat} {w w1 w2 : World} (h : Frame S w w1) (k : Frame S w1 w2) : Frame S w w2 :=
 ⟨k.os.trans h.os, k.tape.trans h.tape, k.output.trans h.output, Nat.le_trans h.size k.size, fun i hi hn => (k.block i (Nat.lt_of_lt_of_le hi h.size) hn).trans (h.block i hi hn)⟩
theorem Frame.set (S : List Nat) (w : World) (b i : Nat) (v : Value) (hb : b ∈ S) : Frame S w (w.setCell ⟨b, i, none⟩ v) :=
 ⟨rfl, rfl, rfl, by simp [World.setCell], fun k _ hn => Below.heap_setCell w _ v k (by show k ≠ b; rintro rfl; exact hn hb)⟩
theorem Frame.at {S : List Nat} {b : Nat} {w w' : World} {cs : Array Value} {T : TypeId} (h : Frame S w w') (hs : At w b cs T) (hn : b ∉ S) : At w' b cs T := (h.block b hs.lt hn).trans hs
theorem Frame.drew {S : List Nat} {w w' : World} (h : Frame S w w') : Frame S w w'.drew := ⟨h.os, h.tape, h.output, h.size, h.block⟩
theorem Frame.refl (S : List Nat) (w : World) : Frame S w w := ⟨rfl, rfl, rfl, Nat.le_refl _, fun _ _ _ => rfl⟩
theorem Frame.setc {S : List Nat} {b : Nat} {w w' : World} (h : Frame S w w') (hb : b ∈ S ∨ w.heap.size ≤ b) (i : Nat) (v : Value) : Frame S w (w'.setCell ⟨b, i, none⟩ v) :=
 ⟨h.os, h.tape, h.output, by simpa [World.setCell] using h.size, fun k hk hn => (Below.heap_setCell w' _ v k (fun (e : k = b) => hb.elim (fun hb => hn (e ▸ hb)) (fun hb => absurd hk (by omega)))).trans (h.block k hk hn)⟩
theorem Frame.alloc {S : List Nat} {w w' : World} (h : Frame S w w') (o : Obj) : Frame S w (w'.alloc o) := h.trans (Frame.of_below ((Below.refl _ _).alloc (Nat.le_refl _) o))
theorem Frame.below {S : List Nat} {B : Nat} {w0 w w' : World} (hB : Below B w0 w) (hz : B ≤ w.heap.size) (h : Frame S w w') (hS : ∀ k ∈ S, B ≤ k) : Below B w0 w' :=
 hB.trans ⟨h.os, h.tape, h.output, h.size, fun k hk => h.block k (Nat.lt_of_lt_of_le hk hz) fun hm => absurd (hS k hm) (by omega)⟩
theorem Frame.rd {S : List Nat} {w w' : World} {A : Option Addr} {cs : List Value} (h : Frame S w w') (hr : Rd w A cs) (hn : ∀ a, A = some a → a.block ∉ S) : Rd w' A cs := fun j u hj => by
 obtain ⟨g, o, rfl, hg, hc⟩ := hr j u hj
 refine ⟨g, o, rfl, Nat.lt_of_lt_of_le hg h.size, ?_⟩
 rw [← hc]
 exact World.cell?_of_block (w := w) (h.block g hg (hn _ rfl))
def Apart (S T : List Nat) : Prop := ∀ k ∈ S, k ∉ T
def GrownS (S S' : List Nat) (n : Nat) : Prop := ∀ k ∈ S', k ∈ S ∨ n ≤ k
def Within (S : List Nat) (lo hi : Nat) : Prop := ∀ k ∈ S, lo ≤ k ∧ k < hi
theorem Apart.symm {S T : List Nat} (h : Apart S T) : Apart T S := fun k hk hn => h k hn hk
theorem Apart.grown {S S' T : List Nat} {n lo : Nat} (h : Apart S T) (hg : GrownS S S' n) (hw : Within T lo n) : Apart S' T := fun k hk hn => by
 rcases hg k hk with h1 | h1
 ·exact h k h1 hn
 ·have := (hw k hn).2; omega
theorem Within.mono {S : List Nat} {lo hi hi' : Nat} (h : Within S lo hi) (hh : hi ≤ hi') : Within S lo hi' := fun k hk => ⟨(h k hk).1, Nat.lt_of_lt_of_le (h k hk).2 hh⟩
theorem Within.grown {S S' : List Nat} {lo hi n : Nat} (h : Within S lo n) (hg : GrownS S S' n) (hl : lo ≤ n) (hs : ∀ k ∈ S', k < hi) : Within S' lo hi := fun k hk => ⟨by
 rcases hg k hk with h1 | h1
 ·exact (h k h1).1
 ·omega, hs k hk⟩
theorem GrownS.refl (S : List Nat) (n : Nat) : GrownS S S n := fun _ hk => .inl hk
theorem Frame.below' {S : List Nat} {lo : Nat} {w0 w w' : World} (h : Frame S w w') (hB : Below lo w0 w) (hz : lo ≤ w.heap.size) (hS : Within S lo w.heap.size) : Below lo w0 w' := h.below hB hz fun k hk => (hS k hk).1
theorem Frame.mono {S T : List Nat} {w w' : World} (h : Frame S w w') (hs : ∀ k ∈ S, k ∈ T) : Frame T w w' := ⟨h.os, h.tape, h.output, h.size, fun k hk hn => h.block k hk fun hm => hn (hs k hm)⟩
def KpB (n₀ Bn : Nat) (W W' : World) : Prop := ∀ k, k < n₀ ∨ k = Bn → W'.heap[k]? = W.heap[k]?
structure Two (B : Nat) (w wr : World) (S T : List Nat) (X Y : Prop) : Prop where
 x : X
 y : Y
 ws : Within S B wr.heap.size
 wt : Within T B wr.heap.size
 ap : Apart S T
 below : Below B w wr
 size : B ≤ wr.heap.size
theorem Two.stepX {B : Nat} {w wr w' : World} {S S' T : List Nat} {X X' Y Y' : Prop} (h : Two B w wr S T X Y) (hg : GrownS S S' wr.heap.size) (hX : X') (hlt : ∀ k ∈ S', k < w'.heap.size) (hF : Frame S wr w') (hY : Y') : Two B w w' S' T X' Y' :=
 ⟨hX, hY, h.ws.grown hg h.size hlt, h.wt.mono hF.size, h.ap.grown hg h.wt, hF.below' h.below h.size h.ws, Nat.le_trans h.size hF.size⟩
theorem Two.belowW {B : Nat} {w wr w' : World} {S T : List Nat} {X X' Y Y' : Prop} (h : Two B w wr S T X Y) (hb : Below wr.heap.size wr w') (hX : X → X') (hY : Y → Y') : Two B w w' S T X' Y' :=
 ⟨hX h.x, hY h.y, h.ws.mono hb.size, h.wt.mono hb.size, h.ap, h.below.trans (hb.mono h.size), Nat.le_trans h.size hb.size⟩
theorem Two.fin {B : Nat} {w wr w' : World} {S T : List Nat} {X Y : Prop} (h : Two B w wr S T X Y) (hb : Below wr.heap.size wr w') : Below B w w' := h.below.trans (hb.mono h.size)
end Go.Proofs.YtlbnlmhcpephbaaGreatDoor

namespace Go.Proofs.YtlbnlmhcpephbaaGreatDoor
open Go.RowKit
structure TensAt (w : World) : Prop where
 lt : 0 < w.heap.size
 c0 : w.cell? ⟨0, 0, none⟩ = some (.int .u64 1)
 c1 : w.cell? ⟨0, 1, none⟩ = some (.int .u64 10)
 c2 : w.cell? ⟨0, 2, none⟩ = some (.int .u64 100)
 c3 : w.cell? ⟨0, 3, none⟩ = some (.int .u64 1000)
 c4 : w.cell? ⟨0, 4, none⟩ = some (.int .u64 10000)
theorem TensAt.below {w w' : World} (h : TensAt w) (hb : Below w.heap.size w w') : TensAt w' :=
 ⟨Nat.lt_of_lt_of_le h.lt hb.size, cellB hb h.lt h.c0, cellB hb h.lt h.c1, cellB hb h.lt h.c2, cellB hb h.lt h.c3, cellB hb h.lt h.c4⟩
end Go.Proofs.YtlbnlmhcpephbaaGreatDoor
namespace Go.Proofs.YtlbnlmhcpephbaaGreatDoor
open Go.RowKit
theorem sgof_any (x : Int) (w : World) (h1 : -9223372036854775808 ≤ x) (h2 : x ≤ 9223372036854775807) :
  Calls Tryz.prog 188 #[.int .i64 x] w fun e w' => e = .returned (.tuple #[.int .u64 (x.natAbs : Int), .bool (decide (x < 0))]) ∧ w = w' := by
 by_cases hx : x < 0
 ·have HV : Hid ((x.natAbs : Int) = -x) := by show _ = _; omega
  have v1 : IntKind.u64.wrap x = x + 18446744073709551616 := by simp only [IntKind.wrap_u64]; omega
  have v2 : IntKind.u64.wrap (-(x + 18446744073709551616)) = -x := by simp only [IntKind.wrap_u64]; omega
  have hd : decide (x < 0) = true := decide_eq_true hx
  rw [HV.out, hd]
  clear h1 h2
  go_enter Tryz.func188, Tryz.ntmps188
  go_wp2
  go_ret2
  exact ⟨rfl, rfl⟩
 ·have HV : Hid ((x.natAbs : Int) = x) := by show _ = _; omega
  have v1 : IntKind.u64.wrap x = x := by simp only [IntKind.wrap_u64]; omega
  have hd : decide (x < 0) = false := decide_eq_false hx
  rw [HV.out, hd]
  clear h1 h2
  go_enter Tryz.func188, Tryz.ntmps188
  go_wp2
  go_ret2
  exact ⟨rfl, rfl⟩
def valM (m : Int) (below : Bool) : Int := if below then (if m ≤ 9223372036854775808 then -m else 0) else (if m < 9223372036854775808 then m else 0)
def valOk (m : Int) (below : Bool) : Bool := if below then decide (m ≤ 9223372036854775808) else decide (m < 9223372036854775808)
theorem sgval_any (m : Int) (below : Bool) (w : World) (h1 : 0 ≤ m) (h2 : m < 18446744073709551616) :
  Calls Tryz.prog 193 #[.int .u64 m, .bool below] w fun e w' => e = .returned (.tuple #[.int .i64 (valM m below), .bool (valOk m below)]) ∧ w = w' := by
 cases below with
 | true =>
  by_cases hm : m ≤ 9223372036854775808
  ·have HV : Hid (valM m true = -m ∧ valOk m true = true) := by show _ ∧ _; unfold valM valOk; simp [hm]
   rw [HV.out.1, HV.out.2]
   have hd : decide (m ≤ 9223372036854775808) = true := decide_eq_true hm
   by_cases h0 : m = 0
   ·subst h0
    go_enter Tryz.func193, Tryz.ntmps193
    go_wp2
    go_ret2
    exact ⟨rfl, rfl⟩
   ·have v1 : IntKind.u64.wrap (-m) = 18446744073709551616 - m := by simp only [IntKind.wrap_u64]; omega
    have v2 : IntKind.i64.wrap (18446744073709551616 - m) = -m := by simp only [IntKind.wrap_i64]; omega
    clear h1 h2 h0
    go_enter Tryz.func193, Tryz.ntmps193
    go_wp2
    go_ret2
    exact ⟨rfl, rfl⟩
  ·have HV : Hid (valM m true = 0 ∧ valOk m true = false) := by show _ ∧ _; unfold valM valOk; simp; omega
   rw [HV.out.1, HV.out.2]
   have hd : decide (m ≤ 9223372036854775808) = false := decide_eq_false hm
   clear h1 h2
   go_enter Tryz.func193, Tryz.ntmps193
   go_wp2
   go_ret2
   exact ⟨rfl, rfl⟩
 | false =>
  by_cases hm : m < 9223372036854775808
  ·have HV : Hid (valM m false = m ∧ valOk m false = true) := by show _ ∧ _; unfold valM valOk; simp [hm]
   rw [HV.out.1, HV.out.2]
   have hd : decide (m < 9223372036854775808) = true := decide_eq_true hm
   have v1 : IntKind.i64.wrap m = m := by simp only [IntKind.wrap_i64]; omega
   clear h1 h2
   go_enter Tryz.func193, Tryz.ntmps193
   go_wp2
   go_ret2
   exact ⟨rfl, rfl⟩
  ·have HV : Hid (valM m false = 0 ∧ valOk m false = false) := by show _ ∧ _; unfold valM valOk; simp; omega
   rw [HV.out.1, HV.out.2]
   have hd : decide (m < 9223372036854775808) = false := decide_eq_false hm
   clear h1 h2
   go_enter Tryz.func193, Tryz.ntmps193
   go_wp2
   go_ret2
   exact ⟨rfl, rfl⟩
theorem rsize_any (x : Int) (w : World) (h1 : -9223372036854775808 ≤ x) (h2 : x ≤ 9223372036854775807) :
  Calls Tryz.prog 18 #[.int .i64 x] w fun e w' => e = .returned (.int .u64 (x.natAbs : Int)) ∧ w = w' := by
 by_cases hx : 0 ≤ x
 ·have HV : Hid ((x.natAbs : Int) = x) := by show _ = _; omega
  have v1 : IntKind.u64.wrap x = x := by simp only [IntKind.wrap_u64]; omega
  rw [HV.out]
  clear h1 h2
  go_enter Tryz.func18, Tryz.ntmps18
  go_wp2
  go_ret
  exact ⟨rfl, rfl⟩
 ·have HV : Hid ((x.natAbs : Int) = -(x + 1) + 1) := by show _ = _; omega
  have v0 : IntKind.i64.wrap (x + 1) = x + 1 := by simp only [IntKind.wrap_i64]; omega
  have v1 : IntKind.i64.wrap (-(x + 1)) = -(x + 1) := by simp only [IntKind.wrap_i64]; omega
  have v2 : IntKind.u64.wrap (-(x + 1)) = -(x + 1) := by simp only [IntKind.wrap_u64]; omega
  have v3 : IntKind.u64.wrap (-(x + 1) + 1) = -(x + 1) + 1 := by simp only [IntKind.wrap_u64]; omega
  rw [HV.out]
  clear h1 h2
  go_enter Tryz.func18, Tryz.ntmps18
  go_wp2
  go_ret
  exact ⟨rfl, rfl⟩
end Go.Proofs.YtlbnlmhcpephbaaGreatDoor
namespace Go.Proofs.YtlbnlmhcpephbaaGreatDoor
open Go.RowKit
theorem log_any (a : Int) (w : World) (h1 : 0 ≤ a) (h2 : a < 18446744073709551616) :
    Calls Tryz.prog 158 #[.int .u64 a] w fun e w' => e = .returned (.tuple #[.int .i64 ((Lib.bitLen a.toNat : Int) - 1), .bool (a != 0)]) ∧ w = w' := by
  have hb : Lib.bitLen a.toNat ≤ 64 := Lib.bitLen_le _ 64 (by omega) (by have : a.toNat < 18446744073709551616 := by omega
                                                                         simpa using this)
  obtain ⟨k, HK⟩ : ∃ k : Nat, Hid (Lib.bitLen a.toNat = k) := ⟨_, rfl⟩
  rw [HK.out] at hb ⊢
  go_enter Tryz.func158, Tryz.ntmps158
  go_wp2_with fail
  refine (Tryz.bits_Len64 a w h1 (by omega)).mono ?_
  rintro e w1 ⟨rfl, hw⟩
  subst hw
  rw [HK.out]
  go_wp2
  go_ret2
  exact ⟨rfl, rfl⟩
theorem bitLen_log2 (a : Nat) (h : 0 < a) (h2 : a < 2 ^ 64) : Lib.bitLen a = Nat.log2 a + 1 := by
 rw [Lib.bitLen_shift (Nat.log2 a) a (Nat.log2_self_le (by omega)) h2]
 have e : a / 2 ^ Nat.log2 a = 1 := by
  have hp : 0 < 2 ^ Nat.log2 a := Nat.pow_pos (by omega)
  have a1 : 1 ≤ a / 2 ^ Nat.log2 a := (Nat.le_div_iff_mul_le hp).2 (by rw [Nat.one_mul]; exact Nat.log2_self_le (by omega))
  have a2 : a / 2 ^ Nat.log2 a < 2 := Nat.div_lt_of_lt_mul (by have := @Nat.lt_log2_self a; rw [Nat.pow_succ] at this; exact this)
  omega
 rw [e]
 have : Lib.bitLen 1 = 1 := by decide +kernel
 omega
theorem log_nat (m : Nat) (w : World) (h : 0 < m) (h2 : m ≤ 9223372036854775808) :
  Calls Tryz.prog 158 #[.int .u64 m] w fun e w' => e = .returned (.tuple #[.int .i64 (Nat.log2 m : Nat), .bool true]) ∧ w = w' := by
 refine (log_any m w (by omega) (by omega)).mono ?_
 rintro e w' ⟨rfl, hw⟩
 refine ⟨?_, hw⟩
 have hp : (2 : Nat) ^ 64 = 18446744073709551616 := by decide +kernel
 have e1 : ((m : Int) != 0) = true := by simp; omega
 rw [show ((m : Int)).toNat = m by omega, bitLen_log2 m h (by omega), e1]
 congr 4
 simp
end Go.Proofs.YtlbnlmhcpephbaaGreatDoor
namespace Go.Proofs.YtlbnlmhcpephbaaGreatDoor
open Go.RowKit
def gOf (d : Int) : Nat := if d = 1 then 4 else if d = 2 then 7 else if d = 3 then 10 else 14
theorem gOf_le (d : Int) : gOf d ≤ 14 := by unfold gOf; (repeat' split) <;> omega
theorem gOf_ge (d : Int) : 4 ≤ gOf d := by unfold gOf; (repeat' split) <;> omega
theorem pow14 {g : Nat} (h : g ≤ 14) : 2 ^ g ≤ 16384 := Nat.le_trans (Nat.pow_le_pow_right (by omega) h) (by decide)
theorem wrap_sum (z1 z2 : Nat) (b1 : z1 ≤ 59 * 16384) (b3 : z2 < 32768) : wrap64 (wrap64 (z1 : Int) + wrap64 (z2 : Int)) = ((z1 + z2 : Nat) : Int) := by unfold wrap64; omega
theorem wrap_rest (i z : Nat) (h : z ≤ i) (hi : i ≤ 64 * 16384) : IntKind.u64.wrap (wrap64 ((i : Int) - wrap64 (z : Int))) = ((i - z : Nat) : Int) := by simp only [IntKind.wrap_u64]; unfold wrap64; omega
structure SpanAt (w : World) (b : Nat) (d : Int) : Prop where
 at' : At w b #[.int .i64 d, .int .i64 (gOf d : Nat)] 210
 d1 : 1 ≤ d
 d4 : d ≤ 4
theorem SpanAt.below {w w' : World} {b : Nat} {d : Int} (h : SpanAt w b d) (hb : Below w.heap.size w w') : SpanAt w' b d := ⟨h.at'.below hb, h.d1, h.d4⟩
def logC (w : World) (b : Nat) : Nat := match w.cell? ⟨b, 1, none⟩ with
 | some (.int _ j) => j.toNat
 | _ => 0
set_option maxHeartbeats 1000000 in
theorem spnew_one (d : Int) (dn : Nat) (g : Nat) (ten : Int) (w : World) (hd : d = dn) (h1 : 1 ≤ dn) (h4 : dn ≤ 4) (hG : 0 < w.heap.size) (hc : w.cell? ⟨0, dn, none⟩ = some (.int .u64 ten)) (hg : ∀ j : Nat, j ≤ g → ((2 : Int) ^ j < ten ↔ j < g)) (hg14 : g ≤ 14) :
  Calls Tryz.prog 58 #[.int .i64 d] w fun e w' => (∃ b, e = .returned (.tuple #[.pointer (some ⟨b, 0, none⟩), .int .i64 0]) ∧ b = w.heap.size ∧ At w' b #[.int .i64 d, .int .i64 g] 210) ∧ Below w.heap.size w w' := by
 subst hd
 have HG := Lib.hid hg
 have n1 : ¬ (dn : Int) < 1 := by omega
 have n2 : ¬ (4 : Int) < dn := by omega
 have n2' : ¬ 4 < dn := by omega
 have hs : At (w.alloc (.cells #[.int .i64 dn, .int .i64 0] 210)) w.heap.size #[.int .i64 dn, .int .i64 0] 210 := At.new w _ _
 have hb0 : Below w.heap.size w (w.alloc (.cells #[.int .i64 dn, .int .i64 0] 210)) := (Below.refl _ _).alloc (Nat.le_refl _) _
 have HS : Hid (∃ j : Nat, j ≤ g ∧ At (w.alloc (.cells #[.int .i64 dn, .int .i64 0] 210)) w.heap.size #[.int .i64 dn, .int .i64 j] 210 ∧ Below w.heap.size w (w.alloc (.cells #[.int .i64 dn, .int .i64 0] 210))) := ⟨0, Nat.zero_le _, hs, hb0⟩
 have HCG : Hid (w.cell? ⟨0, dn, none⟩ = some (.int .u64 ten) ∧ 0 < w.heap.size) := ⟨hc, hG⟩
 clear hg hs hb0 hc hG
 go_enter Tryz.func58, Tryz.ntmps58
 go_wp2
 obtain ⟨b, hb⟩ : ∃ b, w.heap.size = b := ⟨_, rfl⟩
 have HBE := Lib.hid hb
 rw [hb] at HS
 simp only [hb]
 clear hb
 generalize w.alloc (.cells #[.int .i64 dn, .int .i64 0] 210) = W1 at HS ⊢
 clear n1 n2 n2'
 go_loopw [14] (fun _ wr => Hid (∃ j : Nat, j ≤ g ∧ At wr b #[.int .i64 dn, .int .i64 j] 210 ∧ Below b w wr)) (fun _ wr => 64 - logC wr b)
 case atStart => exact HS
 case round =>
  obtain ⟨j, hj, hs, hB⟩ := hrel.out
  have f1 := hs.two
  have l1 := hs.lt
  have c1 : wr.cell? ⟨0, dn, none⟩ = some (.int .u64 ten) := cellB (w := w) (by rw [HBE.out]; exact hB) HCG.out.2 HCG.out.1
  have hGl : 0 < wr.heap.size := by have := HCG.out.2; have := HBE.out; omega
  have HJ := Lib.hid (HG.out j hj)
  have k0 : (0 : Int) ≤ j := by omega
  have k1 : j < 64 := by omega
  have k2 : (j : Int) < 64 := by omega
  have k3 : (0 : Int) ≤ dn := by omega
  have k4 : (dn : Int) < 5 := by omega
  have hp := Lib.hid (show (2 : Int) ^ j ≤ 16384 ∧ (0 : Int) < 2 ^ j by
   have a1 : 2 ^ j ≤ 2 ^ 14 := Nat.pow_le_pow_right (by omega) (by omega)
   have a2 : 0 < 2 ^ j := Nat.pow_pos (by omega)
   have e : ((2 ^ j : Nat) : Int) = (2 : Int) ^ j := by rw [Int.natCast_pow]; rfl
   rw [← e]
   omega)
  have hw : IntKind.u64.wrap ((2 : Int) ^ j) = (2 : Int) ^ j := by have := hp.out; simp only [IntKind.wrap_u64]; omega
  have HLC : Hid (logC wr b = j) := by show _ = _; unfold logC; rw [f1.2.1]; simp
  by_cases hlt : j < g
  ·have hd : decide ((2 : Int) ^ j < ten) = true := decide_eq_true (HJ.out.2 hlt)
   have v1 : IntKind.i64.wrap ((j : Int) + 1) = ((j + 1 : Nat) : Int) := by simp only [IntKind.wrap_i64]; omega
   have HN : Hid (∀ n, ∃ i : Nat, i ≤ g ∧ At ((wr.drewN n).setCell ⟨b, 1, none⟩ (.int .i64 ((j + 1 : Nat) : Int))) b #[.int .i64 dn, .int .i64 i] 210 ∧ Below b w ((wr.drewN n).setCell ⟨b, 1, none⟩ (.int .i64 ((j + 1 : Nat) : Int)))) := fun n => ⟨j + 1, hlt, (hs.drewN n).set_any 1 _ rfl, (hB.drewN n).setCell (p := ⟨b, 1, none⟩) (Nat.le_refl _) _⟩
   have HL2 : Hid (∀ n, logC ((wr.drewN n).setCell ⟨b, 1, none⟩ (.int .i64 ((j : Int) + 1))) b = j + 1) := fun n => by
    have e : (((wr.drewN n).setCell ⟨b, 1, none⟩ (.int .i64 ((j : Int) + 1))).cell? ⟨b, 1, none⟩) = some (.int .i64 ((j : Int) + 1)) := ((hs.drewN n).set_any 1 (.int .i64 ((j : Int) + 1)) rfl).two.2.1
    unfold logC
    rw [e]
    show ((j : Int) + 1).toNat = j + 1
    omega
   clear hs hrel HS
   go_wp2
   go_quiet (fail)
   go_wp2
   go_roundw
   case rel => exact HN.out _
   case measure =>
    have e2 : logC ((wr.drewN nq).setCell ⟨b, 1, none⟩ (.int .i64 ((j : Int) + 1))) b = j + 1 := HL2.out _
    rw [e2, HLC.out]
    omega
  ·obtain rfl : j = g := by omega
   have hd : decide ((2 : Int) ^ j < ten) = false := decide_eq_false fun h => hlt (HJ.out.1 h)
   have HN : Hid (∀ n, At (wr.drewN n) b #[.int .i64 dn, .int .i64 j] 210 ∧ Below b w (wr.drewN n)) := fun n => ⟨hs.drewN n, hB.drewN n⟩
   clear hs hrel HS
   go_wp2
   go_quiet (fail)
   go_wp2
   go_ret2
   exact ⟨⟨b, rfl, HBE.out.symm, (HN.out _).1⟩, by rw [HBE.out]; exact (HN.out _).2⟩
theorem spnew_any (d : Int) (w : World) (hT : TensAt w) (h1 : 1 ≤ d) (h4 : d ≤ 4) :
  Calls Tryz.prog 58 #[.int .i64 d] w fun e w' => (∃ b, e = .returned (.tuple #[.pointer (some ⟨b, 0, none⟩), .int .i64 0]) ∧ b = w.heap.size ∧ SpanAt w' b d) ∧ Below w.heap.size w w' := by
 have key : ∀ (dn g : Nat) (ten : Int), d = dn → 1 ≤ dn → dn ≤ 4 → gOf d = g → w.cell? ⟨0, dn, none⟩ = some (.int .u64 ten) → (∀ j : Nat, j ≤ g → ((2 : Int) ^ j < ten ↔ j < g)) → g ≤ 14 → Calls Tryz.prog 58 #[.int .i64 d] w fun e w' => (∃ b, e = .returned (.tuple #[.pointer (some ⟨b, 0, none⟩), .int .i64 0]) ∧ b = w.heap.size ∧ SpanAt w' b d) ∧ Below w.heap.size w w' := by
  intro dn g ten hd h1' h4' hg hc hj h14
  refine (spnew_one d dn g ten w hd h1' h4' hT.lt hc hj h14).mono ?_
  rintro e w' ⟨⟨b, rfl, hb, hs⟩, hB⟩
  exact ⟨⟨b, rfl, hb, by rw [hg]; exact hs, h1, h4⟩, hB⟩
 have hpow : ∀ (g : Nat) (ten : Int), (g = 0 ∨ (2 : Int) ^ (g - 1) < ten) → ten ≤ (2 : Int) ^ g → ∀ j : Nat, j ≤ g → ((2 : Int) ^ j < ten ↔ j < g) := by
  intro g ten ha hb j hj
  constructor
  ·intro h
   rcases Nat.lt_or_ge j g with h2 | h2
   ·exact h2
   ·obtain rfl : j = g := by omega
    omega
  ·intro h
   rcases ha with ha | ha
   ·omega
   ·have : (2 : Int) ^ j ≤ 2 ^ (g - 1) := by
     have a1 : 2 ^ j ≤ 2 ^ (g - 1) := Nat.pow_le_pow_right (by omega) (by omega)
     have e : ∀ n : Nat, ((2 ^ n : Nat) : Int) = (2 : Int) ^ n := fun n => by rw [Int.natCast_pow]; rfl
     rw [← e, ← e]
     omega
    omega
 rcases (by omega : d = 1 ∨ d = 2 ∨ d = 3 ∨ d = 4) with rfl | rfl | rfl | rfl
 ·exact key 1 4 10 rfl (by omega) (by omega) rfl hT.c1 (hpow _ _ (.inr (by decide)) (by decide)) (by omega)
 ·exact key 2 7 100 rfl (by omega) (by omega) rfl hT.c2 (hpow _ _ (.inr (by decide)) (by decide)) (by omega)
 ·exact key 3 10 1000 rfl (by omega) (by omega) rfl hT.c3 (hpow _ _ (.inr (by decide)) (by decide)) (by omega)
 ·exact key 4 14 10000 rfl (by omega) (by omega) rfl hT.c4 (hpow _ _ (.inr (by decide)) (by decide)) (by omega)
theorem spnew_bad (d : Int) (w : World) (h : d < 1 ∨ 4 < d) :
  Calls Tryz.prog 58 #[.int .i64 d] w fun e w' => e = .returned (.tuple #[.pointer none, .int .i64 1]) ∧ w = w' := by
 by_cases h1 : d < 1
 ·clear h
  go_enter Tryz.func58, Tryz.ntmps58
  go_wp2
  go_ret2
  exact ⟨rfl, rfl⟩
 ·have h2 : 4 < d := by omega
  clear h
  go_enter Tryz.func58, Tryz.ntmps58
  go_wp2
  go_ret2
  exact ⟨rfl, rfl⟩
theorem spshift_any (b m : Nat) (d : Int) (w : World) (h : SpanAt w b d) (hm : 0 < m) (hm' : m ≤ 9223372036854775808) :
  Calls Tryz.prog 153 #[.pointer (some ⟨b, 0, none⟩), .int .u64 m] w fun e w' => e = .returned (.int .i64 (kN (gOf d) m : Nat)) ∧ w = w' := by
 have HL := Lib.hid (log_nat m w hm hm')
 have f1 := h.at'.two
 have l1 := h.at'.lt
 have hl := log2_le63 hm hm'
 have hg := gOf_le d
 have HK : Hid ((kN (gOf d) m : Int) = max ((Nat.log2 m : Int) - gOf d) 0) := by show _ = _; unfold kN; omega
 obtain ⟨lg, hlg⟩ : ∃ l, Nat.log2 m = l := ⟨_, rfl⟩
 obtain ⟨g, hgg⟩ : ∃ g, gOf d = g := ⟨_, rfl⟩
 rw [hlg] at HL HK hl
 rw [hgg] at f1 HK hg ⊢
 have v1 : IntKind.i64.wrap ((lg : Int) - g) = (lg : Int) - g := by simp only [IntKind.wrap_i64]; omega
 rw [HK.out]
 clear h hm hm' hlg hgg hl hg
 go_enter Tryz.func153, Tryz.ntmps153
 go_wp2_with fail
 refine HL.out.mono ?_
 rintro e w1 ⟨rfl, rfl⟩
 go_wp2
 go_ret
 exact ⟨by first | rfl | simp, rfl⟩
set_option maxHeartbeats 1000000 in
theorem spindex_any (b m : Nat) (d : Int) (w : World) (h : SpanAt w b d) (hm : 0 < m) (hm' : m ≤ 9223372036854775808) :
  Calls Tryz.prog 143 #[.pointer (some ⟨b, 0, none⟩), .int .u64 m] w fun e w' => e = .returned (.tuple #[.int .i64 (idxN (gOf d) m : Nat), .bool true]) ∧ Below w.heap.size w w' := by
 have HS := Lib.hid (spshift_any b m d w h hm hm')
 have f1 := h.at'.two
 have l1 := h.at'.lt
 have hg := gOf_le d
 have HI : Hid (idxN (gOf d) m = kN (gOf d) m * 2 ^ gOf d + m / 2 ^ kN (gOf d) m) := rfl
 have hk : kN (gOf d) m ≤ 59 := by have := log2_le63 hm hm'; have := gOf_ge d; unfold kN; omega
 obtain ⟨g, hgg⟩ : ∃ g, gOf d = g := ⟨_, rfl⟩
 rw [hgg] at f1 HI HS hg hk ⊢
 obtain ⟨k, hkk⟩ : ∃ k, kN g m = k := ⟨_, rfl⟩
 rw [hkk] at HI HS hk
 have n0 : ((m : Int) == 0) = false := beq_eq_false_iff_ne.2 (by omega)
 have n1 : decide ((9223372036854775808 : Int) < m) = false := decide_eq_false (by omega)
 have k0 : (0 : Int) ≤ k := by omega
 have k1 : (k : Int) < 64 := by omega
 have k2 : (0 : Int) ≤ g := by omega
 have k3 : (g : Int) < 64 := by omega
 have HF : Hid (wrap64 (wrap64 ((k : Int) * 2 ^ g) + wrap64 ((m : Int) / 2 ^ k)) = ((k * 2 ^ g + m / 2 ^ k : Nat) : Int)) := by
  have e1 : (k : Int) * 2 ^ g = ((k * 2 ^ g : Nat) : Int) := by rw [Int.natCast_mul, Int.natCast_pow]; rfl
  have e2 : (m : Int) / 2 ^ k = ((m / 2 ^ k : Nat) : Int) := by rw [Int.natCast_ediv, Int.natCast_pow]; rfl
  have b1 : k * 2 ^ g ≤ 59 * 16384 := Nat.mul_le_mul hk (pow14 hg)
  have b2 : m / 2 ^ k ≤ 9223372036854775808 := Nat.le_trans (Nat.div_le_self _ _) hm'
  have b3 : m / 2 ^ k < 32768 := by
   have := qN_lt (g := g) hm
   unfold qN at this
   rw [hkk, two_pow_succ] at this
   have := pow14 hg
   omega
  show _ = _
  rw [e1, e2]
  exact wrap_sum _ _ b1 b3
 rw [HI.out]
 clear h hkk hgg hm hm' hk hg
 go_enter Tryz.func143, Tryz.ntmps143
 go_wp2_with fail
 refine HS.out.mono ?_
 rintro e w1 ⟨rfl, rfl⟩
 go_wp2
 go_quiet (fail)
 go_wp2
 go_ret2
 exact ⟨by rw [HF.out]; rfl, (Below.refl _ _).drewN _⟩
def loI (g i : Nat) : Nat := qI g i * 2 ^ kI g i
def hiI (g i : Nat) : Nat := min (loI g i + (2 ^ kI g i - 1)) 9223372036854775808
def repI (g i : Nat) : Nat := loI g i + (hiI g i - loI g i) / 2
theorem loI_idx {g m : Nat} (hm : 0 < m) : loI g (idxN g m) = loN g m := by
 have h1 : kI g (idxN g m) = kN g m := idx_div hm
 unfold loI qI
 rw [h1, idx_rest]
 rfl
theorem hiI_idx {g m : Nat} (hm : 0 < m) : hiI g (idxN g m) = hiN g m := by
 have h1 : kI g (idxN g m) = kN g m := idx_div hm
 unfold hiI hiN
 rw [loI_idx hm, h1]
theorem kI_le {g i : Nat} (hg : g ≤ 63) (hi : i ≤ (64 - g) * 2 ^ g) : kI g i ≤ 63 - g := by
 have hd : i / 2 ^ g ≤ 64 - g := Nat.div_le_of_le_mul (by rw [Nat.mul_comm]; exact hi)
 unfold kI
 omega
theorem lastI {g : Nat} (hg : g ≤ 14) : (64 - g) * 2 ^ g ≤ 64 * 16384 := Nat.mul_le_mul (by omega) (pow14 hg)
set_option maxHeartbeats 1000000 in
theorem spparts_any (b i : Nat) (d : Int) (w : World) (h : SpanAt w b d) (hi : 0 < i) (hi' : i ≤ (64 - gOf d) * 2 ^ gOf d) :
  Calls Tryz.prog 136 #[.pointer (some ⟨b, 0, none⟩), .int .i64 i] w fun e w' => e = .returned (.tuple #[.int .i64 (kI (gOf d) i : Nat), .int .u64 (qI (gOf d) i : Nat), .bool true]) ∧ Below w.heap.size w w' := by
 have HX := Lib.hid (spindex_any b 9223372036854775808 d w h (by omega) (Nat.le_refl _))
 have s1 := h.at'
 have hg := gOf_le d
 have hg4 := gOf_ge d
 have hlast := lastI hg
 rw [idx_top (by omega)] at HX
 obtain ⟨g, hgg⟩ : ∃ g, gOf d = g := ⟨_, rfl⟩
 rw [hgg] at s1 HX hg hg4 hi' hlast ⊢
 have hki := kI_le (by omega) hi'
 have hkm := kI_mul g i
 have HKI : Hid (kI g i = i / 2 ^ g - 1 ∧ qI g i = i - kI g i * 2 ^ g) := ⟨rfl, rfl⟩
 have HK2 : Hid (max (wrap64 (((i : Int) / 2 ^ g) - 1)) 0 = (kI g i : Int)) := by
  have e2 : (i : Int) / 2 ^ g = ((i / 2 ^ g : Nat) : Int) := by rw [Int.natCast_ediv, Int.natCast_pow]; rfl
  have b2 : i / 2 ^ g ≤ i := Nat.div_le_self _ _
  have e3 := HKI.out.1
  obtain ⟨z, hz⟩ : ∃ z, i / 2 ^ g = z := ⟨_, rfl⟩
  rw [hz] at e2 b2 e3
  show _ = _
  rw [e2]
  unfold wrap64
  omega
 obtain ⟨last, hla⟩ : ∃ l, (64 - g) * 2 ^ g = l := ⟨_, rfl⟩
 rw [hla] at HX hi' hlast
 obtain ⟨k, hkk⟩ : ∃ k, kI g i = k := ⟨_, rfl⟩
 rw [hkk] at HK2 hki hkm HKI ⊢
 have HF : Hid (IntKind.u64.wrap (wrap64 ((i : Int) - wrap64 ((k : Int) * 2 ^ g))) = (qI g i : Int)) := by
  have e1 : (k : Int) * 2 ^ g = ((k * 2 ^ g : Nat) : Int) := by rw [Int.natCast_mul, Int.natCast_pow]; rfl
  have e3 := HKI.out.2
  obtain ⟨z, hz⟩ : ∃ z, k * 2 ^ g = z := ⟨_, rfl⟩
  rw [hz] at e1 e3 hkm
  show _ = _
  rw [e1, e3]
  exact wrap_rest i z hkm (by omega)
 have n0 : decide ((i : Int) < 1) = false := decide_eq_false (by omega)
 have n1 : decide ((last : Int) < i) = false := decide_eq_false (by omega)
 have n1' : decide (last < i) = false := decide_eq_false (by omega)
 have k0 : (0 : Int) ≤ k := by omega
 have k1 : (k : Int) < 64 := by omega
 have k2 : (0 : Int) ≤ g := by omega
 have k3 : (g : Int) < 64 := by omega
 clear h hkk hgg hi hi' hki hkm hg hg4 hlast hla HKI
 go_enter Tryz.func136, Tryz.ntmps136
 go_wp2_with fail
 refine HX.out.mono ?_
 rintro e w1 ⟨rfl, hb⟩
 replace s1 := s1.below hb
 have f1 := s1.two
 have l1 := s1.lt
 clear HX
 go_wp2
 go_quiet (fail)
 go_wp2
 go_ret3
 exact ⟨by simp only [HK2.out, HF.out]; rfl, hb.drewN _⟩
set_option maxHeartbeats 1000000 in
theorem spparts_bad (b : Nat) (i d : Int) (w : World) (h : SpanAt w b d) (hi : i < 1 ∨ ((64 - gOf d) * 2 ^ gOf d : Nat) < i) :
  Calls Tryz.prog 136 #[.pointer (some ⟨b, 0, none⟩), .int .i64 i] w fun e w' => e = .returned (.tuple #[.int .i64 0, .int .u64 0, .bool false]) ∧ Below w.heap.size w w' := by
 have HX := Lib.hid (spindex_any b 9223372036854775808 d w h (by omega) (Nat.le_refl _))
 rw [idx_top (by have := gOf_le d; omega)] at HX
 obtain ⟨last, hla⟩ : ∃ l, (64 - gOf d) * 2 ^ gOf d = l := ⟨_, rfl⟩
 rw [hla] at HX hi
 clear hla h
 rcases hi with hi | hi
 ·have n0 : decide (i < 1) = true := decide_eq_true hi
  clear hi
  go_enter Tryz.func136, Tryz.ntmps136
  go_wp2_with fail
  refine HX.out.mono ?_
  rintro e w1 ⟨rfl, hb⟩
  clear HX
  go_wp2
  go_ret3
  exact ⟨rfl, hb⟩
 ·have n0 : decide (i < 1) = false := decide_eq_false (by omega)
  have n1 : decide ((last : Int) < i) = true := decide_eq_true hi
  clear hi
  go_enter Tryz.func136, Tryz.ntmps136
  go_wp2_with fail
  refine HX.out.mono ?_
  rintro e w1 ⟨rfl, hb⟩
  clear HX
  go_wp2
  go_ret3
  exact ⟨rfl, hb⟩
theorem wrap_low (z : Nat) (h : z ≤ 9223372036854775808) : IntKind.u64.wrap (z : Int) = (z : Int) := by simp only [IntKind.wrap_u64]; omega
theorem wrap_high (z p : Nat) (h : z ≤ 9223372036854775808) (h0 : 0 < p) (hp : p ≤ 9223372036854775808) : IntKind.u64.wrap ((z : Int) + IntKind.u64.wrap (IntKind.u64.wrap (p : Int) - 1)) = ((z + (p - 1) : Nat) : Int) := by simp only [IntKind.wrap_u64]; omega
set_option maxHeartbeats 1000000 in
theorem sprange_any (b i : Nat) (d : Int) (w : World) (h : SpanAt w b d) (hi : 0 < i) (hi' : i ≤ (64 - gOf d) * 2 ^ gOf d) :
  Calls Tryz.prog 125 #[.pointer (some ⟨b, 0, none⟩), .int .i64 i] w fun e w' => e = .returned (.tuple #[.int .u64 (loI (gOf d) i : Nat), .int .u64 (hiI (gOf d) i : Nat)]) ∧ Below w.heap.size w w' := by
 have HX := Lib.hid (spparts_any b i d w h hi hi')
 have hg := gOf_le d
 have hg4 := gOf_ge d
 obtain ⟨g, hgg⟩ : ∃ g, gOf d = g := ⟨_, rfl⟩
 rw [hgg] at HX hg hg4 hi' ⊢
 have hki := kI_le (by omega) hi'
 have hlo := (idx_of (by omega : g ≤ 63) hi hi').2.1
 have HLO : Hid (loI g i = qI g i * 2 ^ kI g i ∧ hiI g i = min (loI g i + (2 ^ kI g i - 1)) 9223372036854775808) := ⟨rfl, rfl⟩
 obtain ⟨k, hkk⟩ : ∃ k, kI g i = k := ⟨_, rfl⟩
 obtain ⟨q, hqq⟩ : ∃ k, qI g i = k := ⟨_, rfl⟩
 rw [hkk, hqq] at HX HLO hlo
 rw [hkk] at hki
 have h2k : 2 ^ k ≤ 2 ^ 59 := Nat.pow_le_pow_right (by omega) (by omega)
 have h2p : 0 < 2 ^ k := Nat.pow_pos (by omega)
 have HV1 : Hid (IntKind.u64.wrap ((q : Int) * 2 ^ k) = ((loI g i : Nat) : Int)) := by
  have e1 : (q : Int) * 2 ^ k = ((q * 2 ^ k : Nat) : Int) := by rw [Int.natCast_mul, Int.natCast_pow]; rfl
  show _ = _
  rw [e1, HLO.out.1]
  exact wrap_low _ hlo
 have HV2 : Hid (min (IntKind.u64.wrap (((loI g i : Nat) : Int) + IntKind.u64.wrap (IntKind.u64.wrap ((2 : Int) ^ k) - 1))) 9223372036854775808 = ((hiI g i : Nat) : Int)) := by
  have e1 : (2 : Int) ^ k = ((2 ^ k : Nat) : Int) := by rw [Int.natCast_pow]; rfl
  show _ = _
  rw [e1, wrap_high _ _ (by rw [HLO.out.1]; exact hlo) h2p (Nat.le_trans h2k (by decide)), HLO.out.2]
  omega
 have k0 : (0 : Int) ≤ k := by omega
 have k1 : (k : Int) < 64 := by omega
 clear h hkk hgg hi hi' hki hg hg4 hlo hqq h2k h2p
 go_enter Tryz.func125, Tryz.ntmps125
 go_wp2_with fail
 refine HX.out.mono ?_
 rintro e w1 ⟨rfl, hb⟩
 clear HX
 go_wp2
 go_quiet (fail)
 go_wp2
 go_ret2
 exact ⟨by simp only [HV1.out, HV2.out]; rfl, hb.drewN _⟩
theorem sprange_bad (b : Nat) (i d : Int) (w : World) (h : SpanAt w b d) (hi : i < 1 ∨ ((64 - gOf d) * 2 ^ gOf d : Nat) < i) :
  Calls Tryz.prog 125 #[.pointer (some ⟨b, 0, none⟩), .int .i64 i] w fun e w' => e = .returned (.tuple #[.int .u64 0, .int .u64 0]) ∧ Below w.heap.size w w' := by
 have HX := Lib.hid (spparts_bad b i d w h hi)
 clear h hi
 go_enter Tryz.func125, Tryz.ntmps125
 go_wp2_with fail
 refine HX.out.mono ?_
 rintro e w1 ⟨rfl, hb⟩
 clear HX
 go_wp2
 go_ret2
 exact ⟨rfl, hb⟩
theorem hiI_le {g i : Nat} (hg : g ≤ 63) (hi : 0 < i) (hi' : i ≤ (64 - g) * 2 ^ g) : loI g i ≤ hiI g i ∧ hiI g i ≤ 9223372036854775808 := by
 have h1 := (idx_of hg hi hi').2.1
 have h2 : loI g i = qI g i * 2 ^ kI g i := rfl
 rw [← h2] at h1
 unfold hiI
 omega
theorem wrap_mid (lo hi : Nat) (h : lo ≤ hi) (h2 : hi ≤ 9223372036854775808) : IntKind.u64.wrap ((lo : Int) + IntKind.u64.wrap (((hi : Int) - lo).tdiv 2)) = ((lo + (hi - lo) / 2 : Nat) : Int) := by
 rw [Int.tdiv_eq_ediv_of_nonneg (by omega)]; simp only [IntKind.wrap_u64]; omega
theorem sprep_any (b i : Nat) (d : Int) (w : World) (h : SpanAt w b d) (hi : 0 < i) (hi' : i ≤ (64 - gOf d) * 2 ^ gOf d) :
  Calls Tryz.prog 104 #[.pointer (some ⟨b, 0, none⟩), .int .i64 i] w fun e w' => e = .returned (.int .u64 (repI (gOf d) i : Nat)) ∧ Below w.heap.size w w' := by
 have HX := Lib.hid (sprange_any b i d w h hi hi')
 have hg := gOf_le d
 have hb := hiI_le (g := gOf d) (by omega) hi hi'
 have HR : Hid (repI (gOf d) i = loI (gOf d) i + (hiI (gOf d) i - loI (gOf d) i) / 2) := rfl
 obtain ⟨lo, hlo⟩ : ∃ l, loI (gOf d) i = l := ⟨_, rfl⟩
 obtain ⟨hi2, hhi⟩ : ∃ l, hiI (gOf d) i = l := ⟨_, rfl⟩
 rw [hlo, hhi] at HX hb HR
 rw [HR.out]
 have v1 : IntKind.u64.wrap ((hi2 : Int) - lo) = (hi2 : Int) - lo := by simp only [IntKind.wrap_u64]; omega
 have HM := Lib.hid (wrap_mid lo hi2 hb.1 hb.2)
 clear h hi hi' hg hb hlo hhi
 go_enter Tryz.func104, Tryz.ntmps104
 go_wp2_with fail
 refine HX.out.mono ?_
 rintro e w1 ⟨rfl, hb⟩
 clear HX
 go_wp2
 go_ret
 exact ⟨by rw [HM.out]; rfl, hb⟩
theorem sprep_bad (b : Nat) (i d : Int) (w : World) (h : SpanAt w b d) (hi : i < 1 ∨ ((64 - gOf d) * 2 ^ gOf d : Nat) < i) :
  Calls Tryz.prog 104 #[.pointer (some ⟨b, 0, none⟩), .int .i64 i] w fun e w' => e = .returned (.int .u64 0) ∧ Below w.heap.size w w' := by
 have HX := Lib.hid (sprange_bad b i d w h hi)
 clear h hi
 go_enter Tryz.func104, Tryz.ntmps104
 go_wp2_with fail
 refine HX.out.mono ?_
 rintro e w1 ⟨rfl, hb⟩
 clear HX
 go_wp2
 go_ret
 exact ⟨by first | rfl | simp, hb⟩
theorem spindex_zero (b : Nat) (w : World) :
  Calls Tryz.prog 143 #[.pointer (some ⟨b, 0, none⟩), .int .u64 0] w fun e w' => e = .returned (.tuple #[.int .i64 0, .bool false]) ∧ Below w.heap.size w w' := by
 go_enter Tryz.func143, Tryz.ntmps143
 go_wp2
 go_ret2
 exact ⟨rfl, Below.refl _ _⟩
end Go.Proofs.YtlbnlmhcpephbaaGreatDoor

namespace Go.Proofs.YtlbnlmhcpephbaaGreatDoor
open Go.RowKit
def laidL : List (String × DataW Unit) := [("ogive/spans.tens", Rows.laid_ogive_spans_tens)]
theorem gTens : Tryz.prog.globalNamed "ogive/spans.tens" = some 0 := by kernel_rfl
theorem tTens : (Tryz.prog.globals[0]?).map (·.type) = some 211 := by kernel_rfl
theorem cellsTens : Tryz.prog.cellsOf 211 = 5 := by kernel_rfl
theorem cellsU64 : Tryz.prog.cellsOf 23 = 1 := by kernel_rfl
theorem tens_of_laid {W : World} (h : laidMetH Tryz.prog laidL W) : TensAt W := by
 rw [MakeChecks.laidMetH_plain _ _ _ (by kernel_rfl)] at h
 have hT : Lib.TabIs Tryz.prog W "ogive/spans.tens" .u64 [1, 10, 100, 1000, 10000] := Lib.tabIs_of_head (rest := []) gTens tTens Tryz.underlying211 Tryz.underlying23 cellsU64 cellsTens h
 have c : ∀ (i : Nat) (z : Int), i < 5 → ([1, 10, 100, 1000, 10000] : List Int).getD i 0 = z → W.cell? ⟨0, i, none⟩ = some (.int .u64 z) := fun i z hi hz => by
  rw [← hz]; exact hT.cell gTens i hi
 have c0 := c 0 1 (by omega) rfl
 refine ⟨?_, c0, c 1 10 (by omega) rfl, c 2 100 (by omega) rfl, c 3 1000 (by omega) rfl, c 4 10000 (by omega) rfl⟩
 rcases Nat.lt_or_ge 0 W.heap.size with h | h
 ·exact h
 ·exfalso
  unfold World.cell? at c0
  simp [Array.getElem?_eq_none h] at c0
theorem door_met (os : Os) (args : Array Value) : laidMetH Tryz.prog laidL ((World.doorLaid Tryz.prog 400 os).forCall (fun _ _ => 0) ⟨#[], args, []⟩).memory :=
 laidMetH_of_parts3 (fuel := 8) (laidMet_of_run' 8 (by kernel_rfl) (by kernel_rfl)) (by kernel_rfl) (by kernel_rfl)
end Go.Proofs.YtlbnlmhcpephbaaGreatDoor

namespace Go.Proofs.YtlbnlmhcpephbaaGreatDoor
open Go.RowKit
structure Cfg where
 kd : Int
 pn : Int
 pd : Int
 sd : Int
 mo : Int
 dg : Int
 li : Int
 de : Int
 fa : Int
 wi : Int
 wo : Int
def Cfg.row (c : Cfg) : Array Value := #[.int .i64 c.kd, .int .u64 c.pn, .int .u64 c.pd, .int .i64 c.sd, .int .i64 c.mo, .int .i64 c.dg, .int .u64 c.li, .int .i64 c.de, .int .i64 c.fa, .int .i64 c.wi, .int .u64 c.wo]
def Cfg.val (c : Cfg) : Value := .agg c.row
structure Cfg.Ok (c : Cfg) : Prop where
 pn : 0 ≤ c.pn ∧ c.pn < 18446744073709551616
 pd : 0 ≤ c.pd ∧ c.pd < 18446744073709551616
 sd : -9223372036854775808 ≤ c.sd ∧ c.sd ≤ 9223372036854775807
 mo : -9223372036854775808 ≤ c.mo ∧ c.mo ≤ 9223372036854775807
 dg : -9223372036854775808 ≤ c.dg ∧ c.dg ≤ 9223372036854775807
 li : 0 ≤ c.li ∧ c.li < 18446744073709551616
theorem At.el {w : World} {b : Nat} {T : TypeId} {v0 v1 v2 v3 v4 v5 v6 v7 v8 v9 v10 : Value} (h : At w b #[v0, v1, v2, v3, v4, v5, v6, v7, v8, v9, v10] T) :
  (w.cell? ⟨b, 0, none⟩ = some v0 ∧ w.cell? ⟨b, 1, none⟩ = some v1 ∧ w.cell? ⟨b, 2, none⟩ = some v2 ∧ w.cell? ⟨b, 3, none⟩ = some v3 ∧ w.cell? ⟨b, 4, none⟩ = some v4 ∧ w.cell? ⟨b, 5, none⟩ = some v5 ∧ w.cell? ⟨b, 6, none⟩ = some v6 ∧ w.cell? ⟨b, 7, none⟩ = some v7 ∧ w.cell? ⟨b, 8, none⟩ = some v8 ∧ w.cell? ⟨b, 9, none⟩ = some v9 ∧ w.cell? ⟨b, 10, none⟩ = some v10) ∧
  w.frozen? ⟨b, 0, none⟩ = false ∧ w.frozen? ⟨b, 1, none⟩ = false ∧ w.frozen? ⟨b, 2, none⟩ = false ∧ w.frozen? ⟨b, 3, none⟩ = false ∧ w.frozen? ⟨b, 4, none⟩ = false ∧ w.frozen? ⟨b, 5, none⟩ = false ∧ w.frozen? ⟨b, 6, none⟩ = false ∧ w.frozen? ⟨b, 7, none⟩ = false ∧ w.frozen? ⟨b, 8, none⟩ = false ∧ w.frozen? ⟨b, 9, none⟩ = false ∧ w.frozen? ⟨b, 10, none⟩ = false :=
 ⟨⟨h.cell rfl, h.cell rfl, h.cell rfl, h.cell rfl, h.cell rfl, h.cell rfl, h.cell rfl, h.cell rfl, h.cell rfl, h.cell rfl, h.cell rfl⟩, h.frozen 0, h.frozen 1, h.frozen 2, h.frozen 3, h.frozen 4, h.frozen 5, h.frozen 6, h.frozen 7, h.frozen 8, h.frozen 9, h.frozen 10⟩
theorem At.set11 {w : World} {b : Nat} {T : TypeId} {u0 u1 u2 u3 u4 u5 u6 u7 u8 u9 u10 : Value} (h : At w b #[u0, u1, u2, u3, u4, u5, u6, u7, u8, u9, u10] T) (v0 v1 v2 v3 v4 v5 v6 v7 v8 v9 v10 : Value) :
  At (((((((((((w.setCell ⟨b, 0, none⟩ v0).setCell ⟨b, 1, none⟩ v1).setCell ⟨b, 2, none⟩ v2).setCell ⟨b, 3, none⟩ v3).setCell ⟨b, 4, none⟩ v4).setCell ⟨b, 5, none⟩ v5).setCell ⟨b, 6, none⟩ v6).setCell ⟨b, 7, none⟩ v7).setCell ⟨b, 8, none⟩ v8).setCell ⟨b, 9, none⟩ v9).setCell ⟨b, 10, none⟩ v10) b #[v0, v1, v2, v3, v4, v5, v6, v7, v8, v9, v10] T := by
 have k0 : At (w.setCell ⟨b, 0, none⟩ v0) b #[v0, u1, u2, u3, u4, u5, u6, u7, u8, u9, u10] T := At.set_any h 0 v0 rfl
 have k1 : At ((w.setCell ⟨b, 0, none⟩ v0).setCell ⟨b, 1, none⟩ v1) b #[v0, v1, u2, u3, u4, u5, u6, u7, u8, u9, u10] T := At.set_any k0 1 v1 rfl
 have k2 : At (((w.setCell ⟨b, 0, none⟩ v0).setCell ⟨b, 1, none⟩ v1).setCell ⟨b, 2, none⟩ v2) b #[v0, v1, v2, u3, u4, u5, u6, u7, u8, u9, u10] T := At.set_any k1 2 v2 rfl
 have k3 : At ((((w.setCell ⟨b, 0, none⟩ v0).setCell ⟨b, 1, none⟩ v1).setCell ⟨b, 2, none⟩ v2).setCell ⟨b, 3, none⟩ v3) b #[v0, v1, v2, v3, u4, u5, u6, u7, u8, u9, u10] T := At.set_any k2 3 v3 rfl
 have k4 : At (((((w.setCell ⟨b, 0, none⟩ v0).setCell ⟨b, 1, none⟩ v1).setCell ⟨b, 2, none⟩ v2).setCell ⟨b, 3, none⟩ v3).setCell ⟨b, 4, none⟩ v4) b #[v0, v1, v2, v3, v4, u5, u6, u7, u8, u9, u10] T := At.set_any k3 4 v4 rfl
 have k5 : At ((((((w.setCell ⟨b, 0, none⟩ v0).setCell ⟨b, 1, none⟩ v1).setCell ⟨b, 2, none⟩ v2).setCell ⟨b, 3, none⟩ v3).setCell ⟨b, 4, none⟩ v4).setCell ⟨b, 5, none⟩ v5) b #[v0, v1, v2, v3, v4, v5, u6, u7, u8, u9, u10] T := At.set_any k4 5 v5 rfl
 have k6 := At.set_any (cs := #[v0, v1, v2, v3, v4, v5, v6, u7, u8, u9, u10]) k5 6 v6 rfl
 have k7 := At.set_any (cs := #[v0, v1, v2, v3, v4, v5, v6, v7, u8, u9, u10]) k6 7 v7 rfl
 have k8 := At.set_any (cs := #[v0, v1, v2, v3, v4, v5, v6, v7, v8, u9, u10]) k7 8 v8 rfl
 have k9 := At.set_any (cs := #[v0, v1, v2, v3, v4, v5, v6, v7, v8, v9, u10]) k8 9 v9 rfl
 exact At.set_any k9 10 v10 rfl
end Go.Proofs.YtlbnlmhcpephbaaGreatDoor

namespace Go.Proofs.YtlbnlmhcpephbaaGreatDoor
open Go.RowKit
def RdP (w : World) (A : Option Addr) (ps : List (Int × Int)) : Prop := Rd w A (ps.flatMap fun x => [.int .i64 x.1, .int .u64 x.2])
theorem RdP.below {w w' : World} {A : Option Addr} {ps : List (Int × Int)} (h : RdP w A ps) (hb : Below w.heap.size w w') : RdP w' A ps := Rd.below h hb
theorem RdP.nil (w : World) (A : Option Addr) : RdP w A [] := Rd.nil w A
theorem RdP.at {w : World} {A : Option Addr} {ps : List (Int × Int)} (h : RdP w A ps) (j : Nat) (hj : j < ps.length) :
  ∃ g o, A = some ⟨g, o, none⟩ ∧ g < w.heap.size ∧ w.cell? ⟨g, o + j * 2, none⟩ = some (.int .i64 (ps[j]'hj).1) ∧ w.cell? ⟨g, o + j * 2 + 1, none⟩ = some (.int .u64 (ps[j]'hj).2) := by
 obtain ⟨q0, q1⟩ := flat2 (f := fun x : Int × Int => Value.int .i64 x.1) (g := fun x => Value.int .u64 x.2) ps j hj
 obtain ⟨g, o, rfl, hg, h0⟩ := h _ _ q0
 obtain ⟨g', o', e, _, h1⟩ := h _ _ q1
 simp only [Option.some.injEq, Addr.mk.injEq, and_true] at e
 obtain ⟨rfl, rfl⟩ := e
 exact ⟨g, o, rfl, hg, h0, by rw [← Nat.add_assoc] at h1; exact h1⟩
def okP (ps : List (Int × Int)) : Prop := ∀ x ∈ ps, (-9223372036854775808 ≤ x.1 ∧ x.1 ≤ 9223372036854775807) ∧ (0 ≤ x.2 ∧ x.2 < 18446744073709551616)
theorem okP.at {ps : List (Int × Int)} (h : okP ps) (j : Nat) (hj : j < ps.length) : (-9223372036854775808 ≤ (ps[j]'hj).1 ∧ (ps[j]'hj).1 ≤ 9223372036854775807) ∧ (0 ≤ (ps[j]'hj).2 ∧ (ps[j]'hj).2 < 18446744073709551616) := h _ (List.getElem_mem hj)
def sumP (ps : List (Int × Int)) : Int := (ps.map fun x => x.2).sum
theorem sumP_take (ps : List (Int × Int)) (k : Nat) (hk : k < ps.length) : sumP (ps.take (k + 1)) = sumP (ps.take k) + (ps[k]'hk).2 := by
 unfold sumP
 rw [List.take_succ_eq_append_getElem hk, List.map_append, List.sum_append]
 simp only [List.map_cons, List.map_nil, List.sum_cons, List.sum_nil, Int.add_zero]
theorem sumP_filter_take (ps : List (Int × Int)) (p : Int × Int → Bool) (k : Nat) (hk : k < ps.length) : sumP ((ps.take (k + 1)).filter p) = sumP ((ps.take k).filter p) + (if p (ps[k]'hk) then (ps[k]'hk).2 else 0) := by
 unfold sumP
 rw [List.take_succ_eq_append_getElem hk, List.filter_append, List.map_append, List.sum_append]
 by_cases h : p (ps[k]'hk) = true <;> simp only [List.filter_cons, h, List.filter_nil, if_true, Bool.false_eq_true, if_false, List.map_cons, List.map_nil, List.sum_cons, List.sum_nil, Int.add_zero]
def findP (t : Int) : Int → List (Int × Int) → Option Int
 | _, [] => none
 | s, p :: l => if 0 < t ∧ t ≤ (s + p.2) % 18446744073709551616 then some p.1 else findP t ((s + p.2) % 18446744073709551616) l
def optI (o : Option Int) : Value := .tuple #[.int .i64 (o.getD 0), .bool o.isSome]
end Go.Proofs.YtlbnlmhcpephbaaGreatDoor

namespace Go.Proofs.YtlbnlmhcpephbaaGreatDoor
open Go.RowKit
def flatP (ps : List (Int × Int)) : List Value := ps.flatMap fun x => [.int .i64 x.1, .int .u64 x.2]
theorem flatP_len (ps : List (Int × Int)) : (flatP ps).length = ps.length * 2 := flat2_len ps
theorem flatP_snoc (ps : List (Int × Int)) (p : Int × Int) : flatP (ps ++ [p]) = flatP ps ++ [.int .i64 p.1, .int .u64 p.2] := by simp [flatP]
def Own2 (base : Nat) (w : World) (A : Option Addr) (cap : Nat) (ps : List (Int × Int)) : Prop := w.ownsRow base 247 2 (.slice A ps.length cap) ps.length (flatP ps)
theorem Own2.nil (base : Nat) (w : World) : Own2 base w none 0 [] := World.ownsRow_nil w base _ 2
theorem Own2.below {base cap : Nat} {w w' : World} {A : Option Addr} {ps : List (Int × Int)} (h : Own2 base w A cap ps) (hb : Below w.heap.size w w') : Own2 base w' A cap ps := by
 obtain ⟨h1, h2⟩ := h
 refine ⟨h1, ?_⟩
 rcases h2 with h2 | ⟨g, c, cur, e, hg, hc, r⟩
 ·exact .inl h2
 ·exact .inr ⟨g, c, cur, e, hg, (hb.block g (Array.getElem?_eq_some_iff.1 hc).1).trans hc, r⟩
theorem Own2.rd {base cap : Nat} {w : World} {A : Option Addr} {ps : List (Int × Int)} (h : Own2 base w A cap ps) : RdP w A ps := by
 intro j u hj
 rcases h.2 with ⟨e, hn⟩ | ⟨g, c, cur, e, hg, hc, r⟩
 ·have : ps = [] := List.eq_nil_of_length_eq_zero hn
  subst this
  simp at hj
 ·injection e with e1 e2 e3
  subst e1
  have hl := (Array.getElem?_eq_some_iff.1 hc).1
  refine ⟨g, 0, rfl, hl, ?_⟩
  have := World.ownsRow.cells h (g := g) rfl j u hj
  rwa [Addr.add_lit] at this
theorem Own2.base_le {base cap : Nat} {w : World} {A : Option Addr} {ps : List (Int × Int)} (h : Own2 base w A cap ps) : ∀ g, A = some g → base ≤ g.block ∧ g.block < w.heap.size := by
 rintro g rfl
 exact World.ownsRow.lt h g.block rfl
theorem Tryz.underlyingRow : Tryz.prog.underlying 212 = some (.slice 247) := by kernel_rfl
theorem Tryz.infoPair : (Tryz.prog.info? 247).map (fun i => (i.zero, i.size, i.bytes)) = some (some (.agg #[.int .i64 0, .int .u64 0]), 2, 16) := by kernel_rfl
theorem wpList_append_pair {ops : Array Oper} {rest : List Oper} {o : Oper} {a : Act} {Q : Exit → Act → World → Prop} {w : World} (hgd : o.guard = none) (s x : Operand)
  (ho : o.op = .call { callee := .builtin .append, args := #[s, x], argTypes := #[212, 212] })
  (base : Nat) (A : Option Addr) (cap n : Nat) (ps : List (Int × Int)) (hs : a.eval s = .slice A n cap) (hn : ps.length = n) (hown : Own2 base w A cap ps)
  (ad : Addr) (c : Nat) (p : Int × Int) (hx : a.eval x = .slice (some ad) 1 c) (h0 : w.cell? (ad.add 0) = some (.int .i64 p.1)) (h1 : w.cell? (ad.add 1) = some (.int .u64 p.2))
  (hlen : n ≤ 1099511627776) (W0 : World) (hB : Below base W0 w) (hbase : base ≤ w.heap.size)
  (h : ∀ A' cap' w', Hid (Own2 base w' A' cap' (ps ++ [p])) → Below base W0 w' → wpList Tryz.prog ops Q rest (a.put o.dst (.slice A' (n + 1) cap')) w') :
  wpList Tryz.prog ops Q (o :: rest) a w := by
 subst hn
 obtain ⟨i, hi, hz, hsz, hby⟩ : ∃ i, Tryz.prog.info? 247 = some i ∧ i.zero = some (.agg #[.int .i64 0, .int .u64 0]) ∧ i.size = 2 ∧ i.bytes = 16 := by
  have := Tryz.infoPair
  cases hh : Tryz.prog.info? 247 with
  | none => rw [hh] at this; cases this
  | some i =>
   rw [hh] at this
   simp only [Option.map_some, Option.some.injEq, Prod.mk.injEq] at this
   exact ⟨i, rfl, this.1, this.2.1, this.2.2⟩
 refine wpList_append_own_at w hgd s x _ ho base _ i _ 2 16 Tryz.underlyingRow hi hz hsz hby rfl (by decide) _ ps.length (flatP ps) hs hown ad 1 c [.int .i64 p.1, .int .u64 p.2] hx rfl ?_ ?_ (by simp only [maxLen]; omega) (by omega) hbase ?_
 ·intro j u hj
  match j, hj with
  | 0, hj => simp only [List.getElem?_cons_zero, Option.some.injEq] at hj; subst hj; exact h0
  | 1, hj => simp only [List.getElem?_cons_succ, List.getElem?_cons_zero, Option.some.injEq] at hj; subst hj; exact h1
 ·intro u hu
  simp only [List.mem_cons, List.not_mem_nil, or_false] at hu
  rcases hu with rfl | rfl <;> rfl
 ·intro v' w' hown' hg _ _
  have hB' : Below base W0 w' := hB.grown hg hbase (fun k hk => (World.ownsRow.lt hown k hk).1)
  rw [← flatP_snoc] at hown'
  have hl : (ps ++ [p]).length = ps.length + 1 := by simp
  rcases hown'.2 with ⟨e, hn⟩ | ⟨g, cp, cur, rfl, r⟩
  ·omega
  ·exact h _ _ _ (by show Own2 _ _ _ _ _; unfold Own2; rw [hl]; exact hown') hB'
theorem new_two0 {w : World} {b : Nat} {u0 u1 : Value} {T : TypeId} (hb : b = w.heap.size) : (w.alloc (.cells #[u0, u1] T)).cell? ((⟨b, 0, none⟩ : Addr).add 0) = some u0 := by
 rw [Addr.add_lit]; exact (At.new' w #[u0, u1] T hb).cell (i := 0) rfl
theorem new_two1 {w : World} {b : Nat} {u0 u1 : Value} {T : TypeId} (hb : b = w.heap.size) : (w.alloc (.cells #[u0, u1] T)).cell? ((⟨b, 0, none⟩ : Addr).add 1) = some u1 := by
 rw [Addr.add_lit]; exact (At.new' w #[u0, u1] T hb).cell (i := 1) rfl
def rowAdd (ps : List (Int × Int)) (q c : Int) : List (Int × Int) :=
 ps.filter (fun x => decide (x.1 < q)) ++ (if 0 < (sumP (ps.filter fun x => decide (x.1 = q)) + c) % 18446744073709551616 then [(q, (sumP (ps.filter fun x => decide (x.1 = q)) + c) % 18446744073709551616)] else []) ++ ps.filter (fun x => decide (q < x.1))
end Go.Proofs.YtlbnlmhcpephbaaGreatDoor

namespace Go.Proofs.YtlbnlmhcpephbaaGreatDoor
def cnt (ps : List (Int × Int)) (i : Int) : Int := sumP (ps.filter fun x => decide (x.1 = i))
structure Gd (ps : List (Int × Int)) : Prop where
 srt : ps.Pairwise fun x y => x.1 < y.1
 pos : ∀ x ∈ ps, 0 < x.2
theorem sumP_nil : sumP [] = 0 := rfl
theorem sumP_cons (x : Int × Int) (ps : List (Int × Int)) : sumP (x :: ps) = x.2 + sumP ps := by simp [sumP]
theorem sumP_append (ps qs : List (Int × Int)) : sumP (ps ++ qs) = sumP ps + sumP qs := by simp [sumP]
theorem cnt_nil (i : Int) : cnt [] i = 0 := rfl
theorem cnt_cons (x : Int × Int) (ps : List (Int × Int)) (i : Int) : cnt (x :: ps) i = (if x.1 = i then x.2 else 0) + cnt ps i := by
 unfold cnt
 by_cases h : x.1 = i
 ·simp [h, sumP_cons]
 ·simp [h]
theorem cnt_append (ps qs : List (Int × Int)) (i : Int) : cnt (ps ++ qs) i = cnt ps i + cnt qs i := by simp [cnt, sumP_append]
theorem cnt_nonneg {ps : List (Int × Int)} (h : ∀ x ∈ ps, 0 < x.2) (i : Int) : 0 ≤ cnt ps i := by
 induction ps with
 | nil => exact Int.le_refl _
 | cons x ps ih =>
  rw [cnt_cons]
  have := ih fun y hy => h y (by simp [hy])
  have := h x (by simp)
  split <;> omega
theorem cnt_le_sumP {ps : List (Int × Int)} (h : ∀ x ∈ ps, 0 < x.2) (i : Int) : cnt ps i ≤ sumP ps := by
 induction ps with
 | nil => exact Int.le_refl _
 | cons x ps ih =>
  rw [cnt_cons, sumP_cons]
  have := ih fun y hy => h y (by simp [hy])
  have := h x (by simp)
  split <;> omega
theorem sumP_nonneg {ps : List (Int × Int)} (h : ∀ x ∈ ps, 0 < x.2) : 0 ≤ sumP ps := Int.le_trans (cnt_nonneg h 0) (cnt_le_sumP h 0)
theorem cnt_zero {ps : List (Int × Int)} {i : Int} (h : ∀ x ∈ ps, x.1 ≠ i) : cnt ps i = 0 := by
 induction ps with
 | nil => rfl
 | cons x ps ih =>
  rw [cnt_cons, if_neg (h x (by simp)), ih fun y hy => h y (by simp [hy])]
  rfl
theorem cnt_pos_mem {ps : List (Int × Int)} {i : Int} (h : 0 < cnt ps i) : ∃ x ∈ ps, x.1 = i := by
 induction ps with
 | nil => rw [cnt_nil] at h; omega
 | cons x ps ih =>
  by_cases hx : x.1 = i
  ·exact ⟨x, by simp, hx⟩
  ·rw [cnt_cons, if_neg hx] at h
   obtain ⟨y, hy, e⟩ := ih (by omega)
   exact ⟨y, by simp [hy], e⟩
theorem cnt_mem_pos {ps : List (Int × Int)} (h : ∀ x ∈ ps, 0 < x.2) {x : Int × Int} (hx : x ∈ ps) : 0 < cnt ps x.1 := by
 induction ps with
 | nil => simp at hx
 | cons y ps ih =>
  rw [cnt_cons]
  have h' : ∀ x ∈ ps, 0 < x.2 := fun z hz => h z (by simp [hz])
  have := cnt_nonneg h' x.1
  rcases List.mem_cons.1 hx with rfl | hx
  ·rw [if_pos rfl]; have := h x (by simp); omega
  ·have := ih h' hx
   have := h y (by simp)
   split <;> omega
theorem cnt_filter (p : Int → Bool) (ps : List (Int × Int)) (i : Int) : cnt (ps.filter fun x => p x.1) i = if p i then cnt ps i else 0 := by
 induction ps with
 | nil => simp [cnt_nil]
 | cons x ps ih =>
  by_cases h : p x.1 = true
  ·rw [List.filter_cons_of_pos (by simpa using h), cnt_cons, cnt_cons, ih]
   by_cases hx : x.1 = i
   ·subst hx; simp [h]
   ·simp [hx]
  ·rw [List.filter_cons_of_neg (by simpa using h), cnt_cons, ih]
   by_cases hx : x.1 = i
   ·subst hx; simp [h]
   ·simp [hx]
theorem Gd.tail {x : Int × Int} {ps : List (Int × Int)} (h : Gd (x :: ps)) : Gd ps := ⟨h.srt.of_cons, fun y hy => h.pos y (by simp [hy])⟩
theorem Gd.head {x : Int × Int} {ps : List (Int × Int)} (h : Gd (x :: ps)) : ∀ y ∈ ps, x.1 < y.1 := (List.pairwise_cons.1 h.srt).1
theorem Gd.cnt_head {x : Int × Int} {ps : List (Int × Int)} (h : Gd (x :: ps)) : cnt (x :: ps) x.1 = x.2 := by
 rw [cnt_cons, if_pos rfl, cnt_zero fun y hy => by have := h.head y hy; omega]; omega
theorem Gd.cnt_under {x : Int × Int} {ps : List (Int × Int)} (h : Gd (x :: ps)) {i : Int} (hi : i < x.1) : cnt (x :: ps) i = 0 :=
 cnt_zero fun y hy => by
  rcases List.mem_cons.1 hy with rfl | hy
  ·omega
  ·have := h.head y hy; omega
theorem Gd.nil : Gd [] := ⟨List.Pairwise.nil, by simp⟩
theorem Gd.ext : ∀ {ps qs : List (Int × Int)}, Gd ps → Gd qs → (∀ i, cnt ps i = cnt qs i) → ps = qs
 | [], [], _, _, _ => rfl
 | [], y :: qs, _, h, e => by have := e y.1; rw [h.cnt_head, cnt_nil] at this; have := h.pos y (by simp); omega
 | x :: ps, [], h, _, e => by have := e x.1; rw [h.cnt_head, cnt_nil] at this; have := h.pos x (by simp); omega
 | x :: ps, y :: qs, h, k, e => by
  have px := h.pos x (by simp)
  have py := k.pos y (by simp)
  have e1 : x.1 = y.1 := by
   rcases Int.lt_trichotomy x.1 y.1 with hl | he | hl
   ·have := e x.1; rw [h.cnt_head, k.cnt_under hl] at this; omega
   ·exact he
   ·have := e y.1; rw [k.cnt_head, h.cnt_under hl] at this; omega
  have e2 : x.2 = y.2 := by have := e x.1; rw [h.cnt_head, e1, k.cnt_head] at this; exact this
  have e3 : ps = qs := Gd.ext h.tail k.tail fun i => by
   have := e i
   rw [cnt_cons, cnt_cons, e1, e2] at this
   omega
  rw [e3, show x = y from Prod.ext e1 e2]
theorem sumP_split (ps : List (Int × Int)) (q : Int) : sumP ps = sumP (ps.filter fun x => decide (x.1 < q)) + cnt ps q + sumP (ps.filter fun x => decide (q < x.1)) := by
 induction ps with
 | nil => rfl
 | cons x ps ih =>
  rw [sumP_cons, cnt_cons, ih]
  rcases Int.lt_trichotomy x.1 q with h | h | h
  ·simp [List.filter_cons, h, show ¬ x.1 = q by omega, show ¬ q < x.1 by omega, sumP_cons]; omega
  ·simp [List.filter_cons, h, sumP_cons]; omega
  ·simp [List.filter_cons, h, show ¬ x.1 = q by omega, show ¬ x.1 < q by omega, sumP_cons]; omega
theorem rowAdd_eq {ps : List (Int × Int)} {q c : Int} (h : Gd ps) (hc : 0 < c) (hs : cnt ps q + c < 18446744073709551616) :
  rowAdd ps q c = ps.filter (fun x => decide (x.1 < q)) ++ [(q, cnt ps q + c)] ++ ps.filter (fun x => decide (q < x.1)) := by
 have h0 := cnt_nonneg h.pos q
 unfold rowAdd
 rw [show sumP (ps.filter fun x => decide (x.1 = q)) = cnt ps q from rfl, Int.emod_eq_of_lt (by omega) hs, if_pos (by omega)]
theorem cnt_rowAdd {ps : List (Int × Int)} {q c : Int} (h : Gd ps) (hc : 0 < c) (hs : cnt ps q + c < 18446744073709551616) (i : Int) : cnt (rowAdd ps q c) i = cnt ps i + if i = q then c else 0 := by
 rw [rowAdd_eq h hc hs, cnt_append, cnt_append, cnt_filter (fun y => decide (y < q)), cnt_filter (fun y => decide (q < y)), cnt_cons, cnt_nil]
 dsimp only
 rcases Int.lt_trichotomy i q with hi | hi | hi
 ·simp [hi, show ¬ q < i by omega, show ¬ q = i by omega, show ¬ i = q by omega]
 ·subst hi; simp
 ·simp [hi, show ¬ i < q by omega, show ¬ q = i by omega, show ¬ i = q by omega]
theorem sumP_rowAdd {ps : List (Int × Int)} {q c : Int} (h : Gd ps) (hc : 0 < c) (hs : cnt ps q + c < 18446744073709551616) : sumP (rowAdd ps q c) = sumP ps + c := by
 rw [rowAdd_eq h hc hs, sumP_append, sumP_append, sumP_cons, sumP_nil]
 have := sumP_split ps q
 dsimp only
 omega
theorem Gd.rowAdd {ps : List (Int × Int)} {q c : Int} (h : Gd ps) (hc : 0 < c) (hs : cnt ps q + c < 18446744073709551616) : Gd (rowAdd ps q c) := by
 have h0 := cnt_nonneg h.pos q
 rw [rowAdd_eq h hc hs]
 refine ⟨?_, ?_⟩
 ·rw [List.pairwise_append, List.pairwise_append]
  refine ⟨⟨h.srt.filter _, by simp, ?_⟩, h.srt.filter _, ?_⟩
  ·intro x hx y hy
   simp only [List.mem_filter, decide_eq_true_eq, List.mem_singleton] at hx hy
   subst hy
   exact hx.2
  ·intro x hx y hy
   simp only [List.mem_append, List.mem_filter, decide_eq_true_eq, List.mem_singleton] at hx hy
   rcases hx with hx | rfl
   ·have := hx.2; have := hy.2; omega
   ·exact hy.2
 ·intro x hx
  simp only [List.mem_append, List.mem_filter, List.mem_singleton] at hx
  rcases hx with (hx | rfl) | hx
  ·exact h.pos x hx.1
  ·show 0 < cnt ps q + c; omega
  ·exact h.pos x hx.1
theorem okP_rowAdd {ps : List (Int × Int)} {q c : Int} (h : okP ps) (hq : -9223372036854775808 ≤ q ∧ q ≤ 9223372036854775807) : okP (rowAdd ps q c) := by
 intro x hx
 unfold rowAdd at hx
 simp only [List.mem_append, List.mem_filter] at hx
 rcases hx with (hx | hx) | hx
 ·exact h x hx.1
 ·split at hx
  ·simp only [List.mem_singleton] at hx
   subst hx
   exact ⟨hq, by dsimp only; omega⟩
  ·simp at hx
 ·exact h x hx.1
def span (ps : List (Int × Int)) : Int := (ps.getD (ps.length - 1) (0, 0)).1 - (ps.getD 0 (0, 0)).1
theorem Gd.le {ps : List (Int × Int)} (h : Gd ps) {i j : Nat} (hij : i ≤ j) (hj : j < ps.length) : (ps.getD i (0, 0)).1 ≤ (ps.getD j (0, 0)).1 := by
 rw [List.getD_eq_getElem?_getD, List.getD_eq_getElem?_getD, List.getElem?_eq_getElem (by omega), List.getElem?_eq_getElem hj]
 by_cases e : i = j
 ·subst e; exact Int.le_refl _
 ·exact Int.le_of_lt (List.pairwise_iff_getElem.1 h.srt i j (by omega) hj (by omega))
theorem getD_mem' {ps : List (Int × Int)} {i : Nat} (hi : i < ps.length) : ps.getD i (0, 0) ∈ ps := by
 rw [List.getD_eq_getElem?_getD, List.getElem?_eq_getElem hi]
 exact List.getElem_mem hi
theorem sumP_filter_le {ps : List (Int × Int)} (h : ∀ x ∈ ps, 0 < x.2) (p : Int × Int → Bool) : 0 ≤ sumP (ps.filter p) ∧ sumP (ps.filter p) ≤ sumP ps := by
 induction ps with
 | nil => exact ⟨Int.le_refl _, Int.le_refl _⟩
 | cons x ps ih =>
  have := ih fun y hy => h y (by simp [hy])
  have := h x (by simp)
  rw [List.filter_cons, sumP_cons]
  split
  ·rw [sumP_cons]; omega
  ·omega
theorem findP_zero (ps : List (Int × Int)) : ∀ s, findP 0 s ps = none := by
 induction ps with
 | nil => intro s; rfl
 | cons x ps ih => intro s; rw [findP, if_neg (by omega)]; exact ih _
def upto (ps : List (Int × Int)) (q : Int) : Int := sumP (ps.filter fun x => decide (x.1 ≤ q))
theorem cnt_le_upto {ps : List (Int × Int)} (h : ∀ x ∈ ps, 0 < x.2) (q : Int) : cnt ps q ≤ upto ps q := by
 have : ps.filter (fun x => decide (x.1 = q)) = (ps.filter fun x => decide (x.1 ≤ q)).filter fun x => decide (x.1 = q) := by
  rw [List.filter_filter]
  refine List.filter_congr fun x _ => ?_
  by_cases e : x.1 = q
  ·simp [e]
  ·simp [e]
 unfold cnt upto
 rw [this]
 exact (sumP_filter_le (fun x hx => h x (List.mem_filter.1 hx).1) _).2
end Go.Proofs.YtlbnlmhcpephbaaGreatDoor
