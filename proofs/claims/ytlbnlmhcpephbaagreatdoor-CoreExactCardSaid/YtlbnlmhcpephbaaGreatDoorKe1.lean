/- Texts of this claim, joined, indents halved: Base, Walks, Shelf, Span, Open. -/
import Derived.WalkKit
import Derived.Lib.Hide
import Derived.Deep.RegionHeld3
import Derived.Deep.QuietTactic
import Derived.BigQuiet
import Derived.WalkSpells
import Derived.WalkLawsBesides
import Derived.Deep.CutBlock
import Derived.Deep.DeepCutAuto
import Derived.Maps.AppendAt
import Derived.Test.YtlbnlmhcpephbaaGreatDoorProg
import Derived.Deep.RegionHeld
import Derived.Shelf.Small.Bits
import Derived.Shelf.Strconv.Itoa0
import Derived.Shelf.Bits.Mul64
import Derived.Shelf.Spec.BitsCarry
import Derived.Test.YtlbnlmhcpephbaaGreatDoorRows
import Derived.ProofKit
import Derived.OpenShut
import Derived.ShutString
import Derived.ChangeOld
import Derived.Carry
import Derived.Deep.Slices
import Derived.Deep.Fields
import Derived.Lib.SmallJoins
namespace Go.Proofs.YtlbnlmhcpephbaaGreatDoor
open Go.RowKit
theorem _root_.Go.RowKit.Below.drewN {B : Nat} {a w : World} (h : Below B a w) (n : Nat) : Below B a (w.drewN n) := ⟨h.os, h.tape, h.output, h.size, h.block⟩
theorem cellB {B : Nat} {w w' : World} (h : Below B w w') {b o : Nat} (hb : b < B) {v : Option Value} (hv : w.cell? ⟨b, o, none⟩ = v) : w'.cell? ⟨b, o, none⟩ = v := (h.cell (p := ⟨b, o, none⟩) hb).trans hv
def At (w : World) (b : Nat) (cs : Array Value) (T : TypeId) : Prop := w.heap[b]? = some (.cells cs T (0, 0))
namespace At
variable {w w' : World} {b b' i : Nat} {cs : Array Value} {T : TypeId}
theorem lt (h : At w b cs T) : b < w.heap.size := (Array.getElem?_eq_some_iff.1 h).1
theorem new (w : World) (cs : Array Value) (T : TypeId) : At (w.alloc (.cells cs T)) w.heap.size cs T := heap_alloc_new w _
theorem new' (w : World) (cs : Array Value) (T : TypeId) (hb : b = w.heap.size) : At (w.alloc (.cells cs T)) b cs T := hb ▸ heap_alloc_new w _
theorem alloc (h : At w b cs T) (o : Obj) : At (w.alloc o) b cs T := (Below.heap_alloc w o b h.lt).trans h
theorem drew (h : At w b cs T) : At w.drew b cs T := h
theorem drewN (h : At w b cs T) (n : Nat) : At (w.drewN n) b cs T := h
theorem of_below {B : Nat} (h : At w b cs T) (hb : Below B w w') (hB : b < B) : At w' b cs T := (hb.block b hB).trans h
theorem below (h : At w b cs T) (hb : Below w.heap.size w w') : At w' b cs T := h.of_below hb h.lt
theorem set_other (h : At w b cs T) {p : Addr} (hne : b ≠ p.block) (v : Value) : At (w.setCell p v) b cs T := (Below.heap_setCell w p v b hne).trans h
theorem set_same (h : At w b cs T) (i : Nat) (v : Value) : At (w.setCell ⟨b, i, none⟩ v) b (cs.setIfInBounds i v) T := by
 unfold At at *
 simp [World.setCell, Array.getElem?_modify, h]
theorem set_any {c0 : Array Value} (h : At w b c0 T) (i : Nat) (v : Value) (hc : c0.setIfInBounds i v = cs) : At (w.setCell ⟨b, i, none⟩ v) b cs T := hc ▸ h.set_same i v
theorem set2 {u0 u1 : Value} (h : At w b #[u0, u1] T) (x y : Value) : At ((w.setCell ⟨b, 0, none⟩ x).setCell ⟨b, 1, none⟩ y) b #[x, y] T := (h.set_same 0 x).set_same 1 y
theorem cell {v : Value} (h : At w b cs T) (hi : cs[i]? = some v) : w.cell? ⟨b, i, none⟩ = some v := by
 unfold At at h
 simp [World.cell?, h, hi]
theorem frozen (h : At w b cs T) (i : Nat) : w.frozen? ⟨b, i, none⟩ = false := by
 unfold At at h
 simp [World.frozen?, h]
theorem one {v0 : Value} (h : At w b #[v0] T) : w.cell? ⟨b, 0, none⟩ = some v0 ∧ w.frozen? ⟨b, 0, none⟩ = false := ⟨h.cell rfl, h.frozen 0⟩
theorem two {v0 v1 : Value} (h : At w b #[v0, v1] T) : w.cell? ⟨b, 0, none⟩ = some v0 ∧ w.cell? ⟨b, 1, none⟩ = some v1 ∧ w.frozen? ⟨b, 0, none⟩ = false ∧ w.frozen? ⟨b, 1, none⟩ = false := ⟨h.cell rfl, h.cell rfl, h.frozen 0, h.frozen 1⟩
theorem three {v0 v1 v2 : Value} (h : At w b #[v0, v1, v2] T) : w.cell? ⟨b, 0, none⟩ = some v0 ∧ w.cell? ⟨b, 1, none⟩ = some v1 ∧ w.cell? ⟨b, 2, none⟩ = some v2 ∧ w.frozen? ⟨b, 0, none⟩ = false ∧ w.frozen? ⟨b, 1, none⟩ = false ∧ w.frozen? ⟨b, 2, none⟩ = false := ⟨h.cell rfl, h.cell rfl, h.cell rfl, h.frozen 0, h.frozen 1, h.frozen 2⟩
end At
theorem keep1 {W0 W w' : World} (hB : Below W0.heap.size W0 W) (hb : Below W.heap.size W w') : Below W0.heap.size W0 w' := hB.trans (hb.mono hB.size)
theorem gen_world {P : Program} {c : Code} {Q : Exit → Act → World → Prop} {a : Act} {w : World} (S : World → Prop) (hS : S w) (h : ∀ W, S W → c.wp P Q a W) : c.wp P Q a w := h w hS
def RetW (w : World) (X : Int) (e : Ending) (w' : World) : Prop :=
 ∃ hi lo : Int, 0 ≤ hi ∧ hi < 18446744073709551616 ∧ 0 ≤ lo ∧ lo < 18446744073709551616 ∧ hi * 18446744073709551616 + lo = X ∧
  e = .returned (.agg #[.int .u64 hi, .int .u64 lo]) ∧ Below w.heap.size w w'
def RetWB (w : World) (X : Int) (b : Bool) (e : Ending) (w' : World) : Prop :=
 ∃ hi lo : Int, 0 ≤ hi ∧ hi < 18446744073709551616 ∧ 0 ≤ lo ∧ lo < 18446744073709551616 ∧ hi * 18446744073709551616 + lo = X ∧
  e = .returned (.tuple #[.agg #[.int .u64 hi, .int .u64 lo], .bool b]) ∧ Below w.heap.size w w'
def cmpI (x y : Int) : Int := if x < y then -1 else if x = y then 0 else 1
end Go.Proofs.YtlbnlmhcpephbaaGreatDoor

namespace Go.Proofs.YtlbnlmhcpephbaaGreatDoor
open Go.RowKit
structure Far (w : World) where
 far : World
 below : Below w.heap.size w far
instance Far.some (w : World) : Nonempty (Far w) := ⟨⟨w, Below.refl _ _⟩⟩
theorem Far.cell {w : World} (x : Far w) {b o : Nat} {v : Option Value} (hb : b < w.heap.size) (h : w.cell? ⟨b, o, none⟩ = v) : x.far.cell? ⟨b, o, none⟩ = v := cellB x.below hb h
theorem Far.at {w : World} (x : Far w) {b : Nat} {cs : Array Value} {T : TypeId} (h : At w b cs T) : At x.far b cs T := h.below x.below
theorem wp_region_far {P : Program} {id : Nat} {Q : Exit → Act → World → Prop} {a : Act} {w : World} {l : List Oper} (hm : P.follows .mixedOrders = true) (hB : Region.lexB .any l.toArray = true)
  (h : wpQuiet P l.toArray (fun w' => ∃ x : Far w, w' = x.far) (fun a' => ∀ w', (∃ x : Far w, w' = x.far) → Q .normal a' w') l a) : (Code.region id l.toArray true).wp P Q a w :=
 wp_region_quiet (C := fun w' => ∃ x : Far w, w' = x.far) hm hB ⟨⟨w.drewN 1, (Below.refl _ _).drewN 1⟩, rfl⟩ (by simpa using h)
theorem far_of {P : Program} {f : FuncId} {args : Array Value} {w : World} {x : Far w} {v : Value}
  (h : Calls P f args x.far fun e w' => e = .returned v ∧ Below x.far.heap.size x.far w') : Calls P f args x.far fun e w'' => e = .returned v ∧ ∃ y : Far w, w'' = y.far :=
 h.mono fun _ w' ⟨he, hB⟩ => ⟨he, ⟨w', keep1 x.below hB⟩, rfl⟩
end Go.Proofs.YtlbnlmhcpephbaaGreatDoor
namespace Go.Proofs.YtlbnlmhcpephbaaGreatDoor
open Go.RowKit
section
variable {P : Program} {ops : Array Oper} {Q : Exit → Act → World → Prop} {md : Region.Mode} {S : World → Prop}
def noCall (o : Oper) : Bool := match o.op with
  | .move _ | .assign _ | .pick .. | .load .. | .binOp .. | .unOp .. | .convert .. | .fieldAddr .. | .field .. | .indexAddr .. | .index .. | .extract .. | .slice .. | .build .. | .nilCheck _ => true
  | .call c => match c.callee with
    | .builtin .len | .builtin .min | .builtin .max => true
    | _ => false
  | _ => false
theorem bind_value {s : Sem Value} {w w' : World} {n : Next} (h : (do pure (Next.value (← s)) : Sem Next).run P w = .ok n w') : ∃ u, n = .value u := by
 rw [Sem.run_bind] at h
 generalize s.run P w = r at h
 cases r with
 | ok u w1 => simp only [Result.andThen, Sem.run_pure] at h; injection h with h1 h2; exact ⟨u, h1.symm⟩
 | halt x w1 => simp only [Result.andThen] at h; cases h
theorem run_bind_ok {α β : Type} {s : Sem α} {f : α → Sem β} {w w' : World} {n : β} (h : (s >>= f).run P w = .ok n w') : ∃ u w1, s.run P w = .ok u w1 ∧ (f u).run P w1 = .ok n w' := by
 rw [Sem.run_bind] at h
 generalize s.run P w = r at h
 cases r with
 | ok u w1 => exact ⟨u, w1, rfl, h⟩
 | halt x w1 => simp only [Result.andThen] at h; cases h
theorem noCall_value {o : Oper} {a : Act} {w w' : World} {n : Next} (hn : noCall o = true) (h : (execOp a.eval o).run P w = .ok n w') : ∃ u, n = .value u := by
  obtain ⟨d, op, t, pos, af, gd⟩ := o
  unfold noCall at hn
  unfold execOp at h
  cases op <;> simp only [Bool.false_eq_true] at hn <;> dsimp only at h
  case call c =>
    obtain ⟨callee, args, ts⟩ := c
    cases callee <;> simp only [Bool.false_eq_true] at hn
    rename_i bi
    cases bi <;> simp only [Bool.false_eq_true] at hn <;> exact bind_value h
  all_goals first
    | exact bind_value h
    | (rw [Sem.run_pure] at h; injection h with h1 h2; exact ⟨_, h1.symm⟩)
    | (split at h <;> first
        | (rw [Sem.run_pure] at h; injection h with h1 h2; exact ⟨_, h1.symm⟩)
        | (simp [runtimePanic, Sem.run] at h; done)
        | (split at h <;> first
            | (rw [Sem.run_pure] at h; injection h with h1 h2; exact ⟨_, h1.symm⟩)
            | (simp [runtimePanic, Sem.run] at h; done)
            | (obtain ⟨_, _, _, h⟩ := run_bind_ok h
               obtain ⟨_, _, _, h⟩ := run_bind_ok h
               split at h
               · obtain ⟨_, _, _, h⟩ := run_bind_ok h
                 rw [Sem.run_pure] at h; injection h with h1 h2; exact ⟨_, h1.symm⟩
               · rw [Sem.run_pure] at h; injection h with h1 h2; exact ⟨_, h1.symm⟩)))
    | (rw [Sem.run_bind] at h
       generalize (asBool _).run P w = r at h
       cases r with
       | ok u w1 => simp only [Result.andThen, Sem.run_pure] at h; injection h with h1 h2; exact ⟨_, h1.symm⟩
       | halt x w1 => simp only [Result.andThen] at h; cases h)
def runOps : List Bool → List Oper → List Oper
 | true :: m, o :: l => o :: runOps m l
 | false :: m, _ :: l => runOps m l
 | _, _ => []
theorem runOps_true (m : List Bool) (o : Oper) (l : List Oper) : runOps (true :: m) (o :: l) = o :: runOps m l := rfl
theorem runOps_false (m : List Bool) (o : Oper) (l : List Oper) : runOps (false :: m) (o :: l) = runOps m l := rfl
theorem runOps_nil (l : List Oper) : runOps [] l = [] := by cases l <;> rfl
def setB : List Bool → Nat → Array Bool → Array Bool
 | [], _, listed => listed
 | true :: m, k, listed => setB m (k + 1) (listed.setIfInBounds k true)
 | false :: m, k, listed => setB m (k + 1) listed
def countB : List Bool → Nat
 | [] => 0
 | true :: m => countB m + 1
 | false :: m => countB m
def runB (md : Region.Mode) (ops : Array Oper) : List Bool → Nat → Array Bool → Bool
 | [], _, _ => true
 | false :: m, k, listed => runB md ops m (k + 1) listed
 | true :: m, k, listed => (Region.ready md ops listed).contains k && Region.free md ops listed k && (match ops[k]? with | some o => noCall o | none => false) && runB md ops m (k + 1) (listed.setIfInBounds k true)
theorem wpAnyH_run (hs : Region.noSelect ops = true) (hQ : ∀ c a a' w, Q (.panic c) a w → Q (.panic c) a' w) : ∀ (m : List Bool) (l : List Oper) (k fuel : Nat) (listed : Array Bool) (a : Act) (w : World), (∀ j, l[j]? = ops[k + j]?) →
    runB md ops m k listed = true → S w → wpQuiet P ops S (fun a' => wpAnyH P md ops Q S fuel (setB m k listed) a' w) (runOps m l) a → wpAnyH P md ops Q S (fuel + countB m) listed a w
  | [], l, k, fuel, listed, a, w, hl, hB, hS, h => by rw [runOps_nil] at h; exact h
  | false :: m, [], k, fuel, listed, a, w, hl, hB, hS, h => by
    have : ∀ (m : List Bool) (k : Nat) (listed : Array Bool), (∀ j, k ≤ j → ops[j]? = none) → runB md ops m k listed = true → setB m k listed = listed ∧ countB m = 0 := by
      intro m
      induction m with
      | nil => intro k listed _ _; exact ⟨rfl, rfl⟩
      | cons t m ih =>
        intro k listed hn hb
        cases t with
        | false => exact ih (k + 1) listed (fun j hj => hn j (by omega)) hb
        | true => simp [runB, hn k (Nat.le_refl _)] at hb
    obtain ⟨e1, e2⟩ := this (false :: m) k listed (fun j hj => by have := hl (j - k); rw [show k + (j - k) = j by omega] at this; rw [← this]; rfl) hB
    rw [e2]
    rw [e1] at h
    exact h
  | false :: m, o :: l, k, fuel, listed, a, w, hl, hB, hS, h =>
    wpAnyH_run hs hQ m l (k + 1) fuel listed a w (fun j => by have := hl (j + 1); simpa [Nat.add_assoc, Nat.add_comm 1 j] using this) hB hS h
  | true :: m, [], k, fuel, listed, a, w, hl, hB, hS, h => by
    have h0 : ops[k]? = none := by simpa using (hl 0).symm
    simp [runB, h0] at hB
  | true :: m, o :: l, k, fuel, listed, a, w, hl, hB, hS, h => by
    have h0 : ops[k]? = some o := by simpa using (hl 0).symm
    simp only [runB, h0, Bool.and_eq_true] at hB
    obtain ⟨⟨⟨hr, hf⟩, hn⟩, hB'⟩ := hB
    have hst : qOp P ops S k (wpQuiet P ops S (fun a' => wpAnyH P md ops Q S fuel (setB m (k + 1) (listed.setIfInBounds k true)) a' w) (runOps m l)) a := by unfold qOp; simp only [h0]; exact h
    obtain ⟨v, hy, hK⟩ := yieldsIn_of_qOp h0 hst
    have hy' : YieldsIf P ops S o v a := by
      rcases hy with ⟨hw, hq⟩ | h
      · refine .inl ⟨hw, fun w' hw' => ?_⟩
        have h3 := hq w' hw'
        unfold Oper.quietAt at h3
        have hne := fun n w'' => noCall_value (P := P) (o := o) (a := a) (w := w') (w' := w'') (n := n) hn
        generalize (execOp a.eval o).run P w' = r at *
        cases r with
        | ok n w1 =>
          cases n <;> simp only [Oper.quietUpon] at h3
          case value u => obtain ⟨rfl, rfl⟩ := h3; rfl
          case skip => obtain ⟨u, hu⟩ := hne _ w1 rfl; cases hu
          case enter f args => obtain ⟨u, hu⟩ := hne _ w1 rfl; cases hu
        | halt x w1 => simp only [Oper.quietUpon] at h3
      · exact .inr h
    exact wpAnyH_take (v := v) h0 hs hf hr (fun c a w h => hQ c _ _ w h) hy' hS
      (wpAnyH_run hs hQ m l (k + 1) fuel _ _ w (fun j => by have := hl (j + 1); simpa [Nat.add_assoc, Nat.add_comm 1 j] using this) hB' hS hK)
end
def runN (b : Bool) (t : List Bool) : Nat → List Bool
 | 0 => t
 | n + 1 => b :: runN b t n
def runL : List Nat → Bool → List Bool
 | [], _ => []
 | n :: l, true => runN true (runL l false) n
 | n :: l, false => runN false (runL l true) n
structure Held (H : World → Prop) where
 far : World
 held : H far
def HeldS (H : World → Prop) (w : World) : Prop := ∃ x : Held H, w = x.far
theorem HeldS.mk' {H : World → Prop} {w : World} (h : H w) : HeldS H w := ⟨⟨w, h⟩, rfl⟩
section
variable {P : Program} {Q : Exit → Act → World → Prop} {md : Region.Mode}
theorem wpAnyH_run0 {H : World → Prop} {l : List Oper} (m : List Bool) (fuel : Nat) {F : Nat} {listed : Array Bool} {a : Act} {w : World} (hf : fuel + countB m = F) (hs : Region.noSelect l.toArray = true) (hQ : ∀ c a a' w, Q (.panic c) a w → Q (.panic c) a' w)
  (hB : runB md l.toArray m 0 listed = true) (hS : HeldS H w) (h : wpQuiet P l.toArray (fun w' => ∃ x : Held H, w' = x.far) (fun a' => wpAnyH P md l.toArray Q (HeldS H) fuel (setB m 0 listed) a' w) (runOps m l) a) : wpAnyH P md l.toArray Q (HeldS H) F listed a w := by
 subst hf
 exact wpAnyH_run hs hQ m l 0 fuel listed a w (fun j => by simp) hB hS h
theorem runH {H : World → Prop} {l : List Oper} (m : List Nat) (fuel : Nat) {F : Nat} {listed : Array Bool} {a : Act} {w : World} (hS : HeldS H w) (h : wpQuiet P l.toArray (fun w' => ∃ x : Held H, w' = x.far) (fun a' => wpAnyH P md l.toArray Q (HeldS H) fuel (setB (runL m true) 0 listed) a' w) (runOps (runL m true) l) a)
  (hf : fuel + countB (runL m true) = F := by kernel_rfl) (hs : Region.noSelect l.toArray = true := by kernel_rfl) (hQ : ∀ c a a' w, Q (.panic c) a w → Q (.panic c) a' w := by exact fun _ _ _ _ h => h) (hB : runB md l.toArray (runL m true) 0 listed = true := by kernel_rfl) : wpAnyH P md l.toArray Q (HeldS H) F listed a w := wpAnyH_run0 _ fuel hf hs hQ hB hS h
theorem readyH {ops : Array Oper} {S : World → Prop} (i : Nat) {fuel : Nat} {listed : Array Bool} {a : Act} {w : World} {o : Oper}
  (h : ∀ K' : Act → World → Prop, Shut (∀ a w, S w → (S w → wpAnyH P md ops Q S fuel (listed.setIfInBounds i true) a w) → K' a w) → if Region.wanted o (yielded ops a.tmps) = true then Oper.wp P o a w K' Q else K' (a.put o.dst undef) w)
  (ho : ops[i]? = some o := by rfl) (hr : Region.ready md ops listed = [i] := by kernel_rfl) : wpAnyH P md ops Q S (fuel + 1) listed a w := wpAnyH_ready hr (by simp) (.cons ho h .nil)
theorem doneH {ops : Array Oper} {S : World → Prop} {fuel : Nat} {listed : Array Bool} {a : Act} {w : World} (h : Q .normal a w) (hr : Region.ready md ops listed = [] := by kernel_rfl) : wpAnyH P md ops (NoPanic Q) S fuel listed a w := wpAnyH_done hr (NoPanic.normal h) _
end
end Go.Proofs.YtlbnlmhcpephbaaGreatDoor
namespace Go.Proofs.YtlbnlmhcpephbaaGreatDoor
open Go.RowKit
section
variable {P : Program} {ops : Array Oper} {Q : Exit → Act → World → Prop} {md : Region.Mode} {S : World → Prop} {late : Nat}
def noLate (late : Nat) (listed : Array Bool) : Bool := (List.range listed.size).all fun j => decide (j < late) || !listed.getD j false
theorem noLate_spec {listed : Array Bool} (h : noLate late listed = true) (j : Nat) (hj : late ≤ j) : listed.getD j false = false := by
 rcases Nat.lt_or_ge j listed.size with hs | hs
 ·simp only [noLate, List.all_eq_true, List.mem_range] at h
  have := h j hs
  simpa [Nat.not_lt.2 hj] using this
 ·simp [Array.getElem?_eq_none hs]
theorem noLate_of {listed : Array Bool} (h : ∀ j, late ≤ j → listed.getD j false = false) : noLate late listed = true := by
 simp only [noLate, List.all_eq_true, List.mem_range]
 intro j _
 rcases Nat.lt_or_ge j late with hs | hs
 ·simp [hs]
 ·rw [h j hs]; simp
theorem getD_set_true {listed : Array Bool} {i j : Nat} (h : i ≠ j) : (listed.setIfInBounds i true).getD j false = listed.getD j false := by
 simp [Array.getElem?_setIfInBounds, h]
theorem noLate_set {listed : Array Bool} {i : Nat} (hi : i < late) (h : noLate late listed = true) : noLate late (listed.setIfInBounds i true) = true :=
 noLate_of fun j hj => by rw [getD_set_true (by omega)]; exact noLate_spec h j hj
theorem noLate_back {listed : Array Bool} {i : Nat} (h : noLate late (listed.setIfInBounds i true) = true) : noLate late listed = true :=
 noLate_of fun j hj => by
  by_cases e : i = j
  ·subst e
   have := noLate_spec h i hj
   rcases Nat.lt_or_ge i listed.size with hs | hs
   ·simp [hs] at this
   ·simp [Array.getElem?_eq_none hs]
  ·rw [← getD_set_true e]; exact noLate_spec h j hj
theorem late_no {p : Prop} {b : Bool} (h : b = true) (k : b = false) : p := by rw [k] at h; cases h
def wpAnyU (P : Program) (md : Region.Mode) (ops : Array Oper) (Q : Exit → Act → World → Prop) (S : World → Prop) (late : Nat) : Nat → Array Bool → Act → World → Prop
  | 0, listed, a, w => Region.ready md ops listed = [] ∧ Q .normal a w
  | fuel + 1, listed, a, w =>
    (Region.ready md ops listed = [] → Q .normal a w) ∧
    ∀ i ∈ Region.ready md ops listed, wpOp P ops Q i (fun a' w' => (noLate late (listed.setIfInBounds i true) = true → S w') ∧ wpAnyU P md ops Q S late fuel (listed.setIfInBounds i true) a' w') a w
theorem wpAny_of_until : ∀ (fuel : Nat) (listed : Array Bool) (a : Act) (w : World), wpAnyU P md ops Q S late fuel listed a w → wpAny P md ops Q fuel listed a w
 | 0, _, _, _, h => h
 | fuel + 1, _, _, _, h => ⟨h.1, fun i hi => wpOp_mono (fun a' w' h' => wpAny_of_until fuel _ a' w' h'.2) (h.2 i hi)⟩
def lateB (md : Region.Mode) (ops : Array Oper) (late i : Nat) : Bool := (List.range ops.size).all fun j => j < late || match ops[j]? with
 | some oj => oj.after.any fun e => Region.binds md e && e.on == i
 | none => true
theorem lateB_spec {i j : Nat} {oj : Oper} (h : lateB md ops late i = true) (hj : ops[j]? = some oj) (hl : ¬ j < late) : ∃ e ∈ oj.after, Region.binds md e = true ∧ e.on = i := by
 simp only [lateB, List.all_eq_true, List.mem_range] at h
 have h1 := h j (Array.getElem?_eq_some_iff.1 hj).1
 simp only [hj, hl, decide_false, Bool.false_or] at h1
 obtain ⟨e, he, hb⟩ := Array.any_eq_true'.1 h1
 rw [Bool.and_eq_true, beq_iff_eq] at hb
 exact ⟨e, he, hb.1, hb.2⟩
theorem wpAnyU_first {i : Nat} {oi : Oper} {v : Value} (hi : ops[i]? = some oi) (hlt : i < late) (hlb : lateB md ops late i = true) (hsel : ∀ (j : Nat) (o : Oper) cs b, ops[j]? = some o → o.op ≠ .select cs b)
    (hQ : ∀ c a w, Q (.panic c) (a.put oi.dst v) w → Q (.panic c) a w) :
    ∀ (fuel : Nat) (listed : Array Bool) (a : Act) (w : World),
      (∀ j oj, ops[j]? = some oj → j ≠ i → listed.getD j true = false → (∀ e ∈ oj.after, Region.binds md e = true → e.on ≠ i) → oi.apart ops oj = true) →
      i ∈ Region.ready md ops listed → YieldsIf P ops S oi v a → noLate late listed = true → S w →
      wpAnyU P md ops Q S late fuel (listed.setIfInBounds i true) (a.put oi.dst v) w → wpAnyU P md ops Q S late (fuel + 1) listed a w := by
  intro fuel
  induction fuel with
  | zero =>
    intro listed a w _ hr hy hnl hS H
    refine ⟨fun h => (by rw [h] at hr; cases hr), fun j hj => ?_⟩
    by_cases hji : j = i
    · subst hji; exact hy.wpOp hi hS ⟨fun _ => hS, H⟩
    · have := ready_mono hj hji
      rw [H.1] at this
      cases this
  | succ fuel ih =>
    intro listed a w hfree hr hy hnl hS H
    refine ⟨fun h => (by rw [h] at hr; cases hr), fun j hj => ?_⟩
    by_cases hji : j = i
    · subst hji; exact hy.wpOp hi hS ⟨fun _ => hS, H⟩
    · have h1 := H.2 j (ready_mono hj hji)
      obtain ⟨hjun, oj, hoj, hall⟩ := mem_ready.1 hj
      have hnot : ∀ e ∈ oj.after, Region.binds md e = true → e.on ≠ i := fun e he hb heq => by
        have h1 := hall e he hb
        have h0 := (mem_ready.1 hr).1
        rw [heq] at h1
        rcases Nat.lt_or_ge i listed.size with h' | h'
        · simp [h'] at h0 h1; rw [h0] at h1; cases h1
        · simp [Array.getElem?_eq_none h'] at h1
      have hjl : j < late := by
        rcases Nat.lt_or_ge j late with h | h
        · exact h
        · obtain ⟨e, he, hb, ho⟩ := lateB_spec hlb hoj (by omega)
          exact absurd ho (hnot e he hb)
      have h2 := wpOp_putIf hoj (hfree j oj hoj hji hjun hnot) (fun cs b => hsel i oi cs b hi) (fun cs b => hsel j oj cs b hoj) hQ hy h1
      have hfree' : ∀ k ok, ops[k]? = some ok → k ≠ i → (listed.setIfInBounds j true).getD k true = false →
          (∀ e ∈ ok.after, Region.binds md e = true → e.on ≠ i) → oi.apart ops ok = true := fun k ok hk hki hun hno => by
        refine hfree k ok hk hki ?_ hno
        by_cases hjk : j = k
        · subst hjk; exact hjun
        · rw [getD_set_ne true hjk] at hun; exact hun
      refine wpOp_mono (fun a' w' h3 => ⟨fun _ => h3.2.1 (noLate_set hjl (noLate_set hlt hnl)), ih (listed.setIfInBounds j true) a' w' hfree' (ready_mono hr (Ne.symm hji)) h3.1 (noLate_set hjl hnl) (h3.2.1 (noLate_set hjl (noLate_set hlt hnl))) ?_⟩) h2
      rw [Array.setIfInBounds_comm _ _ hji]
      exact h3.2.2
theorem wpAnyU_firstF {T : World → Prop} (hT : ∀ w, T w) {i : Nat} {oi : Oper} {v : Value} (hi : ops[i]? = some oi) (hlt : i < late) (hsel : ∀ (j : Nat) (o : Oper) cs b, ops[j]? = some o → o.op ≠ .select cs b)
    (hQ : ∀ c a w, Q (.panic c) (a.put oi.dst v) w → Q (.panic c) a w) :
    ∀ (fuel : Nat) (listed : Array Bool) (a : Act) (w : World),
      (∀ j oj, ops[j]? = some oj → j ≠ i → listed.getD j true = false → (∀ e ∈ oj.after, Region.binds md e = true → e.on ≠ i) → oi.apart ops oj = true) →
      i ∈ Region.ready md ops listed → YieldsIf P ops T oi v a → (noLate late listed = true → S w) →
      wpAnyU P md ops Q S late fuel (listed.setIfInBounds i true) (a.put oi.dst v) w → wpAnyU P md ops Q S late (fuel + 1) listed a w := by
  intro fuel
  induction fuel with
  | zero =>
    intro listed a w _ hr hy hS H
    refine ⟨fun h => (by rw [h] at hr; cases hr), fun j hj => ?_⟩
    by_cases hji : j = i
    · subst hji; exact hy.wpOp hi (hT _) ⟨fun h => hS (noLate_back h), H⟩
    · have := ready_mono hj hji
      rw [H.1] at this
      cases this
  | succ fuel ih =>
    intro listed a w hfree hr hy hS H
    refine ⟨fun h => (by rw [h] at hr; cases hr), fun j hj => ?_⟩
    by_cases hji : j = i
    · subst hji; exact hy.wpOp hi (hT _) ⟨fun h => hS (noLate_back h), H⟩
    · have h1 := H.2 j (ready_mono hj hji)
      obtain ⟨hjun, oj, hoj, hall⟩ := mem_ready.1 hj
      have hnot : ∀ e ∈ oj.after, Region.binds md e = true → e.on ≠ i := fun e he hb heq => by
        have h1 := hall e he hb
        have h0 := (mem_ready.1 hr).1
        rw [heq] at h1
        rcases Nat.lt_or_ge i listed.size with h' | h'
        · simp [h'] at h0 h1; rw [h0] at h1; cases h1
        · simp [Array.getElem?_eq_none h'] at h1
      have h2 := wpOp_putIf hoj (hfree j oj hoj hji hjun hnot) (fun cs b => hsel i oi cs b hi) (fun cs b => hsel j oj cs b hoj) hQ hy h1
      have hfree' : ∀ k ok, ops[k]? = some ok → k ≠ i → (listed.setIfInBounds j true).getD k true = false →
          (∀ e ∈ ok.after, Region.binds md e = true → e.on ≠ i) → oi.apart ops ok = true := fun k ok hk hki hun hno => by
        refine hfree k ok hk hki ?_ hno
        by_cases hjk : j = k
        · subst hjk; exact hjun
        · rw [getD_set_ne true hjk] at hun; exact hun
      have hc : ∀ {w' : World}, (noLate late ((listed.setIfInBounds i true).setIfInBounds j true) = true → S w') → noLate late (listed.setIfInBounds j true) = true → S w' := fun h hn => h (by
        rw [Array.setIfInBounds_comm _ _ (Ne.symm hji)]
        exact noLate_set hlt hn)
      refine wpOp_mono (fun a' w' h3 => ⟨hc h3.2.1, ih (listed.setIfInBounds j true) a' w' hfree' (ready_mono hr (Ne.symm hji)) h3.1 (hc h3.2.1) ?_⟩) h2
      rw [Array.setIfInBounds_comm _ _ hji]
      exact h3.2.2
def runU (md : Region.Mode) (ops : Array Oper) (late : Nat) : List Bool → Nat → Array Bool → Bool
 | [], _, _ => true
 | false :: m, k, listed => runU md ops late m (k + 1) listed
 | true :: m, k, listed => decide (k < late) && noLate late listed && lateB md ops late k && (Region.ready md ops listed).contains k && Region.free md ops listed k && (match ops[k]? with | some o => noCall o | none => false) && runU md ops late m (k + 1) (listed.setIfInBounds k true)
theorem wpAnyU_run (hs : Region.noSelect ops = true) (hQ : ∀ c a a' w, Q (.panic c) a w → Q (.panic c) a' w) : ∀ (m : List Bool) (l : List Oper) (k fuel : Nat) (listed : Array Bool) (a : Act) (w : World), (∀ j, l[j]? = ops[k + j]?) →
    runU md ops late m k listed = true → S w → wpQuiet P ops S (fun a' => wpAnyU P md ops Q S late fuel (setB m k listed) a' w) (runOps m l) a → wpAnyU P md ops Q S late (fuel + countB m) listed a w
  | [], l, k, fuel, listed, a, w, hl, hB, hS, h => by rw [runOps_nil] at h; exact h
  | false :: m, [], k, fuel, listed, a, w, hl, hB, hS, h => by
    have : ∀ (m : List Bool) (k : Nat) (listed : Array Bool), (∀ j, k ≤ j → ops[j]? = none) → runU md ops late m k listed = true → setB m k listed = listed ∧ countB m = 0 := by
      intro m
      induction m with
      | nil => intro k listed _ _; exact ⟨rfl, rfl⟩
      | cons t m ih =>
        intro k listed hn hb
        cases t with
        | false => exact ih (k + 1) listed (fun j hj => hn j (by omega)) hb
        | true => simp [runU, hn k (Nat.le_refl _)] at hb
    obtain ⟨e1, e2⟩ := this (false :: m) k listed (fun j hj => by have := hl (j - k); rw [show k + (j - k) = j by omega] at this; rw [← this]; rfl) hB
    rw [e2]
    rw [e1] at h
    exact h
  | false :: m, o :: l, k, fuel, listed, a, w, hl, hB, hS, h =>
    wpAnyU_run hs hQ m l (k + 1) fuel listed a w (fun j => by have := hl (j + 1); simpa [Nat.add_assoc, Nat.add_comm 1 j] using this) hB hS h
  | true :: m, [], k, fuel, listed, a, w, hl, hB, hS, h => by
    have h0 : ops[k]? = none := by simpa using (hl 0).symm
    simp [runU, h0] at hB
  | true :: m, o :: l, k, fuel, listed, a, w, hl, hB, hS, h => by
    have h0 : ops[k]? = some o := by simpa using (hl 0).symm
    simp only [runU, h0, Bool.and_eq_true, decide_eq_true_eq] at hB
    obtain ⟨⟨⟨⟨⟨⟨hlt, hnl⟩, hlb⟩, hr⟩, hf⟩, hn⟩, hB'⟩ := hB
    have hst : qOp P ops S k (wpQuiet P ops S (fun a' => wpAnyU P md ops Q S late fuel (setB m (k + 1) (listed.setIfInBounds k true)) a' w) (runOps m l)) a := by unfold qOp; simp only [h0]; exact h
    obtain ⟨v, hy, hK⟩ := yieldsIn_of_qOp h0 hst
    have hy' : YieldsIf P ops S o v a := by
      rcases hy with ⟨hw, hq⟩ | h
      · refine .inl ⟨hw, fun w' hw' => ?_⟩
        have h3 := hq w' hw'
        unfold Oper.quietAt at h3
        have hne := fun n w'' => noCall_value (P := P) (o := o) (a := a) (w := w') (w' := w'') (n := n) hn
        generalize (execOp a.eval o).run P w' = r at *
        cases r with
        | ok n w1 =>
          cases n <;> simp only [Oper.quietUpon] at h3
          case value u => obtain ⟨rfl, rfl⟩ := h3; rfl
          case skip => obtain ⟨u, hu⟩ := hne _ w1 rfl; cases hu
          case enter f args => obtain ⟨u, hu⟩ := hne _ w1 rfl; cases hu
        | halt x w1 => simp only [Oper.quietUpon] at h3
      · exact .inr h
    exact wpAnyU_first (v := v) h0 hlt hlb (Region.noSelect_spec hs) (fun c a w h => hQ c _ _ w h) _ _ _ _ (Region.free_spec h0 hf) (by simpa using hr) hy' hnl hS
      (wpAnyU_run hs hQ m l (k + 1) fuel _ _ w (fun j => by have := hl (j + 1); simpa [Nat.add_assoc, Nat.add_comm 1 j] using this) hB' hS hK)
def runF (md : Region.Mode) (ops : Array Oper) (late : Nat) : List Bool → Nat → Array Bool → Bool
 | [], _, _ => true
 | false :: m, k, listed => runF md ops late m (k + 1) listed
 | true :: m, k, listed => decide (k < late) && (Region.ready md ops listed).contains k && Region.free md ops listed k && (match ops[k]? with | some o => noCall o | none => false) && runF md ops late m (k + 1) (listed.setIfInBounds k true)
theorem wpAnyU_runF {T : World → Prop} (hT : ∀ w, T w) (hs : Region.noSelect ops = true) (hQ : ∀ c a a' w, Q (.panic c) a w → Q (.panic c) a' w) : ∀ (m : List Bool) (l : List Oper) (k fuel : Nat) (listed : Array Bool) (a : Act) (w : World), (∀ j, l[j]? = ops[k + j]?) →
    runF md ops late m k listed = true → (noLate late listed = true → S w) → wpQuiet P ops T (fun a' => wpAnyU P md ops Q S late fuel (setB m k listed) a' w) (runOps m l) a → wpAnyU P md ops Q S late (fuel + countB m) listed a w
  | [], l, k, fuel, listed, a, w, hl, hB, hS, h => by rw [runOps_nil] at h; exact h
  | false :: m, [], k, fuel, listed, a, w, hl, hB, hS, h => by
    have : ∀ (m : List Bool) (k : Nat) (listed : Array Bool), (∀ j, k ≤ j → ops[j]? = none) → runF md ops late m k listed = true → setB m k listed = listed ∧ countB m = 0 := by
      intro m
      induction m with
      | nil => intro k listed _ _; exact ⟨rfl, rfl⟩
      | cons t m ih =>
        intro k listed hn hb
        cases t with
        | false => exact ih (k + 1) listed (fun j hj => hn j (by omega)) hb
        | true => simp [runF, hn k (Nat.le_refl _)] at hb
    obtain ⟨e1, e2⟩ := this (false :: m) k listed (fun j hj => by have := hl (j - k); rw [show k + (j - k) = j by omega] at this; rw [← this]; rfl) hB
    rw [e2]
    rw [e1] at h
    exact h
  | false :: m, o :: l, k, fuel, listed, a, w, hl, hB, hS, h =>
    wpAnyU_runF hT hs hQ m l (k + 1) fuel listed a w (fun j => by have := hl (j + 1); simpa [Nat.add_assoc, Nat.add_comm 1 j] using this) hB hS h
  | true :: m, [], k, fuel, listed, a, w, hl, hB, hS, h => by
    have h0 : ops[k]? = none := by simpa using (hl 0).symm
    simp [runF, h0] at hB
  | true :: m, o :: l, k, fuel, listed, a, w, hl, hB, hS, h => by
    have h0 : ops[k]? = some o := by simpa using (hl 0).symm
    simp only [runF, h0, Bool.and_eq_true, decide_eq_true_eq] at hB
    obtain ⟨⟨⟨⟨hlt, hr⟩, hf⟩, hn⟩, hB'⟩ := hB
    have hst : qOp P ops T k (wpQuiet P ops T (fun a' => wpAnyU P md ops Q S late fuel (setB m (k + 1) (listed.setIfInBounds k true)) a' w) (runOps m l)) a := by unfold qOp; simp only [h0]; exact h
    obtain ⟨v, hy, hK⟩ := yieldsIn_of_qOp h0 hst
    have hy' : YieldsIf P ops T o v a := by
      rcases hy with ⟨hw, hq⟩ | h
      · refine .inl ⟨hw, fun w' hw' => ?_⟩
        have h3 := hq w' hw'
        unfold Oper.quietAt at h3
        have hne := fun n w'' => noCall_value (P := P) (o := o) (a := a) (w := w') (w' := w'') (n := n) hn
        generalize (execOp a.eval o).run P w' = r at *
        cases r with
        | ok n w1 =>
          cases n <;> simp only [Oper.quietUpon] at h3
          case value u => obtain ⟨rfl, rfl⟩ := h3; rfl
          case skip => obtain ⟨u, hu⟩ := hne _ w1 rfl; cases hu
          case enter f args => obtain ⟨u, hu⟩ := hne _ w1 rfl; cases hu
        | halt x w1 => simp only [Oper.quietUpon] at h3
      · exact .inr h
    exact wpAnyU_firstF (v := v) hT h0 hlt (Region.noSelect_spec hs) (fun c a w h => hQ c _ _ w h) _ _ _ _ (Region.free_spec h0 hf) (by simpa using hr) hy' hS
      (wpAnyU_runF hT hs hQ m l (k + 1) fuel _ _ w (fun j => by have := hl (j + 1); simpa [Nat.add_assoc, Nat.add_comm 1 j] using this) hB' (fun h => hS (noLate_back h)) hK)
def AllReadyU (P : Program) (md : Region.Mode) (ops : Array Oper) (Q : Exit → Act → World → Prop) (S : World → Prop) (late fuel : Nat) (listed : Array Bool) (a : Act) (w : World) (rs : List Nat) : Prop :=
 ∀ i ∈ rs, wpOp P ops Q i (fun a' w' => (noLate late (listed.setIfInBounds i true) = true → S w') ∧ wpAnyU P md ops Q S late fuel (listed.setIfInBounds i true) a' w') a w
theorem AllReadyU.nil {fuel : Nat} {listed : Array Bool} {a : Act} {w : World} : AllReadyU P md ops Q S late fuel listed a w [] := fun _ h => by cases h
theorem AllReadyU.cons {fuel : Nat} {listed : Array Bool} {a : Act} {w : World} {i : Nat} {o : Oper} {rs : List Nat} (ho : ops[i]? = some o)
  (h : ∀ K' : Act → World → Prop, Shut (∀ a w, (noLate late (listed.setIfInBounds i true) = true → S w) → wpAnyU P md ops Q S late fuel (listed.setIfInBounds i true) a w → K' a w) → if Region.wanted o (yielded ops a.tmps) = true then Oper.wp P o a w K' Q else K' (a.put o.dst undef) w)
  (hs : AllReadyU P md ops Q S late fuel listed a w rs) : AllReadyU P md ops Q S late fuel listed a w (i :: rs) := fun j hj => by
 rcases List.mem_cons.1 hj with rfl | hj
 ·exact wpOp_step ho (fun K' hK => h K' (fun a w hS hW => hK a w ⟨hS, hW⟩))
 ·exact hs j hj
theorem wpAnyU_ready {rs : List Nat} {fuel : Nat} {listed : Array Bool} {a : Act} {w : World} (hr : Region.ready md ops listed = rs) (hne : rs ≠ [])
  (h : AllReadyU P md ops Q S late fuel listed a w rs) : wpAnyU P md ops Q S late (fuel + 1) listed a w := ⟨fun h0 => absurd (hr ▸ h0) hne, hr ▸ h⟩
theorem wpAnyU_done {listed : Array Bool} {a : Act} {w : World} (hr : Region.ready md ops listed = []) (h : Q .normal a w) :
  ∀ fuel, wpAnyU P md ops Q S late fuel listed a w
 | 0 => ⟨hr, h⟩
 | _ + 1 => ⟨fun _ => h, by rw [hr]; simp⟩
theorem wp_region_until (late : Nat) {id : Nat} {a : Act} {w : World} (hm : P.follows .mixedOrders = true)
  (h : wpAnyU P .any ops Q S late ops.size (Array.replicate ops.size false) a w.drew) : (Code.region id ops true).wp P Q a w :=
 wp_region_any hm (wpAny_of_until _ _ _ _ h)
end
section
variable {P : Program} {Q : Exit → Act → World → Prop} {md : Region.Mode} {late : Nat}
theorem wpAnyU_run0F {S : World → Prop} {l : List Oper} (m : List Bool) (fuel : Nat) {F : Nat} {listed : Array Bool} {a : Act} {w : World} (hf : fuel + countB m = F) (hs : Region.noSelect l.toArray = true) (hQ : ∀ c a a' w, Q (.panic c) a w → Q (.panic c) a' w)
  (hB : runF md l.toArray late m 0 listed = true) (hS : S w) (h : wpQuiet P l.toArray (fun w' => ∃ x : Held (fun _ => True), w' = x.far) (fun a' => wpAnyU P md l.toArray Q S late fuel (setB m 0 listed) a' w) (runOps m l) a) : wpAnyU P md l.toArray Q S late F listed a w := by
 subst hf
 exact wpAnyU_runF (T := fun w' => ∃ x : Held (fun _ => True), w' = x.far) (fun w => ⟨⟨w, trivial⟩, rfl⟩) hs hQ m l 0 fuel listed a w (fun j => by simp) hB (fun _ => hS) h
theorem wpAnyU_run0 {H : World → Prop} {l : List Oper} (m : List Bool) (fuel : Nat) {F : Nat} {listed : Array Bool} {a : Act} {w : World} (hf : fuel + countB m = F) (hs : Region.noSelect l.toArray = true) (hQ : ∀ c a a' w, Q (.panic c) a w → Q (.panic c) a' w)
  (hB : runU md l.toArray late m 0 listed = true) (hS : HeldS H w) (h : wpQuiet P l.toArray (fun w' => ∃ x : Held H, w' = x.far) (fun a' => wpAnyU P md l.toArray Q (HeldS H) late fuel (setB m 0 listed) a' w) (runOps m l) a) : wpAnyU P md l.toArray Q (HeldS H) late F listed a w := by
 subst hf
 exact wpAnyU_run hs hQ m l 0 fuel listed a w (fun j => by simp) hB hS h
theorem runV {S : World → Prop} {l : List Oper} (m : List Nat) (fuel : Nat) {F : Nat} {listed : Array Bool} {a : Act} {w : World} (hS : S w) (h : wpQuiet P l.toArray (fun w' => ∃ x : Held (fun _ => True), w' = x.far) (fun a' => wpAnyU P md l.toArray Q S late fuel (setB (runL m true) 0 listed) a' w) (runOps (runL m true) l) a)
  (hf : fuel + countB (runL m true) = F := by kernel_rfl) (hs : Region.noSelect l.toArray = true := by kernel_rfl) (hQ : ∀ c a a' w, Q (.panic c) a w → Q (.panic c) a' w := by exact fun _ _ _ _ h => h) (hB : runF md l.toArray late (runL m true) 0 listed = true := by kernel_rfl) : wpAnyU P md l.toArray Q S late F listed a w := wpAnyU_run0F _ fuel hf hs hQ hB hS h
theorem runW {H : World → Prop} {l : List Oper} (m : List Nat) (fuel : Nat) {F : Nat} {listed : Array Bool} {a : Act} {w : World} (hS : HeldS H w) (h : wpQuiet P l.toArray (fun w' => ∃ x : Held H, w' = x.far) (fun a' => wpAnyU P md l.toArray Q (HeldS H) late fuel (setB (runL m true) 0 listed) a' w) (runOps (runL m true) l) a)
  (hf : fuel + countB (runL m true) = F := by kernel_rfl) (hs : Region.noSelect l.toArray = true := by kernel_rfl) (hQ : ∀ c a a' w, Q (.panic c) a w → Q (.panic c) a' w := by exact fun _ _ _ _ h => h) (hB : runU md l.toArray late (runL m true) 0 listed = true := by kernel_rfl) : wpAnyU P md l.toArray Q (HeldS H) late F listed a w := wpAnyU_run0 _ fuel hf hs hQ hB hS h
theorem readyU {ops : Array Oper} {S : World → Prop} (i : Nat) {fuel : Nat} {listed : Array Bool} {a : Act} {w : World} {o : Oper}
  (h : ∀ K' : Act → World → Prop, Shut (∀ a w, (noLate late (listed.setIfInBounds i true) = true → S w) → wpAnyU P md ops Q S late fuel (listed.setIfInBounds i true) a w → K' a w) → if Region.wanted o (yielded ops a.tmps) = true then Oper.wp P o a w K' Q else K' (a.put o.dst undef) w)
  (ho : ops[i]? = some o := by rfl) (hr : Region.ready md ops listed = [i] := by kernel_rfl) : wpAnyU P md ops Q S late (fuel + 1) listed a w := wpAnyU_ready hr (by simp) (.cons ho h .nil)
theorem doneU {ops : Array Oper} {S : World → Prop} {fuel : Nat} {listed : Array Bool} {a : Act} {w : World} (h : Q .normal a w) (hr : Region.ready md ops listed = [] := by kernel_rfl) : wpAnyU P md ops (NoPanic Q) S late fuel listed a w := wpAnyU_done hr (NoPanic.normal h) _
end
end Go.Proofs.YtlbnlmhcpephbaaGreatDoor

namespace Go.Shelf
end Go.Shelf
namespace Go.Proofs
open Go.Shelf
def Tryz.lays134_ren : Go.Shelf.Ren := ⟨fun | 134 => 140 | 129 => 146 | n => n, fun | 53 => 23 | 3 => 3 | 4 => 4 | 46 => 73 | 5 => 5 | 9 => 9 | n => n, fun | n => n⟩
theorem Tryz.lays134 : Go.Proofs.Lays.n134 Tryz.prog Tryz.lays134_ren := {
 mixed := by kernel_rfl
 f129 := Tryz.func146.trans (congrArg some (by kernel_rfl))
 f134 := Tryz.func140.trans (congrArg some (by kernel_rfl))
 t3 := Tryz.underlying3
 a3 := Tryz.isAgg3
 z3 := Tryz.sizeOf3
 v3 := Tryz.zeroValue3
 t4 := Tryz.underlying4
 a4 := Tryz.isAgg4
 z4 := Tryz.sizeOf4
 v4 := Tryz.zeroValue4
 t5 := Tryz.underlying5
 a5 := Tryz.isAgg5
 z5 := Tryz.sizeOf5
 v5 := Tryz.zeroValue5
 t9 := Tryz.underlying9
 a9 := Tryz.isAgg9
 z9 := Tryz.sizeOf9
 v9 := Tryz.zeroValue9
 t46 := Tryz.underlying73
 a46 := Tryz.isAgg73
 z46 := Tryz.sizeOf73
 v46 := Tryz.zeroValue73
 t53 := Tryz.underlying23
 a53 := Tryz.isAgg23
 z53 := Tryz.sizeOf23
 v53 := Tryz.zeroValue23 }
theorem Tryz.bits_LeadingZeros64 (x : Int) (w : World) (h0 : 0 ≤ x) (h1 : x ≤ 18446744073709551615) :
  Calls Tryz.prog 140 #[.int .u64 x] w fun e w' => e = .returned (.int .i64 (64 - (Lib.bitLen x.toNat : Int))) ∧ w' = w := Any.bits_LeadingZeros64 Tryz.lays134 x w h0 h1
def Tryz.lays129_ren : Go.Shelf.Ren := ⟨fun | 129 => 146 | n => n, fun | 53 => 23 | 3 => 3 | 4 => 4 | 46 => 73 | 5 => 5 | 9 => 9 | n => n, fun | n => n⟩
theorem Tryz.lays129 : Go.Proofs.Lays.n129 Tryz.prog Tryz.lays129_ren := {
 mixed := by kernel_rfl
 f129 := Tryz.func146.trans (congrArg some (by kernel_rfl))
 t3 := Tryz.underlying3
 a3 := Tryz.isAgg3
 z3 := Tryz.sizeOf3
 v3 := Tryz.zeroValue3
 t4 := Tryz.underlying4
 a4 := Tryz.isAgg4
 z4 := Tryz.sizeOf4
 v4 := Tryz.zeroValue4
 t5 := Tryz.underlying5
 a5 := Tryz.isAgg5
 z5 := Tryz.sizeOf5
 v5 := Tryz.zeroValue5
 t9 := Tryz.underlying9
 a9 := Tryz.isAgg9
 z9 := Tryz.sizeOf9
 v9 := Tryz.zeroValue9
 t46 := Tryz.underlying73
 a46 := Tryz.isAgg73
 z46 := Tryz.sizeOf73
 v46 := Tryz.zeroValue73
 t53 := Tryz.underlying23
 a53 := Tryz.isAgg23
 z53 := Tryz.sizeOf23
 v53 := Tryz.zeroValue23 }
theorem Tryz.bits_Len64 (x : Int) (w : World) (h0 : 0 ≤ x) (h1 : x ≤ 18446744073709551615) :
  Calls Tryz.prog 146 #[.int .u64 x] w fun e w' => e = .returned (.int .i64 (Lib.bitLen x.toNat)) ∧ w' = w := Any.bits_Len64 Tryz.lays129 x w h0 h1
def Tryz.lays264_ren : Go.Shelf.Ren := ⟨fun | 264 => 130 | n => n, fun | 53 => 23 | 46 => 73 | n => n, fun | n => n⟩
theorem Tryz.lays264 : Go.Proofs.Lays.n264 Tryz.prog Tryz.lays264_ren := {
 mixed := by kernel_rfl
 f264 := Tryz.func130.trans (congrArg some (by kernel_rfl))
 t46 := Tryz.underlying73
 a46 := Tryz.isAgg73
 z46 := Tryz.sizeOf73
 v46 := Tryz.zeroValue73
 t53 := Tryz.underlying23
 a53 := Tryz.isAgg23
 z53 := Tryz.sizeOf23
 v53 := Tryz.zeroValue23 }
open Go.RowKit Go.Lib in
theorem Tryz.bits_Mul64 (x y : Nat) (hx : x < 18446744073709551616) (hy : y < 18446744073709551616) (w : World) :
  Calls Tryz.prog 130 #[.int .u64 x, .int .u64 y] w fun e w' => e = .returned (.tuple #[.int .u64 ((x * y / 18446744073709551616 : Nat) : Int), .int .u64 ((x * y % 18446744073709551616 : Nat) : Int)]) ∧ w' = w := Any.bits_Mul64 Tryz.lays264 x y hx hy w
def Tryz.lays25_ren : Go.Shelf.Ren := ⟨fun | 25 => 192 | n => n, fun | 22 => 23 | n => n, fun | n => n⟩
theorem Tryz.lays25 : Go.Proofs.Lays7.n25 Tryz.prog Tryz.lays25_ren := {
 mixed := by kernel_rfl
 f25 := Tryz.func192.trans (congrArg some (by kernel_rfl))
 t22 := Tryz.underlying23
 a22 := Tryz.isAgg23
 z22 := Tryz.sizeOf23
 v22 := Tryz.zeroValue23
 i22 := by kernel_rfl }
theorem Tryz.bits_Add64 (x y c : Nat) (hc : c ≤ 1) (w : World) :
  (callFunc 192 #[.int .u64 x, .int .u64 y, .int .u64 c]).run Tryz.prog w = .ok (.value (.tuple #[.int .u64 (((x + y + c) % 18446744073709551616 : Nat) : Int), .int .u64 (((x + y + c) / 18446744073709551616 : Nat) : Int)])) w :=
 Any7.bits_Add64 Tryz.lays25 x y c hc w
theorem Tryz.add64_int (x y c : Int) (hx : 0 ≤ x) (hy : 0 ≤ y) (hc : 0 ≤ c) (hc1 : c ≤ 1) (w : World) :
  (callFunc 192 #[.int .u64 x, .int .u64 y, .int .u64 c]).run Tryz.prog w = .ok (.value (.tuple #[.int .u64 ((x + y + c) % 18446744073709551616), .int .u64 ((x + y + c) / 18446744073709551616)])) w := by
 obtain ⟨x, rfl⟩ := Int.eq_ofNat_of_zero_le hx
 obtain ⟨y, rfl⟩ := Int.eq_ofNat_of_zero_le hy
 obtain ⟨c, rfl⟩ := Int.eq_ofNat_of_zero_le hc
 rw [Tryz.bits_Add64 x y c (by omega) w]
 simp
end Go.Proofs

namespace Go.Proofs.YtlbnlmhcpephbaaGreatDoor
def kN (g m : Nat) : Nat := Nat.log2 m - g
def qN (g m : Nat) : Nat := m / 2 ^ kN g m
def idxN (g m : Nat) : Nat := kN g m * 2 ^ g + qN g m
def loN (g m : Nat) : Nat := qN g m * 2 ^ kN g m
def hiN (g m : Nat) : Nat := min (loN g m + (2 ^ kN g m - 1)) 9223372036854775808
section
variable {g m a b : Nat}
theorem hpos (g : Nat) : 0 < 2 ^ g := Nat.pow_pos (by omega)
def kI (g i : Nat) : Nat := i / 2 ^ g - 1
def qI (g i : Nat) : Nat := i - kI g i * 2 ^ g
end
end Go.Proofs.YtlbnlmhcpephbaaGreatDoor

namespace Go.Proofs.YtlbnlmhcpephbaaGreatDoor
open Go.ChangeShapes Go.WideShapes Go.ChangeAt Go.RowKit Go.Deep
def Rd (w : World) (A : Option Addr) (cs : List Value) : Prop := ∀ j u, cs[j]? = some u → ∃ g o, A = some ⟨g, o, none⟩ ∧ g < w.heap.size ∧ w.cell? ⟨g, o + j, none⟩ = some u
theorem Rd.below {w w' : World} {A : Option Addr} {cs : List Value} (h : Rd w A cs) (hb : Below w.heap.size w w') : Rd w' A cs := fun j u hj => by
 obtain ⟨g, o, e, hg, hc⟩ := h j u hj
 exact ⟨g, o, e, Nat.lt_of_lt_of_le hg hb.size, cellB hb hg hc⟩
theorem Rd.nil (w : World) (A : Option Addr) : Rd w A [] := fun j u h => by simp at h
theorem list_choose {α : Type} {P : Nat → α → Prop} : ∀ n : Nat, (∀ i, i < n → ∃ x, P i x) → ∃ xs : List α, xs.length = n ∧ ∀ i (h : i < xs.length), P i (xs[i]) := by
  intro n
  induction n with
  | zero => intro _; exact ⟨[], rfl, fun i h => by simp at h⟩
  | succ n ih =>
    intro h
    obtain ⟨xs, hl, hx⟩ := ih fun i hi => h i (by omega)
    obtain ⟨x, hp⟩ := h n (by omega)
    refine ⟨xs ++ [x], by simp [hl], fun i hi => ?_⟩
    by_cases hin : i < xs.length
    · rw [List.getElem_append_left hin]; exact hx i hin
    · have : i = n := by simp at hi; omega
      subst this
      rw [List.getElem_append_right (by omega)]
      simpa [hl] using hp
theorem rd_cell {w : World} {a : Addr} {j : Nat} {u : Value} (hs : a.spot = none) (h : w.cell? (a.add j) = some u) : ∃ g o, some a = some ⟨g, o, none⟩ ∧ g < w.heap.size ∧ w.cell? ⟨g, o + j, none⟩ = some u := by
 obtain ⟨g, o, s⟩ := a
 obtain rfl : s = none := hs
 rw [Addr.add_lit] at h
 exact ⟨g, o, rfl, World.block_lt_of_cell? w _ h, h⟩
section
variable {H : Type} {enc : TypeId × Value → H} {P : Program} {w : World}
theorem open_ints_rd {t e : TypeId} {k : IntKind} {a0 : Option Addr} {len cap : Nat} {d : DataW H} {p : List MemPlace} (ht : P.underlying t = some (.slice e)) (he : P.underlying e = some (.int k)) (hc : P.cellsOf e = 1)
  (h : DataW.Trod enc P w 0 (fun _ => true) true t (.slice a0 len cap) d p) :
  ∃ xs : List Int, xs.length = len ∧ Rd w a0 (xs.map (Value.int k)) ∧ (∀ x ∈ xs, (Lit.int k x).wf = true) ∧ len ≤ 9223372036854775807 := by
 obtain ⟨fuel, hf⟩ := h
 rcases open_ints ht he hc hf with ⟨hcs, _⟩ | ⟨a, len', cap', zs, hcs, _, hl, hm, hz, _, hcell, hwz⟩
 ·simp [Value.cells] at hcs
  obtain ⟨rfl, rfl, rfl⟩ := hcs
  exact ⟨[], rfl, Rd.nil _ _, by simp, by omega⟩
 ·simp [Value.cells] at hcs
  obtain ⟨rfl, rfl, rfl⟩ := hcs
  simp only [if_true] at hz
  unfold maxLen at hm
  refine ⟨zs.take len, by simp; omega, fun j u hj => ?_, fun x hx => hwz x (List.mem_of_mem_take hx), by omega⟩
  have hjl : j < len := by
   have := (List.getElem?_eq_some_iff.1 hj).1
   simp at this; omega
  have hc := hcell j (by omega)
  have hs : a.spot = none := by simpa [Addr.add] using World.cell?_spot (hcell 0 (by omega))
  have : u = .int k (zs.getD j 0) := by
   rw [List.getElem?_map, List.getElem?_take, if_pos hjl] at hj
   rw [List.getD_eq_getElem?_getD]
   have hjz : j < zs.length := by omega
   rw [List.getElem?_eq_getElem hjz] at hj ⊢
   simpa using hj.symm
  rw [this]
  exact rd_cell hs hc
theorem open_fields {t e : TypeId} {fs : Array Field} {a0 : Option Addr} {len cap : Nat} {d : DataW H} {p : List MemPlace} (ht : P.underlying t = some (.slice e)) (he : P.underlying e = some (.struct fs))
  (hone : oneCellFields P fs = true) (hC : P.cellsOf e = fs.size) (h : DataW.Trod enc P w 0 (fun _ => true) true t (.slice a0 len cap) d p) :
  len ≤ 9223372036854775807 ∧ ∀ i, i < len → ∃ n : Nat, ∀ (j : Nat) (f : Field), fs[j]? = some f → ∃ (v : Value) (y : DataW H × List MemPlace),
   (∃ g o, a0 = some ⟨g, o, none⟩ ∧ g < w.heap.size ∧ w.cell? ⟨g, o + (i * fs.size + j), none⟩ = some v) ∧ DataW.trod enc P w 0 (fun _ => true) true n f.type [v] = some y := by
 obtain ⟨fuel, hf⟩ := h
 rcases open_slice ht hf with ⟨hcs, _⟩ | ⟨a, len', cap', m, n, D, Pl, hcs, _, hl, hm, hmm, _, hi⟩
 ·simp [Value.cells] at hcs
  obtain ⟨rfl, rfl, rfl⟩ := hcs
  exact ⟨by omega, fun i h => by omega⟩
 ·simp [Value.cells] at hcs
  obtain ⟨rfl, rfl, rfl⟩ := hcs
  simp only [if_true] at hmm
  unfold maxLen at hm
  refine ⟨by omega, fun i him => ?_⟩
  have hall : ∀ i, i < len → ∃ n : Nat, ∀ (j : Nat) (f : Field), fs[j]? = some f → ∃ (v : Value) (y : DataW H × List MemPlace), w.cell? (a.add (i * fs.size + j)) = some v ∧ DataW.trod enc P w 0 (fun _ => true) true n f.type [v] = some y := by
   intro i him
   obtain ⟨cs', hc, ht'⟩ := hi i (by omega)
   rw [hC] at hc
   obtain ⟨ys, n', hn', hy, hlen, hyl, hf⟩ := DataW.trod_struct he ht'
   obtain ⟨_, hcl, hat⟩ := World.cells?_some hc
   refine ⟨n', fun j f hj => ?_⟩
   obtain ⟨ho, hk⟩ := hone_of hone j f hj
   have hjl : j < fs.size := (Array.getElem?_eq_some_iff.1 hj).1
   have hcell := hat j hjl
   have hv : cs'[j]? = some (cs'[j]'(by omega)) := List.getElem?_eq_getElem (by omega)
   have h1 := hf j f hj
   rw [ho, hk] at h1
   have hone' : (cs'.drop j).take 1 = [cs'[j]'(by omega)] := by
    rw [List.drop_eq_getElem_cons (by omega)]
    rfl
   rw [hone'] at h1
   have hys : ys[j]? = some (ys[j]'(by omega)) := List.getElem?_eq_getElem (by omega)
   refine ⟨_, _, ?_, h1.trans hys⟩
   rw [← Go.Deep.add_add, hcell, hv]
  by_cases hfs : fs.size = 0
  ·exact ⟨0, fun j f hj => by have := (Array.getElem?_eq_some_iff.1 hj).1; omega⟩
  ·have hs : a.spot = none := by
    obtain ⟨n0, h0⟩ := hall 0 (by omega)
    obtain ⟨v, y, hc, _⟩ := h0 0 (fs[0]'(by omega)) (Array.getElem?_eq_getElem (by omega))
    simpa [Addr.add] using World.cell?_spot hc
   obtain ⟨n, hn⟩ := hall i him
   refine ⟨n, fun j f hj => ?_⟩
   obtain ⟨v, y, hc, ht⟩ := hn j f hj
   exact ⟨v, y, rd_cell hs hc, ht⟩
theorem flat2 {α : Type} {f g : α → Value} (xs : List α) (j : Nat) (h : j < xs.length) : (xs.flatMap fun x => [f x, g x])[j * 2]? = some (f xs[j]) ∧ (xs.flatMap fun x => [f x, g x])[j * 2 + 1]? = some (g xs[j]) := by
  induction xs generalizing j with
  | nil => simp at h
  | cons x xs ih =>
    cases j with
    | zero => simp
    | succ j =>
      obtain ⟨h1, h2⟩ := ih j (by simpa using h)
      simp only [List.flatMap_cons, List.getElem_cons_succ]
      rw [show (j + 1) * 2 = j * 2 + 1 + 1 by omega]
      simp [h1, h2]
theorem flat2_len {α : Type} {f g : α → Value} (xs : List α) : (xs.flatMap fun x => [f x, g x]).length = xs.length * 2 := by
 induction xs with
 | nil => rfl
 | cons x xs ih => simp [List.flatMap_cons, ih]; omega
theorem flat3 {α : Type} {f g k : α → Value} (xs : List α) (j : Nat) (h : j < xs.length) : (xs.flatMap fun x => [f x, g x, k x])[j * 3]? = some (f xs[j]) ∧ (xs.flatMap fun x => [f x, g x, k x])[j * 3 + 1]? = some (g xs[j]) ∧ (xs.flatMap fun x => [f x, g x, k x])[j * 3 + 2]? = some (k xs[j]) := by
  induction xs generalizing j with
  | nil => simp at h
  | cons x xs ih =>
    cases j with
    | zero => simp
    | succ j =>
      obtain ⟨h1, h2, h3⟩ := ih j (by simpa using h)
      simp only [List.flatMap_cons, List.getElem_cons_succ]
      rw [show (j + 1) * 3 = j * 3 + 1 + 1 + 1 by omega]
      simp [h1, h2, h3]
theorem open_two_rd {t e : TypeId} {f0 f1 : Field} {k0 k1 : IntKind} {a0 : Option Addr} {len cap : Nat} {d : DataW H} {p : List MemPlace} (ht : P.underlying t = some (.slice e)) (he : P.underlying e = some (.struct #[f0, f1]))
  (hone : oneCellFields P #[f0, f1] = true) (hC : P.cellsOf e = 2) (h0 : P.underlying f0.type = some (.int k0)) (h1 : P.underlying f1.type = some (.int k1)) (h : DataW.Trod enc P w 0 (fun _ => true) true t (.slice a0 len cap) d p) :
  ∃ xs : List (Int × Int), xs.length = len ∧ Rd w a0 (xs.flatMap fun x => [.int k0 x.1, .int k1 x.2]) ∧ (∀ x ∈ xs, (Lit.int k0 x.1).wf = true ∧ (Lit.int k1 x.2).wf = true) ∧ len ≤ 9223372036854775807 := by
 obtain ⟨hl, hi⟩ := open_fields ht he hone hC h
 obtain ⟨xs, hxl, hx⟩ := list_choose (P := fun i (x : Int × Int) => ((Lit.int k0 x.1).wf = true ∧ (Lit.int k1 x.2).wf = true) ∧
   (∃ g o, a0 = some ⟨g, o, none⟩ ∧ g < w.heap.size ∧ w.cell? ⟨g, o + i * 2, none⟩ = some (.int k0 x.1)) ∧ (∃ g o, a0 = some ⟨g, o, none⟩ ∧ g < w.heap.size ∧ w.cell? ⟨g, o + (i * 2 + 1), none⟩ = some (.int k1 x.2))) len (fun i him => by
  obtain ⟨n, hn⟩ := hi i him
  obtain ⟨v0, y0, c0, t0⟩ := hn 0 f0 rfl
  obtain ⟨v1, y1, c1, t1⟩ := hn 1 f1 rfl
  obtain ⟨x0, e0, _, w0⟩ := DataW.trod_int h0 t0
  obtain ⟨x1, e1, _, w1⟩ := DataW.trod_int h1 t1
  simp only [List.cons.injEq, and_true] at e0 e1
  subst e0 e1
  exact ⟨(x0, x1), ⟨w0, w1⟩, c0, c1⟩)
 refine ⟨xs, hxl, fun j u hj => ?_, fun x hx' => ?_, hl⟩
 ·have hjl := (List.getElem?_eq_some_iff.1 hj).1
  rw [flat2_len] at hjl
  obtain ⟨i, hij⟩ : ∃ i, i = j / 2 := ⟨_, rfl⟩
  obtain ⟨_, p0, p1⟩ := hx i (by omega)
  obtain ⟨q0, q1⟩ := flat2 (f := fun x : Int × Int => Value.int k0 x.1) (g := fun x => Value.int k1 x.2) xs i (by omega)
  rcases (show j = i * 2 ∨ j = i * 2 + 1 by omega) with rfl | rfl
  ·rw [q0] at hj
   obtain rfl := Option.some.inj hj
   exact p0
  ·rw [q1] at hj
   obtain rfl := Option.some.inj hj
   exact p1
 ·obtain ⟨i, hil, rfl⟩ := List.getElem_of_mem hx'
  exact (hx i hil).1
theorem trodAll_below {W W' : World} (hl : laidOutB P = true) (hb : Below W.heap.size W W') : ∀ {ts : List TypeId} {vs : List Value} {ds : List (DataW H)} {p : List MemPlace}, (∀ t ∈ ts, P.readableRec t = true ∧ t < P.types.size) →
    DataW.TrodAll enc P W 0 (fun _ => true) true ts vs ds p → DataW.TrodAll enc P W' 0 (fun b => decide (b < W.heap.size)) true ts vs ds p := by
  intro ts
  induction ts with
  | nil =>
    intro vs ds p _ h
    obtain ⟨rfl, rfl, rfl⟩ := trodAll_nil h
    exact trodAll_mk0
  | cons t ts ih =>
    intro vs ds p hts h
    obtain ⟨v, vs', d, ds', p0, q0, rfl, rfl, rfl, h0, r0⟩ := trodAll_cons h
    have lt0 : ∀ x ∈ p0, x.block < W.heap.size := by obtain ⟨m, hm⟩ := h0; exact DataW.trod_lt m _ _ _ hm
    exact trodAll_cons_mk (Below.trod hl (hts t (by simp)).1 (hts t (by simp)).2 h0 hb lt0) (ih (fun t' h' => hts t' (by simp [h'])) r0)
end
theorem wf_u64 {x : Int} (h : (Lit.int .u64 x).wf = true) : 0 ≤ x ∧ x < 18446744073709551616 := by
 simp only [Lit.wf, Bool.and_eq_true, decide_eq_true_eq] at h
 have h1 : IntKind.u64.min = 0 := rfl
 have h2 : IntKind.u64.max = 18446744073709551615 := rfl
 omega
theorem wf_i64 {x : Int} (h : (Lit.int .i64 x).wf = true) : -9223372036854775808 ≤ x ∧ x ≤ 9223372036854775807 := by
 simp only [Lit.wf, Bool.and_eq_true, decide_eq_true_eq] at h
 have h1 : IntKind.i64.min = -9223372036854775808 := rfl
 have h2 : IntKind.i64.max = 9223372036854775807 := rfl
 omega
theorem own : ownKnob Tryz.prog.godebug = none := by kernel_rfl
theorem laidOut : laidOutB Tryz.prog = true := by kernel_rfl
end Go.Proofs.YtlbnlmhcpephbaaGreatDoor
