/- A region that draws its order, walked once in the order of the text, where callees may make new memory above. -/
import Derived.Test.YtondkkhagbcadaaGreatProg
import Derived.Test.YtondkkhagbcadaaGreatBase
import Derived.BigQuiet
import Derived.Deep.RegionHeld
import Derived.Deep.RegionHeld3
namespace Go.Proofs.YtondkkhagbcadaaGreat
open Go.RowKit

/-- A world that reads as w does below w's height. -/
structure Far (w : World) where
  far : World
  below : Below w.heap.size w far

instance Far.some (w : World) : Nonempty (Far w) := ⟨⟨w, Below.refl _ _⟩⟩

theorem Far.cell {w : World} (x : Far w) {b o : Nat} {v : Option Value} (hb : b < w.heap.size) (h : w.cell? ⟨b, o, none⟩ = v) : x.far.cell? ⟨b, o, none⟩ = v := cellB x.below hb h
theorem Far.at {w : World} (x : Far w) {b : Nat} {cs : Array Value} {T : TypeId} (h : At w b cs T) : At x.far b cs T := h.below x.below

theorem wp_region_far {P : Program} {id : Nat} {Q : Exit → Act → World → Prop} {a : Act} {w : World} {l : List Oper} (hm : P.follows .mixedOrders = true) (hB : Region.lexB .any l.toArray = true)
    (h : wpQuiet P l.toArray (fun w' => ∃ x : Far w, w' = x.far) (fun a' => ∀ w', (∃ x : Far w, w' = x.far) → Q .normal a' w') l a) : (Code.region id l.toArray true).wp P Q a w :=
  wp_region_quiet (C := fun w' => ∃ x : Far w, w' = x.far) hm hB ⟨⟨w.drewN 1, (Below.refl _ _).drewN 1⟩, rfl⟩ (by simpa using h)

theorem far_of {P : Program} {f : FuncId} {args : Array Value} {w : World} {x : Far w} {v : Value}
    (h : Calls P f args x.far fun e w' => e = .returned v ∧ Below x.far.heap.size x.far w') : Calls P f args x.far fun e w'' => e = .returned v ∧ ∃ y : Far w, w'' = y.far :=
  h.mono fun _ w' ⟨he, hB⟩ => ⟨he, ⟨w', keep1 x.below hB⟩, rfl⟩
theorem far_of_same {P : Program} {f : FuncId} {args : Array Value} {w : World} {x : Far w} {v : Value}
    (h : Calls P f args x.far fun e w' => e = .returned v ∧ w' = x.far) : Calls P f args x.far fun e w'' => e = .returned v ∧ ∃ y : Far w, w'' = y.far :=
  h.mono fun _ _ ⟨he, hB⟩ => ⟨he, x, hB⟩
end Go.Proofs.YtondkkhagbcadaaGreat
/- A region that draws its order, in steps: runs of operations that only read, calls one by one, and a quiet end. No program in sight. -/
namespace Go.Proofs.YtondkkhagbcadaaGreat
open Go.RowKit

section
variable {P : Program} {ops : Array Oper} {Q : Exit → Act → World → Prop} {md : Region.Mode} {S : World → Prop}

/-- An operation that only reads: it yields a value. -/
def noCall (o : Oper) : Bool := match o.op with
  | .move _ | .assign _ | .pick .. | .load .. | .binOp .. | .unOp .. | .convert .. | .fieldAddr .. | .field .. | .indexAddr .. | .index .. | .extract .. | .slice .. | .build .. | .nilCheck _ => true
  | .call c => match c.callee with
    | .builtin .len => true
    | _ => false
  | _ => false

theorem bind_value {s : Sem Value} {w w' : World} {n : Next} (h : (do pure (Next.value (← s)) : Sem Next).run P w = .ok n w') : ∃ u, n = .value u := by
  rw [Sem.run_bind] at h
  generalize s.run P w = r at h
  cases r with
  | ok u w1 => simp only [Result.andThen, Sem.run_pure] at h; injection h with h1 h2; exact ⟨u, h1.symm⟩
  | halt x w1 => simp only [Result.andThen] at h; cases h

theorem run_bind_ok {α β : Type} {s : Sem α} {f : α → Sem β} {w w' : World} {n : β} (h : (s >>= f).run P w = .ok n w') : ∃ u w1, s.run P w = .ok u w1 ∧ (f u).run P w1 = .ok n w' := by
  rw [Sem.run_bind] at h
  generalize s.run P w = r at h
  cases r with
  | ok u w1 => exact ⟨u, w1, rfl, h⟩
  | halt x w1 => simp only [Result.andThen] at h; cases h
theorem noCall_value {o : Oper} {a : Act} {w w' : World} {n : Next} (hn : noCall o = true) (h : (execOp a.eval o).run P w = .ok n w') : ∃ u, n = .value u := by
  obtain ⟨d, op, t, pos, af, gd⟩ := o
  unfold noCall at hn
  unfold execOp at h
  cases op <;> simp only [Bool.false_eq_true] at hn <;> dsimp only at h
  case call c =>
    obtain ⟨callee, args, ts⟩ := c
    cases callee <;> simp only [Bool.false_eq_true] at hn
    rename_i bi
    cases bi <;> simp only [Bool.false_eq_true] at hn
    exact bind_value h
  all_goals first
    | exact bind_value h
    | (rw [Sem.run_pure] at h; injection h with h1 h2; exact ⟨_, h1.symm⟩)
    | (split at h <;> first
        | (rw [Sem.run_pure] at h; injection h with h1 h2; exact ⟨_, h1.symm⟩)
        | (simp [runtimePanic, Sem.run] at h; done)
        | (split at h <;> first
            | (rw [Sem.run_pure] at h; injection h with h1 h2; exact ⟨_, h1.symm⟩)
            | (simp [runtimePanic, Sem.run] at h; done)
            | (obtain ⟨_, _, _, h⟩ := run_bind_ok h
               obtain ⟨_, _, _, h⟩ := run_bind_ok h
               split at h
               · obtain ⟨_, _, _, h⟩ := run_bind_ok h
                 rw [Sem.run_pure] at h; injection h with h1 h2; exact ⟨_, h1.symm⟩
               · rw [Sem.run_pure] at h; injection h with h1 h2; exact ⟨_, h1.symm⟩)))
    | (rw [Sem.run_bind] at h
       generalize (asBool _).run P w = r at h
       cases r with
       | ok u w1 => simp only [Result.andThen, Sem.run_pure] at h; injection h with h1 h2; exact ⟨_, h1.symm⟩
       | halt x w1 => simp only [Result.andThen] at h; cases h)

def runOps : List Bool → List Oper → List Oper
  | true :: m, o :: l => o :: runOps m l
  | false :: m, _ :: l => runOps m l
  | _, _ => []
theorem runOps_true (m : List Bool) (o : Oper) (l : List Oper) : runOps (true :: m) (o :: l) = o :: runOps m l := rfl
theorem runOps_false (m : List Bool) (o : Oper) (l : List Oper) : runOps (false :: m) (o :: l) = runOps m l := rfl
theorem runOps_nil (l : List Oper) : runOps [] l = [] := by cases l <;> rfl

def setB : List Bool → Nat → Array Bool → Array Bool
  | [], _, listed => listed
  | true :: m, k, listed => setB m (k + 1) (listed.setIfInBounds k true)
  | false :: m, k, listed => setB m (k + 1) listed
def countB : List Bool → Nat
  | [] => 0
  | true :: m => countB m + 1
  | false :: m => countB m
def runB (md : Region.Mode) (ops : Array Oper) : List Bool → Nat → Array Bool → Bool
  | [], _, _ => true
  | false :: m, k, listed => runB md ops m (k + 1) listed
  | true :: m, k, listed => (Region.ready md ops listed).contains k && Region.free md ops listed k && (match ops[k]? with | some o => noCall o | none => false) && runB md ops m (k + 1) (listed.setIfInBounds k true)

/-- A run of operations that only read, in any order that the region leaves open: taken first. -/
theorem wpAnyH_run (hs : Region.noSelect ops = true) (hQ : ∀ c a a' w, Q (.panic c) a w → Q (.panic c) a' w) : ∀ (m : List Bool) (l : List Oper) (k fuel : Nat) (listed : Array Bool) (a : Act) (w : World), (∀ j, l[j]? = ops[k + j]?) →
    runB md ops m k listed = true → S w → wpQuiet P ops S (fun a' => wpAnyH P md ops Q S fuel (setB m k listed) a' w) (runOps m l) a → wpAnyH P md ops Q S (fuel + countB m) listed a w
  | [], l, k, fuel, listed, a, w, hl, hB, hS, h => by rw [runOps_nil] at h; exact h
  | false :: m, [], k, fuel, listed, a, w, hl, hB, hS, h => by
    have : ∀ (m : List Bool) (k : Nat) (listed : Array Bool), (∀ j, k ≤ j → ops[j]? = none) → runB md ops m k listed = true → setB m k listed = listed ∧ countB m = 0 := by
      intro m
      induction m with
      | nil => intro k listed _ _; exact ⟨rfl, rfl⟩
      | cons t m ih =>
        intro k listed hn hb
        cases t with
        | false => exact ih (k + 1) listed (fun j hj => hn j (by omega)) hb
        | true => simp [runB, hn k (Nat.le_refl _)] at hb
    obtain ⟨e1, e2⟩ := this (false :: m) k listed (fun j hj => by have := hl (j - k); rw [show k + (j - k) = j by omega] at this; rw [← this]; rfl) hB
    rw [e2]
    rw [e1] at h
    exact h
  | false :: m, o :: l, k, fuel, listed, a, w, hl, hB, hS, h =>
    wpAnyH_run hs hQ m l (k + 1) fuel listed a w (fun j => by have := hl (j + 1); simpa [Nat.add_assoc, Nat.add_comm 1 j] using this) hB hS h
  | true :: m, [], k, fuel, listed, a, w, hl, hB, hS, h => by
    have h0 : ops[k]? = none := by simpa using (hl 0).symm
    simp [runB, h0] at hB
  | true :: m, o :: l, k, fuel, listed, a, w, hl, hB, hS, h => by
    have h0 : ops[k]? = some o := by simpa using (hl 0).symm
    simp only [runB, h0, Bool.and_eq_true] at hB
    obtain ⟨⟨⟨hr, hf⟩, hn⟩, hB'⟩ := hB
    have hst : qOp P ops S k (wpQuiet P ops S (fun a' => wpAnyH P md ops Q S fuel (setB m (k + 1) (listed.setIfInBounds k true)) a' w) (runOps m l)) a := by unfold qOp; simp only [h0]; exact h
    obtain ⟨v, hy, hK⟩ := yieldsIn_of_qOp h0 hst
    have hy' : YieldsIf P ops S o v a := by
      rcases hy with ⟨hw, hq⟩ | h
      · refine .inl ⟨hw, fun w' hw' => ?_⟩
        have h3 := hq w' hw'
        unfold Oper.quietAt at h3
        have hne := fun n w'' => noCall_value (P := P) (o := o) (a := a) (w := w') (w' := w'') (n := n) hn
        generalize (execOp a.eval o).run P w' = r at *
        cases r with
        | ok n w1 =>
          cases n <;> simp only [Oper.quietUpon] at h3
          case value u => obtain ⟨rfl, rfl⟩ := h3; rfl
          case skip => obtain ⟨u, hu⟩ := hne _ w1 rfl; cases hu
          case enter f args => obtain ⟨u, hu⟩ := hne _ w1 rfl; cases hu
        | halt x w1 => simp only [Oper.quietUpon] at h3
      · exact .inr h
    exact wpAnyH_take (v := v) h0 hs hf hr (fun c a w h => hQ c _ _ w h) hy' hS
      (wpAnyH_run hs hQ m l (k + 1) fuel _ _ w (fun j => by have := hl (j + 1); simpa [Nat.add_assoc, Nat.add_comm 1 j] using this) hB' hS hK)

/-- The rest, walked once in the order of the text, in a class of worlds that all of it keeps. -/
theorem wpAnyH_of_quiet {C : World → Prop} {Q1 : Act → Prop} (hQ : ∀ a w, C w → Q1 a → Q .normal a w) (hCS : ∀ w, C w → S w) : ∀ (fuel : Nat) (listed : Array Bool) (a : Act) (w : World), C w →
    wpAnyQ P md ops C Q1 fuel listed a → wpAnyH P md ops Q S fuel listed a w
  | 0, _, _, _, hw, h => ⟨h.1, hQ _ _ hw h.2⟩
  | fuel + 1, _, _, _, hw, h => ⟨fun h0 => hQ _ _ hw (h.1 h0), fun i hi => wpOp_of_qOp hw (fun a' w' hw' hh => ⟨hCS _ hw', wpAnyH_of_quiet hQ hCS fuel _ a' w' hw' hh⟩) (h.2 i hi)⟩

theorem wpAnyH_end {C : World → Prop} {l : List Oper} {k : Nat} {listed : Array Bool} {a : Act} {w : World} (hCS : ∀ w, C w → S w) (hs : Region.noSelect ops = true) (hl : ∀ j, l[j]? = ops[k + j]?)
    (hB : Region.lexFrom md ops l.length k listed = true) (hC : C w) (h : wpQuiet P ops C (fun a' => ∀ w', C w' → Q .normal a' w') l a) : wpAnyH P md ops Q S l.length listed a w :=
  wpAnyH_of_quiet (fun _ w' hw' h => h w' hw') hCS _ _ _ _ hC (wpAnyQ_lex hs l k listed a hl hB h)

/-- A stronger condition from here on. -/
theorem wpAnyH_mono {S' : World → Prop} (h : ∀ w, S' w → S w) : ∀ (fuel : Nat) (listed : Array Bool) (a : Act) (w : World), wpAnyH P md ops Q S' fuel listed a w → wpAnyH P md ops Q S fuel listed a w
  | 0, _, _, _, hh => hh
  | fuel + 1, _, _, _, hh => ⟨hh.1, fun i hi => wpOp_mono (fun a' w' h' => ⟨h _ h'.1, wpAnyH_mono h fuel _ a' w' h'.2⟩) (hh.2 i hi)⟩
end

/-- Worlds of which something holds. -/
structure Held (H : World → Prop) where
  far : World
  held : H far
def HeldS (H : World → Prop) (w : World) : Prop := ∃ x : Held H, w = x.far
theorem HeldS.mk' {H : World → Prop} {w : World} (h : H w) : HeldS H w := ⟨⟨w, h⟩, rfl⟩

section
variable {P : Program} {Q : Exit → Act → World → Prop} {md : Region.Mode}
theorem wpAnyH_run0 {H : World → Prop} {l : List Oper} (m : List Bool) (fuel : Nat) {F : Nat} {listed : Array Bool} {a : Act} {w : World} (hf : fuel + countB m = F) (hs : Region.noSelect l.toArray = true) (hQ : ∀ c a a' w, Q (.panic c) a w → Q (.panic c) a' w)
    (hB : runB md l.toArray m 0 listed = true) (hS : HeldS H w) (h : wpQuiet P l.toArray (fun w' => ∃ x : Held H, w' = x.far) (fun a' => wpAnyH P md l.toArray Q (HeldS H) fuel (setB m 0 listed) a' w) (runOps m l) a) : wpAnyH P md l.toArray Q (HeldS H) F listed a w := by
  subst hf
  exact wpAnyH_run hs hQ m l 0 fuel listed a w (fun j => by simp) hB hS h
end
end Go.Proofs.YtondkkhagbcadaaGreat
/- A region that draws its order and whose last stores change what its loads read: the condition holds until the late operations come up. No program in sight. -/
namespace Go.Proofs.YtondkkhagbcadaaGreat
open Go.RowKit

section
variable {P : Program} {ops : Array Oper} {Q : Exit → Act → World → Prop} {md : Region.Mode} {S : World → Prop} {late : Nat}

/-- No late operation has come up. -/
def noLate (late : Nat) (listed : Array Bool) : Bool := (List.range listed.size).all fun j => decide (j < late) || !listed.getD j false
theorem noLate_spec {listed : Array Bool} (h : noLate late listed = true) (j : Nat) (hj : late ≤ j) : listed.getD j false = false := by
  rcases Nat.lt_or_ge j listed.size with hs | hs
  · simp only [noLate, List.all_eq_true, List.mem_range] at h
    have := h j hs
    simpa [Nat.not_lt.2 hj] using this
  · simp [Array.getElem?_eq_none hs]
theorem noLate_of {listed : Array Bool} (h : ∀ j, late ≤ j → listed.getD j false = false) : noLate late listed = true := by
  simp only [noLate, List.all_eq_true, List.mem_range]
  intro j _
  rcases Nat.lt_or_ge j late with hs | hs
  · simp [hs]
  · rw [h j hs]; simp
theorem getD_set_true {listed : Array Bool} {i j : Nat} (h : i ≠ j) : (listed.setIfInBounds i true).getD j false = listed.getD j false := by
  simp [Array.getElem?_setIfInBounds, h]
theorem noLate_set {listed : Array Bool} {i : Nat} (hi : i < late) (h : noLate late listed = true) : noLate late (listed.setIfInBounds i true) = true :=
  noLate_of fun j hj => by rw [getD_set_true (by omega)]; exact noLate_spec h j hj
theorem noLate_back {listed : Array Bool} {i : Nat} (h : noLate late (listed.setIfInBounds i true) = true) : noLate late listed = true :=
  noLate_of fun j hj => by
    by_cases e : i = j
    · subst e
      have := noLate_spec h i hj
      rcases Nat.lt_or_ge i listed.size with hs | hs
      · simp [hs] at this
      · simp [Array.getElem?_eq_none hs]
    · rw [← getD_set_true e]; exact noLate_spec h j hj
theorem late_no {p : Prop} {b : Bool} (h : b = true) (k : b = false) : p := by rw [k] at h; cases h

/-- Whatever order is picked from here on, and the condition holds until a late operation (number 'late' or a greater one) comes up. -/
def wpAnyU (P : Program) (md : Region.Mode) (ops : Array Oper) (Q : Exit → Act → World → Prop) (S : World → Prop) (late : Nat) : Nat → Array Bool → Act → World → Prop
  | 0, listed, a, w => Region.ready md ops listed = [] ∧ Q .normal a w
  | fuel + 1, listed, a, w =>
    (Region.ready md ops listed = [] → Q .normal a w) ∧
    ∀ i ∈ Region.ready md ops listed, wpOp P ops Q i (fun a' w' => (noLate late (listed.setIfInBounds i true) = true → S w') ∧ wpAnyU P md ops Q S late fuel (listed.setIfInBounds i true) a' w') a w

theorem wpAny_of_until : ∀ (fuel : Nat) (listed : Array Bool) (a : Act) (w : World), wpAnyU P md ops Q S late fuel listed a w → wpAny P md ops Q fuel listed a w
  | 0, _, _, _, h => h
  | fuel + 1, _, _, _, h => ⟨h.1, fun i hi => wpOp_mono (fun a' w' h' => wpAny_of_until fuel _ a' w' h'.2) (h.2 i hi)⟩

/-- Each late operation waits for this one. -/
def lateB (md : Region.Mode) (ops : Array Oper) (late i : Nat) : Bool := (List.range ops.size).all fun j => j < late || match ops[j]? with
  | some oj => oj.after.any fun e => Region.binds md e && e.on == i
  | none => true
theorem lateB_spec {i j : Nat} {oj : Oper} (h : lateB md ops late i = true) (hj : ops[j]? = some oj) (hl : ¬ j < late) : ∃ e ∈ oj.after, Region.binds md e = true ∧ e.on = i := by
  simp only [lateB, List.all_eq_true, List.mem_range] at h
  have h1 := h j (Array.getElem?_eq_some_iff.1 hj).1
  simp only [hj, hl, decide_false, Bool.false_or] at h1
  obtain ⟨e, he, hb⟩ := Array.any_eq_true'.1 h1
  rw [Bool.and_eq_true, beq_iff_eq] at hb
  exact ⟨e, he, hb.1, hb.2⟩

theorem wpAnyU_first {i : Nat} {oi : Oper} {v : Value} (hi : ops[i]? = some oi) (hlt : i < late) (hlb : lateB md ops late i = true) (hsel : ∀ (j : Nat) (o : Oper) cs b, ops[j]? = some o → o.op ≠ .select cs b)
    (hQ : ∀ c a w, Q (.panic c) (a.put oi.dst v) w → Q (.panic c) a w) :
    ∀ (fuel : Nat) (listed : Array Bool) (a : Act) (w : World),
      (∀ j oj, ops[j]? = some oj → j ≠ i → listed.getD j true = false → (∀ e ∈ oj.after, Region.binds md e = true → e.on ≠ i) → oi.apart ops oj = true) →
      i ∈ Region.ready md ops listed → YieldsIf P ops S oi v a → noLate late listed = true → S w →
      wpAnyU P md ops Q S late fuel (listed.setIfInBounds i true) (a.put oi.dst v) w → wpAnyU P md ops Q S late (fuel + 1) listed a w := by
  intro fuel
  induction fuel with
  | zero =>
    intro listed a w _ hr hy hnl hS H
    refine ⟨fun h => (by rw [h] at hr; cases hr), fun j hj => ?_⟩
    by_cases hji : j = i
    · subst hji; exact hy.wpOp hi hS ⟨fun _ => hS, H⟩
    · have := ready_mono hj hji
      rw [H.1] at this
      cases this
  | succ fuel ih =>
    intro listed a w hfree hr hy hnl hS H
    refine ⟨fun h => (by rw [h] at hr; cases hr), fun j hj => ?_⟩
    by_cases hji : j = i
    · subst hji; exact hy.wpOp hi hS ⟨fun _ => hS, H⟩
    · have h1 := H.2 j (ready_mono hj hji)
      obtain ⟨hjun, oj, hoj, hall⟩ := mem_ready.1 hj
      have hnot : ∀ e ∈ oj.after, Region.binds md e = true → e.on ≠ i := fun e he hb heq => by
        have h1 := hall e he hb
        have h0 := (mem_ready.1 hr).1
        rw [heq] at h1
        rcases Nat.lt_or_ge i listed.size with h' | h'
        · simp [h'] at h0 h1; rw [h0] at h1; cases h1
        · simp [Array.getElem?_eq_none h'] at h1
      have hjl : j < late := by
        rcases Nat.lt_or_ge j late with h | h
        · exact h
        · obtain ⟨e, he, hb, ho⟩ := lateB_spec hlb hoj (by omega)
          exact absurd ho (hnot e he hb)
      have h2 := wpOp_putIf hoj (hfree j oj hoj hji hjun hnot) (fun cs b => hsel i oi cs b hi) (fun cs b => hsel j oj cs b hoj) hQ hy h1
      have hfree' : ∀ k ok, ops[k]? = some ok → k ≠ i → (listed.setIfInBounds j true).getD k true = false →
          (∀ e ∈ ok.after, Region.binds md e = true → e.on ≠ i) → oi.apart ops ok = true := fun k ok hk hki hun hno => by
        refine hfree k ok hk hki ?_ hno
        by_cases hjk : j = k
        · subst hjk; exact hjun
        · rw [getD_set_ne true hjk] at hun; exact hun
      refine wpOp_mono (fun a' w' h3 => ⟨fun _ => h3.2.1 (noLate_set hjl (noLate_set hlt hnl)), ih (listed.setIfInBounds j true) a' w' hfree' (ready_mono hr (Ne.symm hji)) h3.1 (noLate_set hjl hnl) (h3.2.1 (noLate_set hjl (noLate_set hlt hnl))) ?_⟩) h2
      rw [Array.setIfInBounds_comm _ _ hji]
      exact h3.2.2

theorem wpAnyU_firstF {T : World → Prop} (hT : ∀ w, T w) {i : Nat} {oi : Oper} {v : Value} (hi : ops[i]? = some oi) (hlt : i < late) (hsel : ∀ (j : Nat) (o : Oper) cs b, ops[j]? = some o → o.op ≠ .select cs b)
    (hQ : ∀ c a w, Q (.panic c) (a.put oi.dst v) w → Q (.panic c) a w) :
    ∀ (fuel : Nat) (listed : Array Bool) (a : Act) (w : World),
      (∀ j oj, ops[j]? = some oj → j ≠ i → listed.getD j true = false → (∀ e ∈ oj.after, Region.binds md e = true → e.on ≠ i) → oi.apart ops oj = true) →
      i ∈ Region.ready md ops listed → YieldsIf P ops T oi v a → (noLate late listed = true → S w) →
      wpAnyU P md ops Q S late fuel (listed.setIfInBounds i true) (a.put oi.dst v) w → wpAnyU P md ops Q S late (fuel + 1) listed a w := by
  intro fuel
  induction fuel with
  | zero =>
    intro listed a w _ hr hy hS H
    refine ⟨fun h => (by rw [h] at hr; cases hr), fun j hj => ?_⟩
    by_cases hji : j = i
    · subst hji; exact hy.wpOp hi (hT _) ⟨fun h => hS (noLate_back h), H⟩
    · have := ready_mono hj hji
      rw [H.1] at this
      cases this
  | succ fuel ih =>
    intro listed a w hfree hr hy hS H
    refine ⟨fun h => (by rw [h] at hr; cases hr), fun j hj => ?_⟩
    by_cases hji : j = i
    · subst hji; exact hy.wpOp hi (hT _) ⟨fun h => hS (noLate_back h), H⟩
    · have h1 := H.2 j (ready_mono hj hji)
      obtain ⟨hjun, oj, hoj, hall⟩ := mem_ready.1 hj
      have hnot : ∀ e ∈ oj.after, Region.binds md e = true → e.on ≠ i := fun e he hb heq => by
        have h1 := hall e he hb
        have h0 := (mem_ready.1 hr).1
        rw [heq] at h1
        rcases Nat.lt_or_ge i listed.size with h' | h'
        · simp [h'] at h0 h1; rw [h0] at h1; cases h1
        · simp [Array.getElem?_eq_none h'] at h1
      have h2 := wpOp_putIf hoj (hfree j oj hoj hji hjun hnot) (fun cs b => hsel i oi cs b hi) (fun cs b => hsel j oj cs b hoj) hQ hy h1
      have hfree' : ∀ k ok, ops[k]? = some ok → k ≠ i → (listed.setIfInBounds j true).getD k true = false →
          (∀ e ∈ ok.after, Region.binds md e = true → e.on ≠ i) → oi.apart ops ok = true := fun k ok hk hki hun hno => by
        refine hfree k ok hk hki ?_ hno
        by_cases hjk : j = k
        · subst hjk; exact hjun
        · rw [getD_set_ne true hjk] at hun; exact hun
      have hc : ∀ {w' : World}, (noLate late ((listed.setIfInBounds i true).setIfInBounds j true) = true → S w') → noLate late (listed.setIfInBounds j true) = true → S w' := fun h hn => h (by
        rw [Array.setIfInBounds_comm _ _ (Ne.symm hji)]
        exact noLate_set hlt hn)
      refine wpOp_mono (fun a' w' h3 => ⟨hc h3.2.1, ih (listed.setIfInBounds j true) a' w' hfree' (ready_mono hr (Ne.symm hji)) h3.1 (hc h3.2.1) ?_⟩) h2
      rw [Array.setIfInBounds_comm _ _ hji]
      exact h3.2.2

def runU (md : Region.Mode) (ops : Array Oper) (late : Nat) : List Bool → Nat → Array Bool → Bool
  | [], _, _ => true
  | false :: m, k, listed => runU md ops late m (k + 1) listed
  | true :: m, k, listed => decide (k < late) && noLate late listed && lateB md ops late k && (Region.ready md ops listed).contains k && Region.free md ops listed k && (match ops[k]? with | some o => noCall o | none => false) && runU md ops late m (k + 1) (listed.setIfInBounds k true)

theorem wpAnyU_run (hs : Region.noSelect ops = true) (hQ : ∀ c a a' w, Q (.panic c) a w → Q (.panic c) a' w) : ∀ (m : List Bool) (l : List Oper) (k fuel : Nat) (listed : Array Bool) (a : Act) (w : World), (∀ j, l[j]? = ops[k + j]?) →
    runU md ops late m k listed = true → S w → wpQuiet P ops S (fun a' => wpAnyU P md ops Q S late fuel (setB m k listed) a' w) (runOps m l) a → wpAnyU P md ops Q S late (fuel + countB m) listed a w
  | [], l, k, fuel, listed, a, w, hl, hB, hS, h => by rw [runOps_nil] at h; exact h
  | false :: m, [], k, fuel, listed, a, w, hl, hB, hS, h => by
    have : ∀ (m : List Bool) (k : Nat) (listed : Array Bool), (∀ j, k ≤ j → ops[j]? = none) → runU md ops late m k listed = true → setB m k listed = listed ∧ countB m = 0 := by
      intro m
      induction m with
      | nil => intro k listed _ _; exact ⟨rfl, rfl⟩
      | cons t m ih =>
        intro k listed hn hb
        cases t with
        | false => exact ih (k + 1) listed (fun j hj => hn j (by omega)) hb
        | true => simp [runU, hn k (Nat.le_refl _)] at hb
    obtain ⟨e1, e2⟩ := this (false :: m) k listed (fun j hj => by have := hl (j - k); rw [show k + (j - k) = j by omega] at this; rw [← this]; rfl) hB
    rw [e2]
    rw [e1] at h
    exact h
  | false :: m, o :: l, k, fuel, listed, a, w, hl, hB, hS, h =>
    wpAnyU_run hs hQ m l (k + 1) fuel listed a w (fun j => by have := hl (j + 1); simpa [Nat.add_assoc, Nat.add_comm 1 j] using this) hB hS h
  | true :: m, [], k, fuel, listed, a, w, hl, hB, hS, h => by
    have h0 : ops[k]? = none := by simpa using (hl 0).symm
    simp [runU, h0] at hB
  | true :: m, o :: l, k, fuel, listed, a, w, hl, hB, hS, h => by
    have h0 : ops[k]? = some o := by simpa using (hl 0).symm
    simp only [runU, h0, Bool.and_eq_true, decide_eq_true_eq] at hB
    obtain ⟨⟨⟨⟨⟨⟨hlt, hnl⟩, hlb⟩, hr⟩, hf⟩, hn⟩, hB'⟩ := hB
    have hst : qOp P ops S k (wpQuiet P ops S (fun a' => wpAnyU P md ops Q S late fuel (setB m (k + 1) (listed.setIfInBounds k true)) a' w) (runOps m l)) a := by unfold qOp; simp only [h0]; exact h
    obtain ⟨v, hy, hK⟩ := yieldsIn_of_qOp h0 hst
    have hy' : YieldsIf P ops S o v a := by
      rcases hy with ⟨hw, hq⟩ | h
      · refine .inl ⟨hw, fun w' hw' => ?_⟩
        have h3 := hq w' hw'
        unfold Oper.quietAt at h3
        have hne := fun n w'' => noCall_value (P := P) (o := o) (a := a) (w := w') (w' := w'') (n := n) hn
        generalize (execOp a.eval o).run P w' = r at *
        cases r with
        | ok n w1 =>
          cases n <;> simp only [Oper.quietUpon] at h3
          case value u => obtain ⟨rfl, rfl⟩ := h3; rfl
          case skip => obtain ⟨u, hu⟩ := hne _ w1 rfl; cases hu
          case enter f args => obtain ⟨u, hu⟩ := hne _ w1 rfl; cases hu
        | halt x w1 => simp only [Oper.quietUpon] at h3
      · exact .inr h
    exact wpAnyU_first (v := v) h0 hlt hlb (Region.noSelect_spec hs) (fun c a w h => hQ c _ _ w h) _ _ _ _ (Region.free_spec h0 hf) (by simpa using hr) hy' hnl hS
      (wpAnyU_run hs hQ m l (k + 1) fuel _ _ w (fun j => by have := hl (j + 1); simpa [Nat.add_assoc, Nat.add_comm 1 j] using this) hB' hS hK)

def runF (md : Region.Mode) (ops : Array Oper) (late : Nat) : List Bool → Nat → Array Bool → Bool
  | [], _, _ => true
  | false :: m, k, listed => runF md ops late m (k + 1) listed
  | true :: m, k, listed => decide (k < late) && (Region.ready md ops listed).contains k && Region.free md ops listed k && (match ops[k]? with | some o => noCall o | none => false) && runF md ops late m (k + 1) (listed.setIfInBounds k true)

theorem wpAnyU_runF {T : World → Prop} (hT : ∀ w, T w) (hs : Region.noSelect ops = true) (hQ : ∀ c a a' w, Q (.panic c) a w → Q (.panic c) a' w) : ∀ (m : List Bool) (l : List Oper) (k fuel : Nat) (listed : Array Bool) (a : Act) (w : World), (∀ j, l[j]? = ops[k + j]?) →
    runF md ops late m k listed = true → (noLate late listed = true → S w) → wpQuiet P ops T (fun a' => wpAnyU P md ops Q S late fuel (setB m k listed) a' w) (runOps m l) a → wpAnyU P md ops Q S late (fuel + countB m) listed a w
  | [], l, k, fuel, listed, a, w, hl, hB, hS, h => by rw [runOps_nil] at h; exact h
  | false :: m, [], k, fuel, listed, a, w, hl, hB, hS, h => by
    have : ∀ (m : List Bool) (k : Nat) (listed : Array Bool), (∀ j, k ≤ j → ops[j]? = none) → runF md ops late m k listed = true → setB m k listed = listed ∧ countB m = 0 := by
      intro m
      induction m with
      | nil => intro k listed _ _; exact ⟨rfl, rfl⟩
      | cons t m ih =>
        intro k listed hn hb
        cases t with
        | false => exact ih (k + 1) listed (fun j hj => hn j (by omega)) hb
        | true => simp [runF, hn k (Nat.le_refl _)] at hb
    obtain ⟨e1, e2⟩ := this (false :: m) k listed (fun j hj => by have := hl (j - k); rw [show k + (j - k) = j by omega] at this; rw [← this]; rfl) hB
    rw [e2]
    rw [e1] at h
    exact h
  | false :: m, o :: l, k, fuel, listed, a, w, hl, hB, hS, h =>
    wpAnyU_runF hT hs hQ m l (k + 1) fuel listed a w (fun j => by have := hl (j + 1); simpa [Nat.add_assoc, Nat.add_comm 1 j] using this) hB hS h
  | true :: m, [], k, fuel, listed, a, w, hl, hB, hS, h => by
    have h0 : ops[k]? = none := by simpa using (hl 0).symm
    simp [runF, h0] at hB
  | true :: m, o :: l, k, fuel, listed, a, w, hl, hB, hS, h => by
    have h0 : ops[k]? = some o := by simpa using (hl 0).symm
    simp only [runF, h0, Bool.and_eq_true, decide_eq_true_eq] at hB
    obtain ⟨⟨⟨⟨hlt, hr⟩, hf⟩, hn⟩, hB'⟩ := hB
    have hst : qOp P ops T k (wpQuiet P ops T (fun a' => wpAnyU P md ops Q S late fuel (setB m (k + 1) (listed.setIfInBounds k true)) a' w) (runOps m l)) a := by unfold qOp; simp only [h0]; exact h
    obtain ⟨v, hy, hK⟩ := yieldsIn_of_qOp h0 hst
    have hy' : YieldsIf P ops T o v a := by
      rcases hy with ⟨hw, hq⟩ | h
      · refine .inl ⟨hw, fun w' hw' => ?_⟩
        have h3 := hq w' hw'
        unfold Oper.quietAt at h3
        have hne := fun n w'' => noCall_value (P := P) (o := o) (a := a) (w := w') (w' := w'') (n := n) hn
        generalize (execOp a.eval o).run P w' = r at *
        cases r with
        | ok n w1 =>
          cases n <;> simp only [Oper.quietUpon] at h3
          case value u => obtain ⟨rfl, rfl⟩ := h3; rfl
          case skip => obtain ⟨u, hu⟩ := hne _ w1 rfl; cases hu
          case enter f args => obtain ⟨u, hu⟩ := hne _ w1 rfl; cases hu
        | halt x w1 => simp only [Oper.quietUpon] at h3
      · exact .inr h
    exact wpAnyU_firstF (v := v) hT h0 hlt (Region.noSelect_spec hs) (fun c a w h => hQ c _ _ w h) _ _ _ _ (Region.free_spec h0 hf) (by simpa using hr) hy' hS
      (wpAnyU_runF hT hs hQ m l (k + 1) fuel _ _ w (fun j => by have := hl (j + 1); simpa [Nat.add_assoc, Nat.add_comm 1 j] using this) hB' (fun h => hS (noLate_back h)) hK)

/-- Whichever of those that may come up comes up. -/
def AllReadyU (P : Program) (md : Region.Mode) (ops : Array Oper) (Q : Exit → Act → World → Prop) (S : World → Prop) (late fuel : Nat) (listed : Array Bool) (a : Act) (w : World) (rs : List Nat) : Prop :=
  ∀ i ∈ rs, wpOp P ops Q i (fun a' w' => (noLate late (listed.setIfInBounds i true) = true → S w') ∧ wpAnyU P md ops Q S late fuel (listed.setIfInBounds i true) a' w') a w
theorem AllReadyU.nil {fuel : Nat} {listed : Array Bool} {a : Act} {w : World} : AllReadyU P md ops Q S late fuel listed a w [] := fun _ h => by cases h
theorem AllReadyU.cons {fuel : Nat} {listed : Array Bool} {a : Act} {w : World} {i : Nat} {o : Oper} {rs : List Nat} (ho : ops[i]? = some o)
    (h : ∀ K' : Act → World → Prop, Shut (∀ a w, (noLate late (listed.setIfInBounds i true) = true → S w) → wpAnyU P md ops Q S late fuel (listed.setIfInBounds i true) a w → K' a w) → if Region.wanted o (yielded ops a.tmps) = true then Oper.wp P o a w K' Q else K' (a.put o.dst undef) w)
    (hs : AllReadyU P md ops Q S late fuel listed a w rs) : AllReadyU P md ops Q S late fuel listed a w (i :: rs) := fun j hj => by
  rcases List.mem_cons.1 hj with rfl | hj
  · exact wpOp_step ho (fun K' hK => h K' (fun a w hS hW => hK a w ⟨hS, hW⟩))
  · exact hs j hj
theorem wpAnyU_ready {rs : List Nat} {fuel : Nat} {listed : Array Bool} {a : Act} {w : World} (hr : Region.ready md ops listed = rs) (hne : rs ≠ [])
    (h : AllReadyU P md ops Q S late fuel listed a w rs) : wpAnyU P md ops Q S late (fuel + 1) listed a w := ⟨fun h0 => absurd (hr ▸ h0) hne, hr ▸ h⟩
theorem wpAnyU_done {listed : Array Bool} {a : Act} {w : World} (hr : Region.ready md ops listed = []) (h : Q .normal a w) :
    ∀ fuel, wpAnyU P md ops Q S late fuel listed a w
  | 0 => ⟨hr, h⟩
  | _ + 1 => ⟨fun _ => h, by rw [hr]; simp⟩
theorem wp_region_until (late : Nat) {id : Nat} {a : Act} {w : World} (hm : P.follows .mixedOrders = true)
    (h : wpAnyU P .any ops Q S late ops.size (Array.replicate ops.size false) a w.drew) : (Code.region id ops true).wp P Q a w :=
  wp_region_any hm (wpAny_of_until _ _ _ _ h)
end
section
variable {P : Program} {Q : Exit → Act → World → Prop} {md : Region.Mode} {late : Nat}
theorem wpAnyU_run0F {S : World → Prop} {l : List Oper} (m : List Bool) (fuel : Nat) {F : Nat} {listed : Array Bool} {a : Act} {w : World} (hf : fuel + countB m = F) (hs : Region.noSelect l.toArray = true) (hQ : ∀ c a a' w, Q (.panic c) a w → Q (.panic c) a' w)
    (hB : runF md l.toArray late m 0 listed = true) (hS : S w) (h : wpQuiet P l.toArray (fun w' => ∃ x : Held (fun _ => True), w' = x.far) (fun a' => wpAnyU P md l.toArray Q S late fuel (setB m 0 listed) a' w) (runOps m l) a) : wpAnyU P md l.toArray Q S late F listed a w := by
  subst hf
  exact wpAnyU_runF (T := fun w' => ∃ x : Held (fun _ => True), w' = x.far) (fun w => ⟨⟨w, trivial⟩, rfl⟩) hs hQ m l 0 fuel listed a w (fun j => by simp) hB (fun _ => hS) h
theorem wpAnyU_run0 {H : World → Prop} {l : List Oper} (m : List Bool) (fuel : Nat) {F : Nat} {listed : Array Bool} {a : Act} {w : World} (hf : fuel + countB m = F) (hs : Region.noSelect l.toArray = true) (hQ : ∀ c a a' w, Q (.panic c) a w → Q (.panic c) a' w)
    (hB : runU md l.toArray late m 0 listed = true) (hS : HeldS H w) (h : wpQuiet P l.toArray (fun w' => ∃ x : Held H, w' = x.far) (fun a' => wpAnyU P md l.toArray Q (HeldS H) late fuel (setB m 0 listed) a' w) (runOps m l) a) : wpAnyU P md l.toArray Q (HeldS H) late F listed a w := by
  subst hf
  exact wpAnyU_run hs hQ m l 0 fuel listed a w (fun j => by simp) hB hS h
end
end Go.Proofs.YtondkkhagbcadaaGreat
