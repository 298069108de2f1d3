/- A region that draws its order, in steps: runs of operations that only read, calls one by one, and a quiet end. No program in sight. -/
import Derived.Test.YtbmnebpjjghkpaaFar
import Derived.Deep.RegionHeld
import Derived.Deep.RegionHeld3
namespace Go.Proofs.Ytbmnebpjjghkpaa
open Go.RowKit

section
variable {P : Program} {ops : Array Oper} {Q : Exit → Act → World → Prop} {md : Region.Mode} {S : World → Prop}

/-- An operation that only reads: it yields a value. -/
def noCall (o : Oper) : Bool := match o.op with
  | .move _ | .assign _ | .pick .. | .load .. | .binOp .. | .unOp .. | .convert .. | .fieldAddr .. | .field .. | .indexAddr .. | .index .. | .extract .. | .slice .. | .build .. | .nilCheck _ => true
  | .call c => match c.callee with
    | .builtin .len => true
    | _ => false
  | _ => false

theorem bind_value {s : Sem Value} {w w' : World} {n : Next} (h : (do pure (Next.value (← s)) : Sem Next).run P w = .ok n w') : ∃ u, n = .value u := by
  rw [Sem.run_bind] at h
  generalize s.run P w = r at h
  cases r with
  | ok u w1 => simp only [Result.andThen, Sem.run_pure] at h; injection h with h1 h2; exact ⟨u, h1.symm⟩
  | halt x w1 => simp only [Result.andThen] at h; cases h

theorem run_bind_ok {α β : Type} {s : Sem α} {f : α → Sem β} {w w' : World} {n : β} (h : (s >>= f).run P w = .ok n w') : ∃ u w1, s.run P w = .ok u w1 ∧ (f u).run P w1 = .ok n w' := by
  rw [Sem.run_bind] at h
  generalize s.run P w = r at h
  cases r with
  | ok u w1 => exact ⟨u, w1, rfl, h⟩
  | halt x w1 => simp only [Result.andThen] at h; cases h
theorem noCall_value {o : Oper} {a : Act} {w w' : World} {n : Next} (hn : noCall o = true) (h : (execOp a.eval o).run P w = .ok n w') : ∃ u, n = .value u := by
  obtain ⟨d, op, t, pos, af, gd⟩ := o
  unfold noCall at hn
  unfold execOp at h
  cases op <;> simp only [Bool.false_eq_true] at hn <;> dsimp only at h
  case call c =>
    obtain ⟨callee, args, ts⟩ := c
    cases callee <;> simp only [Bool.false_eq_true] at hn
    rename_i bi
    cases bi <;> simp only [Bool.false_eq_true] at hn
    exact bind_value h
  all_goals first
    | exact bind_value h
    | (rw [Sem.run_pure] at h; injection h with h1 h2; exact ⟨_, h1.symm⟩)
    | (split at h <;> first
        | (rw [Sem.run_pure] at h; injection h with h1 h2; exact ⟨_, h1.symm⟩)
        | (simp [runtimePanic, Sem.run] at h; done)
        | (split at h <;> first
            | (rw [Sem.run_pure] at h; injection h with h1 h2; exact ⟨_, h1.symm⟩)
            | (simp [runtimePanic, Sem.run] at h; done)
            | (obtain ⟨_, _, _, h⟩ := run_bind_ok h
               obtain ⟨_, _, _, h⟩ := run_bind_ok h
               split at h
               · obtain ⟨_, _, _, h⟩ := run_bind_ok h
                 rw [Sem.run_pure] at h; injection h with h1 h2; exact ⟨_, h1.symm⟩
               · rw [Sem.run_pure] at h; injection h with h1 h2; exact ⟨_, h1.symm⟩)))
    | (rw [Sem.run_bind] at h
       generalize (asBool _).run P w = r at h
       cases r with
       | ok u w1 => simp only [Result.andThen, Sem.run_pure] at h; injection h with h1 h2; exact ⟨_, h1.symm⟩
       | halt x w1 => simp only [Result.andThen] at h; cases h)

def runOps : List Bool → List Oper → List Oper
  | true :: m, o :: l => o :: runOps m l
  | false :: m, _ :: l => runOps m l
  | _, _ => []
theorem runOps_true (m : List Bool) (o : Oper) (l : List Oper) : runOps (true :: m) (o :: l) = o :: runOps m l := rfl
theorem runOps_false (m : List Bool) (o : Oper) (l : List Oper) : runOps (false :: m) (o :: l) = runOps m l := rfl
theorem runOps_nil (l : List Oper) : runOps [] l = [] := by cases l <;> rfl

def setB : List Bool → Nat → Array Bool → Array Bool
  | [], _, listed => listed
  | true :: m, k, listed => setB m (k + 1) (listed.setIfInBounds k true)
  | false :: m, k, listed => setB m (k + 1) listed
def countB : List Bool → Nat
  | [] => 0
  | true :: m => countB m + 1
  | false :: m => countB m
def runB (md : Region.Mode) (ops : Array Oper) : List Bool → Nat → Array Bool → Bool
  | [], _, _ => true
  | false :: m, k, listed => runB md ops m (k + 1) listed
  | true :: m, k, listed => (Region.ready md ops listed).contains k && Region.free md ops listed k && (match ops[k]? with | some o => noCall o | none => false) && runB md ops m (k + 1) (listed.setIfInBounds k true)

/-- A run of operations that only read, in any order that the region leaves open: taken first. -/
theorem wpAnyH_run (hs : Region.noSelect ops = true) (hQ : ∀ c a a' w, Q (.panic c) a w → Q (.panic c) a' w) : ∀ (m : List Bool) (l : List Oper) (k fuel : Nat) (listed : Array Bool) (a : Act) (w : World), (∀ j, l[j]? = ops[k + j]?) →
    runB md ops m k listed = true → S w → wpQuiet P ops S (fun a' => wpAnyH P md ops Q S fuel (setB m k listed) a' w) (runOps m l) a → wpAnyH P md ops Q S (fuel + countB m) listed a w
  | [], l, k, fuel, listed, a, w, hl, hB, hS, h => by rw [runOps_nil] at h; exact h
  | false :: m, [], k, fuel, listed, a, w, hl, hB, hS, h => by
    have : ∀ (m : List Bool) (k : Nat) (listed : Array Bool), (∀ j, k ≤ j → ops[j]? = none) → runB md ops m k listed = true → setB m k listed = listed ∧ countB m = 0 := by
      intro m
      induction m with
      | nil => intro k listed _ _; exact ⟨rfl, rfl⟩
      | cons t m ih =>
        intro k listed hn hb
        cases t with
        | false => exact ih (k + 1) listed (fun j hj => hn j (by omega)) hb
        | true => simp [runB, hn k (Nat.le_refl _)] at hb
    obtain ⟨e1, e2⟩ := this (false :: m) k listed (fun j hj => by have := hl (j - k); rw [show k + (j - k) = j by omega] at this; rw [← this]; rfl) hB
    rw [e2]
    rw [e1] at h
    exact h
  | false :: m, o :: l, k, fuel, listed, a, w, hl, hB, hS, h =>
    wpAnyH_run hs hQ m l (k + 1) fuel listed a w (fun j => by have := hl (j + 1); simpa [Nat.add_assoc, Nat.add_comm 1 j] using this) hB hS h
  | true :: m, [], k, fuel, listed, a, w, hl, hB, hS, h => by
    have h0 : ops[k]? = none := by simpa using (hl 0).symm
    simp [runB, h0] at hB
  | true :: m, o :: l, k, fuel, listed, a, w, hl, hB, hS, h => by
    have h0 : ops[k]? = some o := by simpa using (hl 0).symm
    simp only [runB, h0, Bool.and_eq_true] at hB
    obtain ⟨⟨⟨hr, hf⟩, hn⟩, hB'⟩ := hB
    have hst : qOp P ops S k (wpQuiet P ops S (fun a' => wpAnyH P md ops Q S fuel (setB m (k + 1) (listed.setIfInBounds k true)) a' w) (runOps m l)) a := by unfold qOp; simp only [h0]; exact h
    obtain ⟨v, hy, hK⟩ := yieldsIn_of_qOp h0 hst
    have hy' : YieldsIf P ops S o v a := by
      rcases hy with ⟨hw, hq⟩ | h
      · refine .inl ⟨hw, fun w' hw' => ?_⟩
        have h3 := hq w' hw'
        unfold Oper.quietAt at h3
        have hne := fun n w'' => noCall_value (P := P) (o := o) (a := a) (w := w') (w' := w'') (n := n) hn
        generalize (execOp a.eval o).run P w' = r at *
        cases r with
        | ok n w1 =>
          cases n <;> simp only [Oper.quietUpon] at h3
          case value u => obtain ⟨rfl, rfl⟩ := h3; rfl
          case skip => obtain ⟨u, hu⟩ := hne _ w1 rfl; cases hu
          case enter f args => obtain ⟨u, hu⟩ := hne _ w1 rfl; cases hu
        | halt x w1 => simp only [Oper.quietUpon] at h3
      · exact .inr h
    exact wpAnyH_take (v := v) h0 hs hf hr (fun c a w h => hQ c _ _ w h) hy' hS
      (wpAnyH_run hs hQ m l (k + 1) fuel _ _ w (fun j => by have := hl (j + 1); simpa [Nat.add_assoc, Nat.add_comm 1 j] using this) hB' hS hK)

/-- The rest, walked once in the order of the text, in a class of worlds that all of it keeps. -/
theorem wpAnyH_of_quiet {C : World → Prop} {Q1 : Act → Prop} (hQ : ∀ a w, C w → Q1 a → Q .normal a w) (hCS : ∀ w, C w → S w) : ∀ (fuel : Nat) (listed : Array Bool) (a : Act) (w : World), C w →
    wpAnyQ P md ops C Q1 fuel listed a → wpAnyH P md ops Q S fuel listed a w
  | 0, _, _, _, hw, h => ⟨h.1, hQ _ _ hw h.2⟩
  | fuel + 1, _, _, _, hw, h => ⟨fun h0 => hQ _ _ hw (h.1 h0), fun i hi => wpOp_of_qOp hw (fun a' w' hw' hh => ⟨hCS _ hw', wpAnyH_of_quiet hQ hCS fuel _ a' w' hw' hh⟩) (h.2 i hi)⟩

theorem wpAnyH_end {C : World → Prop} {l : List Oper} {k : Nat} {listed : Array Bool} {a : Act} {w : World} (hCS : ∀ w, C w → S w) (hs : Region.noSelect ops = true) (hl : ∀ j, l[j]? = ops[k + j]?)
    (hB : Region.lexFrom md ops l.length k listed = true) (hC : C w) (h : wpQuiet P ops C (fun a' => ∀ w', C w' → Q .normal a' w') l a) : wpAnyH P md ops Q S l.length listed a w :=
  wpAnyH_of_quiet (fun _ w' hw' h => h w' hw') hCS _ _ _ _ hC (wpAnyQ_lex hs l k listed a hl hB h)

/-- A stronger condition from here on. -/
theorem wpAnyH_mono {S' : World → Prop} (h : ∀ w, S' w → S w) : ∀ (fuel : Nat) (listed : Array Bool) (a : Act) (w : World), wpAnyH P md ops Q S' fuel listed a w → wpAnyH P md ops Q S fuel listed a w
  | 0, _, _, _, hh => hh
  | fuel + 1, _, _, _, hh => ⟨hh.1, fun i hi => wpOp_mono (fun a' w' h' => ⟨h _ h'.1, wpAnyH_mono h fuel _ a' w' h'.2⟩) (hh.2 i hi)⟩
end

/-- Worlds of which something holds. -/
structure Held (H : World → Prop) where
  far : World
  held : H far
def HeldS (H : World → Prop) (w : World) : Prop := ∃ x : Held H, w = x.far
theorem HeldS.mk' {H : World → Prop} {w : World} (h : H w) : HeldS H w := ⟨⟨w, h⟩, rfl⟩

section
variable {P : Program} {Q : Exit → Act → World → Prop} {md : Region.Mode}
theorem wpAnyH_run0 {H : World → Prop} {l : List Oper} (m : List Bool) (fuel : Nat) {F : Nat} {listed : Array Bool} {a : Act} {w : World} (hf : fuel + countB m = F) (hs : Region.noSelect l.toArray = true) (hQ : ∀ c a a' w, Q (.panic c) a w → Q (.panic c) a' w)
    (hB : runB md l.toArray m 0 listed = true) (hS : HeldS H w) (h : wpQuiet P l.toArray (fun w' => ∃ x : Held H, w' = x.far) (fun a' => wpAnyH P md l.toArray Q (HeldS H) fuel (setB m 0 listed) a' w) (runOps m l) a) : wpAnyH P md l.toArray Q (HeldS H) F listed a w := by
  subst hf
  exact wpAnyH_run hs hQ m l 0 fuel listed a w (fun j => by simp) hB hS h
end
end Go.Proofs.Ytbmnebpjjghkpaa

