/- Contracts of package crate: Find, Below, Pairs: loops over the crate's iterator. -/
import Derived.Test.YtogidoohgfmbfaaProg
import Derived.Test.YtogidoohgfmbfaaIter
namespace Go.Proofs.Ytogidoohgfmbfaa
open Go.RowKit Go.Shelf

attribute [local go_sem] Oper.semAt_some

/-- The index of the t-th one, as the crate finds it. -/
def findC : Int → List (Int × Int) → Option Int
  | _, [] => none
  | t, x :: l => if t ≤ x.2 then some x.1 else findC ((t - x.2) % 18446744073709551616) l
def findV (t : Int) (ps : List (Int × Int)) : Option Int := if t = 0 then none else findC t ps
/-- How many up to an index, as the crate sums them. -/
def belowC (q : Int) : Int → List (Int × Int) → Int
  | s, [] => s
  | s, x :: l => if q < x.1 then s else belowC q ((s + x.2) % 18446744073709551616) l


theorem marks_mark {P : Program} {fn : Func} {R : Ending → World → Prop} {tmps : Array Value} {D : Nat} {W : World} {v : Value} (hK : W.heap[D]? = some (.deferred (some [])))
    (hres : (results fn tmps).run P (W.putObj D (.deferred none)) = .ok v (W.putObj D (.deferred none))) (hR : R (.returned v) (W.putObj D (.deferred none))) :
    bodyPostM Fence.wide 5 P fn R .ret { tmps := tmps, defers := [{ target := .collected D, args := #[] }] } W :=
  ⟨by simp, .inl ⟨_, _, rfl, run_takeDeferred hK, v, hres, hR⟩⟩
theorem marks_none {P : Program} {fn : Func} {R : Ending → World → Prop} {tmps : Array Value} {W : World} {v : Value}
    (hres : (results fn tmps).run P W = .ok v W) (hR : R (.returned v) W) : bodyPostM Fence.wide 5 P fn R .ret { tmps := tmps, defers := [] } W := ⟨v, hres, hR⟩
theorem At.putD {W : World} {b D : Nat} {cs : Array Value} {T : TypeId} (h : At W b cs T) (hK : W.heap[D]? = some (.deferred (some []))) : At (W.putObj D (.deferred none)) b cs T :=
  h.grown (grownBy_putObj' W D (.deferred none)) fun r e => by cases e; exact ⟨_, hK, rfl⟩
theorem _root_.Go.RowKit.Below.putD {B D : Nat} {w W : World} (h : Below B w W) (hK : W.heap[D]? = some (.deferred (some []))) (hD : B ≤ D) : Below B w (W.putObj D (.deferred none)) :=
  h.trans (belowK_b (n₀ := B) (w := { W with heap := W.heap.extract 0 B }) (by have := (Array.getElem?_eq_some_iff.1 hK).1; simp; omega) W D _ _ (by simp; omega) hK rfl rfl)

theorem findC_def (t : Int) (x : Int × Int) (ps : List (Int × Int)) : findC t (x :: ps) = if t ≤ x.2 then some x.1 else findC ((t - x.2) % 18446744073709551616) ps := rfl

set_option maxRecDepth 100000 in
set_option maxHeartbeats 2000000 in
theorem crfind_any (w : World) (p : Option Addr) (ps : List (Int × Int)) (t : Int) (hS : CrS w.heap.size w p ps) (ht0 : 0 ≤ t) (ht1 : t < 18446744073709551616) :
    Calls Try.prog 16 #[.pointer p, .int .u64 t] w fun e w' => e = .returned (optI (findV t ps)) ∧ Below w.heap.size w w' := by
  refine calls_of_wp_marks Try.func16 rfl ?_
  simp only [Try.ntmps16, List.size_toArray, List.length_cons, List.length_nil, Nat.reduceAdd, Nat.reduceSub, Array.replicate_succ, Array.replicate_zero, List.push_toArray, List.append_toArray, List.nil_append, List.cons_append]
  by_cases h0 : t = 0
  · subst h0
    go_wp2
    refine marks_none (v := .tuple #[.int .i64 0, .bool false]) (by simp [results, Try.f16, go_sem]) ⟨rfl, (by repeat (first | with_reducible assumption | with_reducible exact Below.refl _ _ | with_reducible refine Below.drew ?_ | with_reducible refine Below.drewN ?_ _ | with_reducible refine Below.setCell ?_ (by first | omega | (simp; done) | (simp; omega)) _ | with_reducible refine Below.alloc ?_ (by first | omega | (simp; done) | (simp; omega) | (simp [World.setCell]; omega)) _))⟩
  · have h0' : (t == 0) = false := beq_eq_false_iff_ne.2 h0
    go_wp2_with fail
    refine (crall_any _ _).mono ?_
    rintro e w1 ⟨rfl, rfl⟩
    go_wp2
    refine gen_world (fun W => (At W w.heap.size #[.int .u64 t] 26 ∧ At W (w.heap.size + 1) #[.int .i64 0] 3 ∧ At W (w.heap.size + 2) #[.bool false] 4 ∧ At W (w.heap.size + 3) #[.pointer p] 24) ∧ Below w.heap.size w W ∧ W.heap.size = w.heap.size + 4)
      ⟨⟨(((At.new' _ _ _ rfl).alloc _).alloc _).alloc _, ((At.new' _ _ _ (by simp)).alloc _).alloc _, (At.new' _ _ _ (by simp)).alloc _, At.new' _ _ _ (by simp)⟩, (by repeat (first | with_reducible assumption | with_reducible exact Below.refl _ _ | with_reducible refine Below.drew ?_ | with_reducible refine Below.drewN ?_ _ | with_reducible refine Below.setCell ?_ (by first | omega | (simp; done) | (simp; omega)) _ | with_reducible refine Below.alloc ?_ (by first | omega | (simp; done) | (simp; omega) | (simp [World.setCell]; omega)) _)), by simp⟩ ?_
    rintro W ⟨⟨a1, a2, a3, a4⟩, hB, hz⟩
    obtain ⟨B, hBe⟩ : ∃ B, w.heap.size = B := ⟨_, rfl⟩
    rw [hBe] at a1 a2 a3 a4 hB hz hS
    simp only [hBe, Nat.add_assoc, Nat.reduceAdd]
    have hSW : CrS B W p ps := hS.below (hBe ▸ hB)
    refine' wp_range_crate B (p := p) (xs := ps) (Bn := B + 3) rfl a4 hSW (by omega)
      (fun pre W' => (∃ s : Int, At W' B #[.int .u64 s] 26 ∧ (0 ≤ s ∧ s < 18446744073709551616 ∧ ∀ rest, findC t (pre ++ rest) = findC s rest)) ∧ At W' (B + 1) #[.int .i64 0] 3 ∧ At W' (B + 2) #[.bool false] 4 ∧ Below B w W')
      (fun c pre W' => (∃ pre0 x s, c = .ret ∧ pre = pre0 ++ [x] ∧ s ≤ x.2 ∧ (∀ rest, findC t (pre0 ++ rest) = findC s rest) ∧ At W' (B + 1) #[.int .i64 x.1] 3 ∧ At W' (B + 2) #[.bool true] 4) ∧ Below B w W')
      ?hI ?hIx ?h0 _ ?assign ?body ?done ?stop
    case assign =>
      intro l x W K hK
      simp only [List.setIfInBounds_toArray, List.set_cons_zero, List.set_cons_succ]
      gi_wp2
      exact hK
    case hI => exact OwnFrom.and (OwnFrom.ex fun s => OwnFrom.and (At.own _) (OwnFrom.pure _)) (OwnFrom.and (At.own _) (OwnFrom.and (At.own _) (ownFrom_below (n₀ := B) (w₀ := w) (by omega) (by omega))))
    case hIx => exact fun c => OwnFrom.and (OwnFrom.ex fun pre0 => OwnFrom.ex fun x => OwnFrom.ex fun s => OwnFrom.and (OwnFrom.pure _) (OwnFrom.and (OwnFrom.pure _) (OwnFrom.and (OwnFrom.pure _) (OwnFrom.and (OwnFrom.pure _) (OwnFrom.and (At.own _) (At.own _)))))) (ownFrom_below (n₀ := B) (w₀ := w) (by omega) (by omega))
    case h0 => exact ⟨⟨t, a1, ht0, ht1, fun rest => rfl⟩, a2, a3, hB⟩
    case body =>
      rintro l pre x W' ⟨⟨s, b1, hs0, hs1, HF⟩, b2, b3, hB'⟩ hlt
      have c1 := b1.one
      have c2 := b2.one
      have c3 := b3.one
      replace HF := Lib.hid HF
      by_cases hle : s ≤ x.2
      · have hle' := Lib.hid hle
        gi_wp2
        exact ⟨((KeepsOthers.setCell _ _ _).trans (KeepsOthers.setCell _ _ _)).from _, ⟨pre, x, s, rfl, rfl, hle'.out, HF.out, (b2.set_any 0 _ rfl).set_other (by show B + 1 ≠ B + 2; omega) _, (b3.set_other (by show B + 2 ≠ B + 1; omega) _).set_any 0 _ rfl⟩, (hB'.setCell (p := ⟨B + 1, 0, none⟩) (by show B ≤ B + 1; omega) _).setCell (p := ⟨B + 2, 0, none⟩) (by show B ≤ B + 2; omega) _⟩
      · have hle' := Lib.hid hle
        have hw : IntKind.u64.wrap (s - x.2) = (s - x.2) % 18446744073709551616 := by simp only [IntKind.wrap_u64]
        gi_wp2
        exact ⟨(KeepsOthers.setCell _ _ _).from _, KpB.set _ (by omega) (by omega) _ _, ⟨⟨_, b1.set_any 0 _ rfl, by omega, by omega, fun rest => by rw [List.append_assoc, HF.out, List.singleton_append, findC_def, if_neg (by have := hle'.out; omega)]⟩, b2.set_other (by show B + 1 ≠ B; omega) _, b3.set_other (by show B + 2 ≠ B; omega) _, hB'.setCell (p := ⟨B, 0, none⟩) (by show B ≤ B; omega) _⟩⟩
    case done =>
      rintro D W' hD ⟨⟨s, b1, hs0, hs1, HF⟩, b2, b3, hB'⟩ hK
      have c2 := b2.one
      have c3 := b3.one
      have hF : findC t ps = none := by have := HF []; rwa [List.append_nil] at this
      clear HF
      go_wp2
      have hK' := ((KeepsOthers.setCell W' ⟨B + 1, 0, none⟩ (.int .i64 0)).trans (KeepsOthers.setCell _ ⟨B + 2, 0, none⟩ (.bool false))).same D _ hK rfl
      have d2 := (((b2.set_any 0 (.int .i64 0) rfl).set_other (by show B + 1 ≠ B + 2; omega) (.bool false)).putD hK').one.1
      have d3 := (((b3.set_other (by show B + 2 ≠ B + 1; omega) (.int .i64 0)).set_any 0 (.bool false) rfl).putD hK').one.1
      refine marks_mark (v := .tuple #[.int .i64 0, .bool false]) hK' (by simp [results, Try.f16, go_sem, d2, d3]) ⟨?_, ?_⟩
      · unfold findV
        rw [if_neg h0, hF]; rfl
      · rw [hBe]
        exact ((hB'.setCell (p := ⟨B + 1, 0, none⟩) (by show B ≤ B + 1; omega) _).setCell (p := ⟨B + 2, 0, none⟩) (by show B ≤ B + 2; omega) _).putD hK' (by omega)
    case stop =>
      rintro D c pre W' hD ⟨r, hr⟩ ⟨⟨pre0, x, s, rfl, rfl, hle, HF, b2, b3⟩, hB'⟩ hK
      have hF : findC t ps = some x.1 := by
        have := HF (x :: r)
        rwa [findC_def, if_pos hle, show pre0 ++ x :: r = ps by rw [← hr]; simp] at this
      clear HF
      go_wp2
      have d2 := (b2.putD hK).one.1
      have d3 := (b3.putD hK).one.1
      refine marks_mark (v := .tuple #[.int .i64 x.1, .bool true]) hK (by simp [results, Try.f16, go_sem, d2, d3]) ⟨?_, ?_⟩
      · unfold findV
        rw [if_neg h0, hF]; rfl
      · rw [hBe]
        exact hB'.putD hK (by omega)

theorem belowC_def (q s : Int) (x : Int × Int) (ps : List (Int × Int)) : belowC q s (x :: ps) = if q < x.1 then s else belowC q ((s + x.2) % 18446744073709551616) ps := rfl

set_option maxRecDepth 100000 in
set_option maxHeartbeats 2000000 in
theorem crbelow_any (w : World) (p : Option Addr) (ps : List (Int × Int)) (q : Int) (hS : CrS w.heap.size w p ps) :
    Calls Try.prog 18 #[.pointer p, .int .i64 q] w fun e w' => e = .returned (.int .u64 (belowC q 0 ps)) ∧ Below w.heap.size w w' := by
  refine calls_of_wp_marks Try.func18 rfl ?_
  simp only [Try.ntmps18, List.size_toArray, List.length_cons, List.length_nil, Nat.reduceAdd, Nat.reduceSub, Array.replicate_succ, Array.replicate_zero, List.push_toArray, List.append_toArray, List.nil_append, List.cons_append]
  go_wp2_with fail
  refine (crall_any _ _).mono ?_
  rintro e w1 ⟨rfl, rfl⟩
  go_wp2
  refine gen_world (fun W => (At W w.heap.size #[.int .i64 q] 3 ∧ At W (w.heap.size + 1) #[.int .u64 0] 26 ∧ At W (w.heap.size + 2) #[.pointer p] 24) ∧ Below w.heap.size w W ∧ W.heap.size = w.heap.size + 3)
    ⟨⟨((At.new' _ _ _ rfl).alloc _).alloc _, (At.new' _ _ _ (by simp)).alloc _, At.new' _ _ _ (by simp)⟩, (by repeat (first | with_reducible assumption | with_reducible exact Below.refl _ _ | with_reducible refine Below.drew ?_ | with_reducible refine Below.drewN ?_ _ | with_reducible refine Below.setCell ?_ (by first | omega | (simp; done) | (simp; omega)) _ | with_reducible refine Below.alloc ?_ (by first | omega | (simp; done) | (simp; omega) | (simp [World.setCell]; omega)) _)), by simp⟩ ?_
  rintro W ⟨⟨a1, a2, a4⟩, hB, hz⟩
  obtain ⟨B, hBe⟩ : ∃ B, w.heap.size = B := ⟨_, rfl⟩
  rw [hBe] at a1 a2 a4 hB hz hS
  simp only [hBe, Nat.add_assoc, Nat.reduceAdd]
  have hSW : CrS B W p ps := hS.below (hBe ▸ hB)
  refine' wp_range_crate B (p := p) (xs := ps) (Bn := B + 2) rfl a4 hSW (by omega)
    (fun pre W' => (∃ s : Int, At W' (B + 1) #[.int .u64 s] 26 ∧ (∀ rest, belowC q 0 (pre ++ rest) = belowC q s rest)) ∧ At W' B #[.int .i64 q] 3 ∧ Below B w W')
    (fun c pre W' => (∃ s : Int, c = .exit 0 ∧ (∀ rest, belowC q 0 (pre ++ rest) = s) ∧ At W' (B + 1) #[.int .u64 s] 26) ∧ Below B w W')
    ?hI ?hIx ?h0 _ ?assign ?body ?done ?stop
  case assign =>
    intro l x W K hK
    simp only [List.setIfInBounds_toArray, List.set_cons_zero, List.set_cons_succ]
    gi_wp2
    exact hK
  case hI => exact OwnFrom.and (OwnFrom.ex fun s => OwnFrom.and (At.own _) (OwnFrom.pure _)) (OwnFrom.and (At.own _) (ownFrom_below (n₀ := B) (w₀ := w) (by omega) (by omega)))
  case hIx => exact fun c => OwnFrom.and (OwnFrom.ex fun s => OwnFrom.and (OwnFrom.pure _) (OwnFrom.and (OwnFrom.pure _) (At.own _))) (ownFrom_below (n₀ := B) (w₀ := w) (by omega) (by omega))
  case h0 => exact ⟨⟨0, a2, fun rest => rfl⟩, a1, hB⟩
  case body =>
    rintro l pre x W' ⟨⟨s, b1, HF⟩, b2, hB'⟩ hlt
    have c1 := b1.one
    have c2 := b2.one
    replace HF := Lib.hid HF
    by_cases hle : q < x.1
    · have hle' := Lib.hid hle
      gi_wp2
      exact ⟨(KeepsOthers.refl _).from _, ⟨s, rfl, fun rest => by rw [List.append_assoc, HF.out, List.singleton_append, belowC_def, if_pos hle'.out], b1⟩, hB'⟩
    · have hle' := Lib.hid hle
      have hw : IntKind.u64.wrap (s + x.2) = (s + x.2) % 18446744073709551616 := by simp only [IntKind.wrap_u64]
      gi_wp2
      exact ⟨(KeepsOthers.setCell _ _ _).from _, KpB.set _ (by omega) (by omega) _ _, ⟨⟨_, b1.set_any 0 _ rfl, fun rest => by rw [List.append_assoc, HF.out, List.singleton_append, belowC_def, if_neg (by have := hle'.out; omega)]⟩, b2.set_other (by show B ≠ B + 1; omega) _, hB'.setCell (p := ⟨B + 1, 0, none⟩) (by show B ≤ B + 1; omega) _⟩⟩
  case done =>
    rintro D W' hD ⟨⟨s, b1, HF⟩, b2, hB'⟩ hK
    have c2 := b1.one
    have hF : belowC q 0 ps = s := by have := HF []; rwa [List.append_nil] at this
    clear HF
    go_wp2
    refine marks_mark hK (results_tmp rfl _ _ _) ⟨?_, ?_⟩
    · rw [hF]; rfl
    · rw [hBe]; exact hB'.putD hK (by omega)
  case stop =>
    rintro D c pre W' hD ⟨r, hr⟩ ⟨⟨s, rfl, HF, b1⟩, hB'⟩ hK
    have c2 := b1.one
    have hF : belowC q 0 ps = s := by rw [← hr]; exact HF r
    clear HF
    go_wp2
    refine marks_mark hK (results_tmp rfl _ _ _) ⟨?_, ?_⟩
    · rw [hF]; rfl
    · rw [hBe]; exact hB'.putD hK (by omega)
end Go.Proofs.Ytogidoohgfmbfaa

