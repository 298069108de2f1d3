/- The crate's iterator: what it hands to a loop's body; loops over it. -/
import Derived.RangeFuncNested
import Derived.RangeFuncBound
import Derived.RangeFuncCalls
import Derived.RangeFuncLeaves
import Derived.RangeFuncBox
import Derived.Shelf.Abstract
import Derived.Shelf.RegionOpen
import Derived.WalkKit
import Derived.OwnWalkIn
import Derived.TacticsInMore
import Derived.LoopNIn
import Derived.LoopIn
import Derived.Test.YtogidoohgfmbfaaProg
import Derived.Test.YtogidoohgfmbfaaPairs
namespace Go.Proofs.Ytogidoohgfmbfaa
open Go.RowKit Go.Shelf

attribute [local go_sem] Oper.semAt_some

theorem pairsC_snoc (cs : List Int) : ∀ (f : Int) (k : Nat) (hk : k < cs.length), pairsC f (cs.take (k + 1)) = pairsC f (cs.take k) ++ (if 0 < cs.getD k 0 then [(f + k, cs.getD k 0)] else []) := by
  induction cs with
  | nil => intro f k hk; simp at hk
  | cons c cs ih =>
    intro f k hk
    cases k with
    | zero => simp only [List.take_succ_cons, List.take_zero, pairsC, List.getD_cons_zero]; split <;> simp [pairsC]
    | succ k =>
      have := ih (f + 1) k (by simpa using hk)
      simp only [List.take_succ_cons, pairsC, List.getD_cons_succ]
      rw [this, show f + 1 + (k : Int) = f + (k + 1 : Nat) by omega]
      split <;> simp
theorem pairsC_prefix (cs : List Int) : ∀ (f : Int) (k : Nat), pairsC f (cs.take k) <+: pairsC f cs := by
  induction cs with
  | nil => intro f k; simp [pairsC]
  | cons c cs ih =>
    intro f k
    cases k with
    | zero => simp [pairsC]
    | succ k =>
      simp only [List.take_succ_cons, pairsC]
      split
      · exact List.cons_prefix_cons.2 ⟨rfl, ih _ _⟩
      · exact ih _ _
theorem pairsC_lt {cs : List Int} {f : Int} {k : Nat} (hk : k < cs.length) (hc : 0 < cs.getD k 0) : (pairsC f (cs.take k)).length < (pairsC f cs).length := by
  have h := (pairsC_prefix cs f (k + 1)).length_le
  rw [pairsC_snoc cs f k hk, if_pos hc, List.length_append, List.length_singleton] at h
  omega

/-- What a round of a loop keeps: the blocks that lay below n₀, and one more. -/
def KpB (n₀ Bn : Nat) (W W' : World) : Prop := ∀ k, k < n₀ ∨ k = Bn → W'.heap[k]? = W.heap[k]?
theorem KpB.trans {n₀ Bn : Nat} {A B C : World} (h : KpB n₀ Bn A B) (k : KpB n₀ Bn B C) : KpB n₀ Bn A C := fun i hi => (k i hi).trans (h i hi)
theorem KpB.refl (n₀ Bn : Nat) (A : World) : KpB n₀ Bn A A := fun _ _ => rfl
theorem KpB.turn {n₀ Bn : Nat} {w : World} (hn : n₀ ≤ w.heap.size) (hB : Bn < w.heap.size) (W : World) (l : Nat) (o o' : Obj) (hl : w.heap.size ≤ l) (_ : W.heap[l]? = some o) (_ : o.isCells = false) (_ : o.isWalk = false) : KpB n₀ Bn W (W.putObj l o') :=
  fun k hk => World.putObj_heap_other (fun e => by omega)
theorem KpB.at {n₀ Bn k : Nat} {A B : World} {cs : Array Value} {T : TypeId} (h : KpB n₀ Bn A B) (hs : At A k cs T) (hk : k < n₀ ∨ k = Bn) : At B k cs T := (h k hk).trans hs
theorem KpB.set {n₀ Bn b : Nat} (W : World) (hb : n₀ ≤ b) (hn : b ≠ Bn) (i : Nat) (v : Value) : KpB n₀ Bn W (W.setCell ⟨b, i, none⟩ v) := fun k hk => Below.heap_setCell W _ v k (by show k ≠ b; omega)
theorem KpB.crate {n₀ Bn b g : Nat} {A B : World} {f tot : Int} {cs : List Int} (h : KpB n₀ Bn A B) (hs : CrB A b g f cs tot) (hb : b < n₀) (hg : g < n₀) : CrB B b g f cs tot := ⟨h.at hs.1 (.inl hb), fun hn => h.at (hs.2 hn) (.inl hg)⟩

def encP (x : Int × Int) : Array Value := #[.int .i64 x.1, .int .u64 x.2]

theorem crall_any (p : Option Addr) (w : World) :
    Calls Try.prog 14 #[.pointer p] w fun e w' => e = .returned (.func (.func 25) #[] #[.pointer (some ⟨w.heap.size, 0, none⟩)]) ∧ w' = w.alloc (.cells #[.pointer p] 24) := by
  go_enter Try.func14, Try.ntmps14
  go_wp2
  go_ret
  exact ⟨rfl, rfl⟩

set_option maxRecDepth 100000 in
set_option maxHeartbeats 2000000 in
theorem crall1_in (F : Fence) (n : Nat) (h8 : F.fn 25) (hro : F.round = none) (hn : 1 ≤ n) (l Bn n₀ b g : Nat) (f tot : Int) (cs : List Int) (hb : b < n₀) (hg : g < n₀) (ok : CrOk f cs tot) (J Jx : List (Int × Int) → World → Prop)
    (hY : ∀ pre x W, J pre W → pre.length < (pairsC f cs).length → YieldAt F (n - 1) Try.prog l (encP x) W fun e W' =>
      (e = .returned (.bool true) ∧ J (pre ++ [x]) W' ∧ KpB n₀ Bn W W') ∨ (e = .returned (.bool false) ∧ Jx (pre ++ [x]) W'))
    (W : World) (hBn : At W Bn #[.pointer (some ⟨b, 0, none⟩)] 24) (hC : CrB W b g f cs tot) (h0 : J [] W) :
    CallsIn F n Try.prog 25 #[.func (.yield l) #[] #[], .pointer (some ⟨Bn, 0, none⟩)] W fun e W' => (∃ v, e = .returned v) ∧
      ((∃ ys, ys = pairsC f cs ∧ J ys W') ∨ (∃ pre, pre <+: pairsC f cs ∧ Jx pre W')) := by
  obtain ⟨o1, o2, o3, o4, o5, o6, o7⟩ := ok
  refine callsIn_of_wp Try.func25 rfl h8 ?_ hro
  simp only [Try.ntmps25, List.size_toArray, List.length_cons, List.length_nil, Nat.reduceAdd, Nat.reduceSub, Array.replicate_succ, Array.replicate_zero, List.push_toArray, List.append_toArray, List.nil_append, List.cons_append]
  have c0 := hBn.one.1
  obtain ⟨n', hN⟩ : ∃ n', cs.length = n' := ⟨_, rfl⟩
  obtain ⟨A, c1, hA⟩ : ∃ A, W.cell? ⟨b, 1, none⟩ = some (.slice A n' n') ∧ (cs ≠ [] → A = some ⟨g, 0, none⟩) := by
    have := hC.1.three.2.1
    rw [hN] at this
    exact ⟨_, this, fun h => if_neg h⟩
  gi_wp2
  gi_loopw [12] (fun i wr => ∃ k : Nat, k ≤ n' ∧ i = .int .i64 k ∧ J (pairsC f (cs.take k)) wr ∧ KpB n₀ Bn W wr) (fun i _ => n' - (intOf i).toNat)
  case atStart => exact ⟨0, Nat.zero_le _, rfl, h0, KpB.refl _ _ _⟩
  case round =>
    obtain ⟨k, hk, rfl, hJs, hK⟩ := hrel
    by_cases hlt : k < n'
    · have hn0 : cs ≠ [] := by intro e; subst e; simp at hN; omega
      obtain rfl := hA hn0
      have s1 := (hK.at hC.1 (.inl hb))
      have c2 := s1.three.1
      have c3 := (hK.at hBn (.inr rfl)).one.1
      have c4 := (hK.at (hC.2 hn0) (.inl hg)).ints (k := k) (by omega)
      have hv := (getD_mem (P := fun c => 0 ≤ c ∧ c ≤ tot) o5 (k := k) (by omega)).1
      have HS := Lib.hid (pairsC_snoc cs f k (by omega))
      have HL := Lib.hid (fun h => pairsC_lt (f := f) (k := k) (cs := cs) (by omega) h)
      have hfk : IntKind.i64.wrap (f + k) = f + k := by simp only [IntKind.wrap_i64]; omega
      obtain ⟨v, hv'⟩ : ∃ v, cs.getD k 0 = v := ⟨_, rfl⟩
      rw [hv'] at c4 hv HS HL
      clear hv'
      have hk0 : (0 : Int) ≤ k := by omega
      have hk1 : (k : Int) < n' := by omega
      by_cases h1 : 0 < v
      · obtain ⟨fn, tmps, assign, body, hy, hR⟩ := hY _ (f + k, v) wr hJs (HL.out h1)
        have HS' := HS.out
        rw [if_pos h1] at HS'
        replace HS' := Lib.hid HS'
        unfold encP at hy
        dsimp only at hy
        gi_wp2
        refine hR.mono ?_
        rintro e W3 (⟨rfl, hJ3, hk3⟩ | ⟨rfl, hJx3⟩)
        · gi_wp2
          go_roundw
          case rel => exact ⟨k + 1, by omega, by simp, by rw [HS'.out]; exact hJ3, hK.trans hk3⟩
          case measure => simp [intOf]; omega
        · gi_wp2
          refine bodyPost_ret (results_none rfl _ _ _) rfl ?_
          refine ⟨⟨_, rfl⟩, .inr ⟨_, ?_, hJx3⟩⟩
          rw [← HS'.out]
          exact pairsC_prefix _ _ _
      · have HS' := HS.out
        rw [if_neg h1, List.append_nil] at HS'
        replace HS' := Lib.hid HS'
        gi_wp2
        refine ⟨fun _ h => (by cases h), ?_⟩
        gi_wp2
        go_roundw
        case rel => exact ⟨k + 1, by omega, by simp, by rw [HS'.out]; exact hJs, hK⟩
        case measure => simp [intOf]; omega
    · obtain rfl : k = n' := by omega
      gi_wp2
      go_end0
      rw [List.take_of_length_le (by omega)] at hJs
      exact ⟨⟨_, rfl⟩, .inl ⟨_, rfl, hJs⟩⟩

set_option maxRecDepth 100000 in
theorem crall1_nil_in (F : Fence) (n : Nat) (h8 : F.fn 25) (hro : F.round = none) (l Bn : Nat) (J : List (Int × Int) → World → Prop)
    (W : World) (hBn : At W Bn #[.pointer none] 24) (h0 : J [] W) :
    CallsIn F n Try.prog 25 #[.func (.yield l) #[] #[], .pointer (some ⟨Bn, 0, none⟩)] W fun e W' => (∃ v, e = .returned v) ∧ J [] W' := by
  refine callsIn_of_wp Try.func25 rfl h8 ?_ hro
  simp only [Try.ntmps25, List.size_toArray, List.length_cons, List.length_nil, Nat.reduceAdd, Nat.reduceSub, Array.replicate_succ, Array.replicate_zero, List.push_toArray, List.append_toArray, List.nil_append, List.cons_append]
  have c0 := hBn.one.1
  gi_wp2
  refine bodyPost_ret (results_none rfl _ _ _) rfl ?_
  exact ⟨⟨_, rfl⟩, h0⟩

/-- What a range over a crate, or over none, goes over. -/
def CrS (n₀ : Nat) (W : World) (p : Option Addr) (ps : List (Int × Int)) : Prop :=
  (p = none ∧ ps = []) ∨ ∃ b g f tot cs, p = some ⟨b, 0, none⟩ ∧ CrB W b g f cs tot ∧ CrOk f cs tot ∧ b < n₀ ∧ g < n₀ ∧ ps = pairsC f cs

theorem CrS.below {n₀ : Nat} {w w' : World} {p : Option Addr} {ps : List (Int × Int)} (h : CrS n₀ w p ps) (hb : Below w.heap.size w w') : CrS n₀ w' p ps := by
  rcases h with h | ⟨b, g, f, tot, cs, h1, h2, h3⟩
  · exact .inl h
  · exact .inr ⟨b, g, f, tot, cs, h1, h2.below hb, h3⟩

theorem crall_stops (F : Fence) (n : Nat) (h8 : F.fn 25) (hro : F.round = none) (hn : 1 ≤ n) (Bn n₀ : Nat) (p : Option Addr) (ps : List (Int × Int)) (w : World) (hBn : At w Bn #[.pointer p] 24) (hS : CrS n₀ w p ps) :
    SeqStopsK F n Try.prog 25 #[.pointer (some ⟨Bn, 0, none⟩)] encP (KpB n₀ Bn) (fun ys => ys = ps) (fun pre => pre <+: ps) ps.length w := fun l J Jx W hW _ _ hY h0 => by
  rcases hS.below hW with ⟨rfl, rfl⟩ | ⟨b, g, f, tot, cs, rfl, hC, ok, hb, hg, rfl⟩
  · exact (crall1_nil_in F n h8 hro l Bn J W (hBn.below hW) h0).mono fun e W' ⟨he, hj⟩ => ⟨he, .inl ⟨_, rfl, hj⟩⟩
  · exact crall1_in F n h8 hro hn l Bn n₀ b g f tot cs hb hg ok J Jx hY W (hBn.below hW) hC h0

theorem calls_of_wp_marks {P : Program} {f : FuncId} {fn : Func} {c : Code} {args : Array Value} {w : World} {R : Ending → World → Prop} (hf : P.funcs[f]? = some fn) (hb : fn.body = some c)
    (h : c.wp P (bodyPostM Fence.wide 5 P fn R) { tmps := args ++ Array.replicate (fn.ntmps - args.size) undef, defers := [] } w) : Calls P f args w R :=
  (callsIn_wide (n := 5)).1 (callsIn_of_wp_marks (F := Fence.wide) (n := 5) hf hb trivial (wpIn_wide.2 h) rfl)

/-- A loop over a crate's iterator, in a plain walk. -/
theorem wp_range_crate {gop : Operand} {p0 p1 : Tmp} {assign body : Code} {Q : Exit → Act → World → Prop} {a : Act} {w : World} {Bn : Nat} (n₀ : Nat) {p : Option Addr} {xs : List (Int × Int)}
    (hg : a.eval gop = .func (.func 25) #[] #[.pointer (some ⟨Bn, 0, none⟩)])
    (hBn : At w Bn #[.pointer p] 24) (hS : CrS n₀ w p xs) (hn₀ : n₀ ≤ w.heap.size)
    (I : List (Int × Int) → World → Prop) (Ix : Code → List (Int × Int) → World → Prop) (hI : OwnFrom w.heap.size I) (hIx : ∀ c, OwnFrom w.heap.size (Ix c)) (h0 : I [] w) (a₁ : Int × Int → Act)
    (hassign : ∀ (l : Nat) (x : Int × Int) (W : World) (K : Act → World → Prop), K (a₁ x) W →
      assign.wpIn (Fence.wide.inRound l) 3 Try.prog (Exit.then K (fun _ _ _ => False)) { tmps := (a.tmps.setIfInBounds p0 (.int .i64 x.1)).setIfInBounds p1 (.int .u64 x.2), defers := [] } W)
    (hbody : ∀ (l : Nat) (pre : List (Int × Int)) (x : Int × Int) (W : World), I pre W → pre.length < xs.length → body.wpIn (Fence.wide.inRound l) 3 Try.prog (ownPostG w.heap.size (KpB n₀ Bn) I Ix (pre ++ [x]) W) (a₁ x) W)
    (hdone : ∀ (D : Nat) (W : World), w.heap.size ≤ D → I xs W → W.heap[D]? = some (.deferred (some [])) → Q .normal { a with defers := { target := .collected D, args := #[] } :: a.defers } W)
    (hstop : ∀ (D : Nat) (c : Code) (pre : List (Int × Int)) (W : World), w.heap.size ≤ D → pre <+: xs → Ix c pre W → W.heap[D]? = some (.deferred (some [])) → c.wp Try.prog Q { a with defers := { target := .collected D, args := #[] } :: a.defers } W) :
    (Code.rangeFunc gop #[p0, p1] assign body).wp Try.prog Q a w :=
  (wpIn_wide (n := 5)).1 (wpIn_rangeFunc_ownG (F := Fence.wide) (n := 5) rfl (by omega) hg trivial (enters_of Try.func25 (by kernel_rfl) rfl)
    (crall_stops Fence.wide 4 trivial rfl (by omega) Bn n₀ p xs w hBn hS) (fun h k => h.trans k) (KpB.turn hn₀ hBn.lt) (Below.refl _ _) (fun x => rfl) I Ix hI hIx h0 a₁ (fun l x W K h => by have := hassign l x W K h; simpa [encP] using this) hbody
    (fun D ys W hD e hi hK => by subst e; exact hdone D W hD hi hK) (fun D c pre W hD hp hi hK => wpIn_wide.2 (hstop D c pre W hD hp hi hK)))

/-! What a caller's own blocks hold abides the turn of what is no cells. -/
theorem At.grown {W W' : World} {row : Option Nat} {b : Nat} {cs : Array Value} {T : TypeId} (h : At W b cs T) (hg : W.grownBy W' row) (hr : ∀ r, row = some r → ∃ o : Obj, W.heap[r]? = some o ∧ o.isCells = false) : At W' b cs T := by
  refine (hg.block b h.lt ?_).trans h
  intro e
  obtain ⟨o, ho, hc⟩ := hr b e.symm
  rw [show W.heap[b]? = _ from h] at ho
  cases ho
  cases hc
theorem At.own {β : Type} {B b : Nat} {T : TypeId} (cs : β → Array Value) : OwnFrom B (fun (s : β) W => At W b (cs s) T) := fun s W W' row h hg hr => h.grown hg fun r e => (hr r e).2
theorem OwnFrom.ex {β γ : Type} {B : Nat} {I : γ → β → World → Prop} (h : ∀ c, OwnFrom B (I c)) : OwnFrom B (fun s W => ∃ c, I c s W) := fun s W W' row ⟨c, hc⟩ hg hr => ⟨c, h c s W W' row hc hg hr⟩
theorem OwnFrom.pure {β : Type} {B : Nat} (p : β → Prop) : OwnFrom B (fun s (_ : World) => p s) := fun _ _ _ _ h _ _ => h
theorem Own2.grown {base cap : Nat} {W W' : World} {row : Option Nat} {A : Option Addr} {ps : List (Int × Int)} (h : Own2 base W A cap ps) (hg : W.grownBy W' row) (hr : ∀ r, row = some r → ∃ o : Obj, W.heap[r]? = some o ∧ o.isCells = false) : Own2 base W' A cap ps := by
  refine World.ownsRow.kept h hg ?_
  rcases h.2 with ⟨e, _⟩ | ⟨g, c, cur, e, _, hgb, _⟩
  · rw [e]; exact .inl rfl
  · refine .inr fun e' => ?_
    rw [e] at e'
    obtain ⟨o, ho, hc⟩ := hr g (by simpa [Value.ownBlock] using e'.symm)
    rw [hgb] at ho
    cases ho
    cases hc
theorem frame_own {β : Type} (S : List Nat) (w1 : World) : OwnFrom w1.heap.size (fun (_ : β) W => Frame S w1 W) := fun _ W W' row h hg hr =>
  ⟨hg.os.trans h.os, hg.tape.trans h.tape, hg.output.trans h.output, Nat.le_trans h.size hg.size, fun k hk hn => (hg.block k (Nat.lt_of_lt_of_le hk h.size) fun e => by have := (hr k e.symm).1; omega).trans (h.block k hk hn)⟩
theorem Below.ownF {β : Type} {w w1 : World} {n : Nat} (hn : n ≤ w1.heap.size) (hz : n = w.heap.size) : OwnFrom w1.heap.size (fun (_ : β) W => Below w.heap.size w W) := by
  subst hz
  exact ownFrom_below (Nat.le_refl _) hn
end Go.Proofs.Ytogidoohgfmbfaa

