/- Package share's Even: what its iterator hands to a loop's body. -/
import Derived.Test.YtadnnpjnmfddmaaProg
import Derived.Test.YtadnnpjnmfddmaaLoops
namespace Go.Proofs.Ytadnnpjnmfddmaa
open Go.RowKit Go.Shelf

attribute [local go_sem] Oper.semAt_some

def encR (x : Int × Int) : Array Value := #[.agg #[.int .u64 x.1, .int .u64 x.2]]
/-- The parts of a whole, with so many steps. -/
def evenL (n : Nat) : List (Int × Int) := if n = 0 then [] else (List.range (n + 1)).map fun i : Nat => ((i : Int), (n : Int))
def evenK (n k : Nat) : List (Int × Int) := (List.range k).map fun i : Nat => ((i : Int), (n : Int))
theorem evenK_succ (n k : Nat) : evenK n (k + 1) = evenK n k ++ [((k : Int), (n : Int))] := by simp [evenK, List.range_succ]
theorem evenK_length (n k : Nat) : (evenK n k).length = k := by simp [evenK]
theorem evenL_eq {n : Nat} (h : 0 < n) : evenL n = evenK n (n + 1) := by unfold evenL evenK; rw [if_neg (by omega)]
theorem evenK_prefix (n k j : Nat) (h : k ≤ j) : evenK n k <+: evenK n j := by
  rw [show evenK n k = (evenK n j).take k by unfold evenK; rw [← List.map_take, List.take_range, Nat.min_eq_left h]]
  exact List.take_prefix _ _
theorem evenK_at (n k j : Nat) (h : k < j) : (evenK n j)[k]? = some ((k : Int), (n : Int)) := by
  unfold evenK
  rw [List.getElem?_map, List.getElem?_range h]
  rfl

theorem even_any (p : Int) (w : World) :
    Calls Try.prog 17 #[.int .i64 p] w fun e w' => e = .returned (.func (.func 25) #[] #[.pointer (some ⟨w.heap.size, 0, none⟩)]) ∧ w' = w.alloc (.cells #[.int .i64 p] 3) := by
  go_enter Try.func17, Try.ntmps17
  go_wp2
  go_ret
  exact ⟨rfl, rfl⟩

set_option maxRecDepth 100000 in
set_option maxHeartbeats 2000000 in
theorem even1_in (F : Fence) (n : Nat) (h8 : F.fn 25) (hro : F.round = none) (hn : 1 ≤ n) (l Bn : Nat) (m : Nat) (hm0 : 0 < m) (hm : m ≤ 4611686018427387904) (J Jx : List (Int × Int) → World → Prop)
    (hY : ∀ pre x W, J pre W → pre.length < m + 1 → YieldAt F (n - 1) Try.prog l (encR x) W fun e W' =>
      (e = .returned (.bool true) ∧ J (pre ++ [x]) W' ∧ KpB 0 Bn W W') ∨ (e = .returned (.bool false) ∧ Jx (pre ++ [x]) W'))
    (W : World) (hBn : At W Bn #[.int .i64 m] 3) (h0 : J [] W) :
    CallsIn F n Try.prog 25 #[.func (.yield l) #[] #[], .pointer (some ⟨Bn, 0, none⟩)] W fun e W' => (∃ v, e = .returned v) ∧
      ((∃ ys, ys = evenK m (m + 1) ∧ J ys W') ∨ (∃ pre, (∃ k, k ≤ m + 1 ∧ pre = evenK m k) ∧ Jx pre W')) := by
  refine callsIn_of_wp Try.func25 rfl h8 ?_ hro
  simp only [Try.ntmps25, List.size_toArray, List.length_cons, List.length_nil, Nat.reduceAdd, Nat.reduceSub, Array.replicate_succ, Array.replicate_zero, List.push_toArray, List.append_toArray, List.nil_append, List.cons_append]
  gi_wp2
  gi_loopw [3] (fun i wr => ∃ k : Nat, k ≤ m + 1 ∧ i = .int .i64 k ∧ J (evenK m k) wr ∧ KpB 0 Bn W wr) (fun i _ => m + 1 - (intOf i).toNat)
  case atStart => exact ⟨0, Nat.zero_le _, rfl, h0, KpB.refl _ _ _⟩
  case round =>
    obtain ⟨k, hk, rfl, hJs, hK⟩ := hrel
    have c3 := (hK.at hBn (.inr rfl)).one.1
    have hm1 : (0 : Int) < m := by omega
    by_cases hlt : k ≤ m
    · have v1 : IntKind.u64.wrap (k : Int) = k := by simp only [IntKind.wrap_u64]; omega
      have v2 : IntKind.u64.wrap (m : Int) = m := by simp only [IntKind.wrap_u64]; omega
      have v3 : IntKind.i64.wrap ((k : Int) + 1) = k + 1 := by simp only [IntKind.wrap_i64]; omega
      have hlt' : (k : Int) ≤ m := by omega
      obtain ⟨fn, tmps, assign, body, hy, hR⟩ := hY _ ((k : Int), (m : Int)) wr hJs (by rw [evenK_length]; omega)
      unfold encR at hy
      dsimp only at hy
      gi_wp2
      refine hR.mono ?_
      rintro e W3 (⟨rfl, hJ3, hk3⟩ | ⟨rfl, hJx3⟩)
      · gi_wp2
        go_roundw
        case rel => exact ⟨k + 1, by omega, by go_num, by rw [evenK_succ]; exact hJ3, hK.trans hk3⟩
        case measure => simp [intOf]; omega
      · gi_wp2
        refine bodyPost_ret (results_none rfl _ _ _) rfl ?_
        exact ⟨⟨_, rfl⟩, .inr ⟨_, ⟨k + 1, by omega, (evenK_succ _ _).symm⟩, hJx3⟩⟩
    · obtain rfl : k = m + 1 := by omega
      have hlt' : ¬ ((m + 1 : Nat) : Int) ≤ m := by omega
      gi_wp2
      go_end0
      exact ⟨⟨_, rfl⟩, .inl hJs⟩

set_option maxRecDepth 100000 in
theorem even1_nil_in (F : Fence) (n : Nat) (h8 : F.fn 25) (hro : F.round = none) (l Bn : Nat) (p : Int) (hp : p ≤ 0) (J : List (Int × Int) → World → Prop)
    (W : World) (hBn : At W Bn #[.int .i64 p] 3) (h0 : J [] W) :
    CallsIn F n Try.prog 25 #[.func (.yield l) #[] #[], .pointer (some ⟨Bn, 0, none⟩)] W fun e W' => (∃ v, e = .returned v) ∧ J [] W' := by
  refine callsIn_of_wp Try.func25 rfl h8 ?_ hro
  simp only [Try.ntmps25, List.size_toArray, List.length_cons, List.length_nil, Nat.reduceAdd, Nat.reduceSub, Array.replicate_succ, Array.replicate_zero, List.push_toArray, List.append_toArray, List.nil_append, List.cons_append]
  gi_wp2
  gi_loopw [3] (fun i wr => i = .int .i64 0 ∧ J [] wr ∧ KpB 0 Bn W wr) (fun _ _ => 0)
  case atStart => exact ⟨rfl, h0, KpB.refl _ _ _⟩
  case round =>
    obtain ⟨rfl, hJs, hK⟩ := hrel
    have c3 := (hK.at hBn (.inr rfl)).one.1
    have hp' : ¬ (0 : Int) < p := by omega
    gi_wp2
    go_end0
    exact ⟨⟨_, rfl⟩, hJs⟩

/-- What a range over Even goes over. -/
def evenI (p : Int) : List (Int × Int) := evenL p.toNat
theorem even_stops (F : Fence) (n : Nat) (h8 : F.fn 25) (hro : F.round = none) (hn : 1 ≤ n) (Bn : Nat) (p : Int) (hp : p ≤ 4611686018427387904) (w : World) (hBn : At w Bn #[.int .i64 p] 3) :
    SeqStopsK F n Try.prog 25 #[.pointer (some ⟨Bn, 0, none⟩)] encR (KpB 0 Bn) (fun ys => ys = evenI p) (fun pre => pre <+: evenI p) (evenI p).length w := fun l J Jx W hW _ _ hY h0 => by
  by_cases h : p ≤ 0
  · have e : evenI p = [] := by unfold evenI evenL; rw [if_pos (by omega)]
    rw [e]
    exact (even1_nil_in F n h8 hro l Bn p h J W (hBn.below hW) h0).mono fun e W' ⟨he, hj⟩ => ⟨he, .inl ⟨_, rfl, hj⟩⟩
  · obtain ⟨m, rfl⟩ : ∃ m : Nat, p = m := ⟨p.toNat, by omega⟩
    have e : evenI (m : Int) = evenK m (m + 1) := by unfold evenI; rw [Int.toNat_natCast, evenL_eq (by omega)]
    rw [e] at hY ⊢
    rw [evenK_length] at hY
    refine (even1_in F n h8 hro hn l Bn m (by omega) (by omega) J Jx hY W (hBn.below hW) h0).mono ?_
    rintro e W' ⟨he, h | ⟨pre, ⟨k, hk, rfl⟩, hj⟩⟩
    · exact ⟨he, .inl h⟩
    · exact ⟨he, .inr ⟨_, evenK_prefix m k (m + 1) hk, hj⟩⟩

theorem KpB.alloc0 {Bn : Nat} {W W' : World} (h : KpB 0 Bn W W') (hl : Bn < W'.heap.size) (o : Obj) : KpB 0 Bn W (W'.alloc o) := fun k hk => (Below.heap_alloc W' o k (by omega)).trans (h k hk)
theorem KpB.set0 {Bn b : Nat} {W W' : World} (h : KpB 0 Bn W W') (hn : b ≠ Bn) (i : Nat) (v : Value) : KpB 0 Bn W (W'.setCell ⟨b, i, none⟩ v) := fun k hk => (Below.heap_setCell W' _ v k (by show k ≠ b; omega)).trans (h k hk)

/-- A loop over Even's iterator, in a plain walk; the loop's variable lies in a box. -/
theorem wp_range_even {gop : Operand} {p0 : Tmp} {assign body : Code} {Q : Exit → Act → World → Prop} {a : Act} {w : World} {Bn : Nat} {p : Int} (hp : p ≤ 4611686018427387904)
    (hg : a.eval gop = .func (.func 25) #[] #[.pointer (some ⟨Bn, 0, none⟩)])
    (hBn : At w Bn #[.int .i64 p] 3)
    (I : List (Int × Int) → World → Prop) (Ix : Code → List (Int × Int) → World → Prop) (hI : OwnFrom w.heap.size I) (hIx : ∀ c, OwnFrom w.heap.size (Ix c)) (h0 : I [] w) (A : Int × Int → Nat → Act)
    (hassign : ∀ (l : Nat) (pre : List (Int × Int)) (x : Int × Int) (W : World) (K : Act → World → Prop), I pre W →
      (∀ Bx W', w.heap.size ≤ Bx → At W' Bx #[.int .u64 x.1, .int .u64 x.2] 24 → KeepsFrom w.heap.size W W' → KpB 0 Bn W W' → I pre W' → K (A x Bx) W') →
      assign.wpIn (Fence.wide.inRound l) 3 Try.prog (Exit.then K (fun _ _ _ => False)) { tmps := a.tmps.setIfInBounds p0 (.agg #[.int .u64 x.1, .int .u64 x.2]), defers := [] } W)
    (hbody : ∀ (l : Nat) (pre : List (Int × Int)) (x : Int × Int) (Bx : Nat) (W : World), w.heap.size ≤ Bx → At W Bx #[.int .u64 x.1, .int .u64 x.2] 24 → I pre W → pre.length < (evenI p).length → body.wpIn (Fence.wide.inRound l) 3 Try.prog (ownPostG w.heap.size (KpB 0 Bn) I Ix (pre ++ [x]) W) (A x Bx) W)
    (hdone : ∀ (D : Nat) (W : World), w.heap.size ≤ D → I (evenI p) W → W.heap[D]? = some (.deferred (some [])) → Q .normal { a with defers := { target := .collected D, args := #[] } :: a.defers } W)
    (hstop : ∀ (D : Nat) (c : Code) (pre : List (Int × Int)) (W : World), w.heap.size ≤ D → pre <+: evenI p → Ix c pre W → W.heap[D]? = some (.deferred (some [])) → c.wp Try.prog Q { a with defers := { target := .collected D, args := #[] } :: a.defers } W) :
    (Code.rangeFunc gop #[p0] assign body).wp Try.prog Q a w :=
  (wpIn_wide (n := 5)).1 (wpIn_rangeFunc_ownH (F := Fence.wide) (n := 5) rfl (by omega) hg trivial (enters_of Try.func25 (by kernel_rfl) rfl)
    (even_stops Fence.wide 4 trivial rfl (by omega) Bn p hp w hBn) (fun h k => h.trans k) (KpB.turn (Nat.zero_le _) hBn.lt) (Below.refl _ _) (fun x => rfl) I Ix hI hIx h0
    (fun x a' W => ∃ Bx, w.heap.size ≤ Bx ∧ At W Bx #[.int .u64 x.1, .int .u64 x.2] 24 ∧ a' = A x Bx)
    (fun x a' _ X Y row ⟨Bx, h1, h2, h3⟩ hg hr => ⟨Bx, h1, h2.grown hg fun r e => (hr r e).2, h3⟩)
    (fun l pre x W K hi hK => by
      have := hassign l pre x W K hi (fun Bx W' h1 h2 h3 h4 h5 => hK _ W' h3 h4 h5 ⟨Bx, h1, h2, rfl⟩)
      simpa [encR] using this)
    (fun l pre x a' W _ _ hi ⟨Bx, h1, h2, e⟩ hlt => by subst e; exact hbody l pre x Bx W h1 h2 hi hlt)
    (fun D ys W hD e hi hK => by subst e; exact hdone D W hD hi hK) (fun D c pre W hD hp hi hK => wpIn_wide.2 (hstop D c pre W hD hp hi hK)))

theorem evenI_pos {p : Int} (h : 0 < p) : (evenI p).length = p.toNat + 1 ∧ ∀ k : Nat, (k : Int) ≤ p → (evenI p)[k]? = some ((k : Int), p) := by
  obtain ⟨m, rfl⟩ : ∃ m : Nat, p = m := ⟨p.toNat, by omega⟩
  unfold evenI
  rw [Int.toNat_natCast, evenL_eq (by omega), evenK_length]
  exact ⟨rfl, fun k hk => evenK_at m k (m + 1) (by omega)⟩
theorem evenI_nil {p : Int} (h : ¬ 0 < p) : evenI p = [] := by
  unfold evenI evenL
  rw [if_pos (by omega)]
end Go.Proofs.Ytadnnpjnmfddmaa

