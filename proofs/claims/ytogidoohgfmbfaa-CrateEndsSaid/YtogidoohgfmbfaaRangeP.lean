/- Contract of package crate's Pairs: a loop over the crate's iterator that appends. -/
import Derived.Test.YtogidoohgfmbfaaProg
import Derived.Test.YtogidoohgfmbfaaRange
namespace Go.Proofs.Ytogidoohgfmbfaa
open Go.RowKit Go.Shelf

attribute [local go_sem] Oper.semAt_some

/-- The world has grown: one row of pairs at most has been written. -/
def GrewP (base : Nat) (w w' : World) : Prop := ∃ row, w.grownBy w' row ∧ ∀ r, row = some r → base ≤ r ∧ ∃ cs, w.heap[r]? = some (.cells cs 28 (0, 0))
theorem GrewP.at {base : Nat} {w w' : World} (h : GrewP base w w') {b : Nat} {cs : Array Value} {T : TypeId} (hs : At w b cs T) (hT : T ≠ 28) : At w' b cs T := by
  obtain ⟨row, hg, hr⟩ := h
  refine (hg.block b hs.lt fun e => ?_).trans hs
  obtain ⟨_, cs', hc⟩ := hr b e.symm
  rw [show w.heap[b]? = _ from hs] at hc
  injection hc with hc
  injection hc with _ hc
  exact hT hc
theorem GrewP.keeps {base : Nat} {w w' : World} (h : GrewP base w w') : KeepsOthers w w' := by
  obtain ⟨row, hg, hr⟩ := h
  refine KeepsOthers.of_grownBy hg fun j o e ho => ?_
  obtain ⟨_, cs', hc⟩ := hr j e
  rw [hc] at ho
  cases ho
  rfl
theorem GrewP.below {base : Nat} {w0 w w' : World} (h : GrewP base w w') (hB : Below base w0 w) (hz : base ≤ w.heap.size) : Below base w0 w' := by
  obtain ⟨row, hg, hr⟩ := h
  exact hB.grown hg hz fun k e => (hr k e).1

theorem wpListIn_append_pair {F : Fence} {nF : Nat} {ops : Array Oper} {rest : List Oper} {o : Oper} {a : Act} {Q : Exit → Act → World → Prop} {w : World} (hgd : o.guard = none) (s x : Operand)
    (ho : o.op = .call { callee := .builtin .append, args := #[s, x], argTypes := #[22, 22] })
    (base : Nat) (A : Option Addr) (cap n : Nat) (ps : List (Int × Int)) (hs : a.eval s = .slice A n cap) (hn : ps.length = n) (hown : Own2 base w A cap ps)
    (ad : Addr) (c : Nat) (p : Int × Int) (hx : a.eval x = .slice (some ad) 1 c) (h0 : w.cell? (ad.add 0) = some (.int .i64 p.1)) (h1 : w.cell? (ad.add 1) = some (.int .u64 p.2))
    (hlen : n ≤ 1099511627776) (hbase : base ≤ w.heap.size)
    (h : ∀ A' cap' w', Hid (Own2 base w' A' cap' (ps ++ [p])) → GrewP base w w' → wpListIn F nF Try.prog ops Q rest (a.put o.dst (.slice A' (n + 1) cap')) w') :
    wpListIn F nF Try.prog ops Q (o :: rest) a w := by
  subst hn
  obtain ⟨i, hi, hz, hsz, hby⟩ : ∃ i, Try.prog.info? 28 = some i ∧ i.zero = some (.agg #[.int .i64 0, .int .u64 0]) ∧ i.size = 2 ∧ i.bytes = 16 := by
    have := Try.infoPair
    cases hh : Try.prog.info? 28 with
    | none => rw [hh] at this; cases this
    | some i =>
      rw [hh] at this
      simp only [Option.map_some, Option.some.injEq, Prod.mk.injEq] at this
      exact ⟨i, rfl, this.1, this.2.1, this.2.2⟩
  refine wpListIn_append_own w hgd s x _ ho base _ i _ 2 16 Try.underlyingRow hi hz hsz hby rfl (by decide) _ ps.length (flatP ps) hs hown ad 1 c [.int .i64 p.1, .int .u64 p.2] hx rfl ?_ ?_ (by simp only [maxLen]; omega) (by omega) hbase ?_
  · intro j u hj
    match j, hj with
    | 0, hj => simp only [List.getElem?_cons_zero, Option.some.injEq] at hj; subst hj; exact h0
    | 1, hj => simp only [List.getElem?_cons_succ, List.getElem?_cons_zero, Option.some.injEq] at hj; subst hj; exact h1
  · intro u hu
    simp only [List.mem_cons, List.not_mem_nil, or_false] at hu
    rcases hu with rfl | rfl <;> rfl
  · intro v' w' hown' hg _
    rw [← flatP_snoc] at hown'
    have hl : (ps ++ [p]).length = ps.length + 1 := by simp
    have hG : GrewP base w w' := ⟨_, hg, fun r e => by
      rcases hown.2 with ⟨e', _⟩ | ⟨g, cp, cur, e', hb, hc, _⟩
      · rw [e'] at e; cases e
      · rw [e'] at e
        obtain rfl : g = r := by simpa [Value.ownBlock] using e
        exact ⟨hb, _, hc⟩⟩
    rcases hown'.2 with ⟨e, hn⟩ | ⟨g, cp, cur, rfl, r⟩
    · omega
    · exact h _ _ _ (by show Own2 _ _ _ _ _; unfold Own2; rw [hl]; exact hown') hG

theorem Own2.set_other {base cap b i : Nat} {w : World} {A : Option Addr} {ps : List (Int × Int)} {cs : Array Value} {T : TypeId} {v : Value} (h : Own2 base w A cap ps) (hs : At w b cs T) (hT : T ≠ 28) : Own2 base (w.setCell ⟨b, i, none⟩ v) A cap ps := by
  obtain ⟨h1, h2⟩ := h
  refine ⟨h1, ?_⟩
  rcases h2 with h2 | ⟨g, c, cur, e, hg, hc, r⟩
  · exact .inl h2
  · refine .inr ⟨g, c, cur, e, hg, (Below.heap_setCell w _ v g ?_).trans hc, r⟩
    intro e2
    rw [show g = b from e2, show w.heap[b]? = _ from hs] at hc
    injection hc with hc
    injection hc with _ hc
    exact hT hc

set_option maxRecDepth 100000 in
set_option maxHeartbeats 2000000 in
theorem crpairs_any (w : World) (p : Option Addr) (ps : List (Int × Int)) (hS : CrS w.heap.size w p ps) (hlen : ps.length ≤ 1048576) :
    Calls Try.prog 12 #[.pointer p] w fun e w' => ∃ A cap, e = .returned (.slice A ps.length cap) ∧ Own2 w.heap.size w' A cap ps ∧ Below w.heap.size w w' := by
  refine calls_of_wp_marks Try.func12 rfl ?_
  simp only [Try.ntmps12, List.size_toArray, List.length_cons, List.length_nil, Nat.reduceAdd, Nat.reduceSub, Array.replicate_succ, Array.replicate_zero, List.push_toArray, List.append_toArray, List.nil_append, List.cons_append]
  go_wp2_with fail
  refine (crall_any _ _).mono ?_
  rintro e w1 ⟨rfl, rfl⟩
  go_wp2
  refine gen_world (fun W => (At W w.heap.size #[.slice none 0 0] 22 ∧ At W (w.heap.size + 1) #[.pointer p] 24) ∧ Below w.heap.size w W ∧ W.heap.size = w.heap.size + 2)
    ⟨⟨(At.new' _ _ _ rfl).alloc _, At.new' _ _ _ (by simp)⟩, (by repeat (first | with_reducible assumption | with_reducible exact Below.refl _ _ | with_reducible refine Below.drew ?_ | with_reducible refine Below.drewN ?_ _ | with_reducible refine Below.setCell ?_ (by first | omega | (simp; done) | (simp; omega)) _ | with_reducible refine Below.alloc ?_ (by first | omega | (simp; done) | (simp; omega) | (simp [World.setCell]; omega)) _)), by simp⟩ ?_
  rintro W ⟨⟨a1, a4⟩, hB, hz⟩
  obtain ⟨B, hBe⟩ : ∃ B, w.heap.size = B := ⟨_, rfl⟩
  rw [hBe] at a1 a4 hB hz hS
  simp only [hBe, Nat.add_assoc, Nat.reduceAdd]
  have hSW : CrS B W p ps := hS.below (hBe ▸ hB)
  refine' wp_range_crate B (p := p) (xs := ps) (Bn := B + 1) rfl a4 hSW (by omega)
    (fun pre W' => (∃ A cap, At W' B #[.slice A pre.length cap] 22 ∧ Own2 B W' A cap pre) ∧ At W' (B + 1) #[.pointer p] 24 ∧ Below B w W')
    (fun c pre W' => False)
    ?hI ?hIx ?h0 _ ?assign ?body ?done ?stop
  case assign =>
    intro l x W K hK
    simp only [List.setIfInBounds_toArray, List.set_cons_zero, List.set_cons_succ]
    gi_wp2
    exact hK
  case hI => exact OwnFrom.and (fun s W1 W2 row ⟨A, cap, h1, h2⟩ hg hr => ⟨A, cap, h1.grown hg fun r e => (hr r e).2, h2.grown hg fun r e => (hr r e).2⟩) (OwnFrom.and (At.own _) (ownFrom_below (n₀ := B) (w₀ := w) (by omega) (by omega)))
  case hIx => exact fun c => OwnFrom.pure _
  case h0 => exact ⟨⟨none, 0, a1, Own2.nil _ _⟩, a4, hB⟩
  case body =>
    rintro l pre x W' ⟨⟨A, cap, b1, HW⟩, b2, hB'⟩ hlt
    have c1 := b1.one
    have zB := hB'.size
    have hl1 := b1.lt
    gi_wp2_with (gi_at_builtin; refine wpListIn_append_pair rfl _ _ rfl B A cap pre.length pre rfl rfl (HW.below ((Below.refl _ _).alloc (Nat.le_refl _) _)) _ _ x rfl (new_two0 (by simp)) (new_two1 (by simp)) (by omega) (by simp; omega) ?_; intro A2 cap2 w2 HW2 hG2; have b3 := hG2.at (b1.alloc _) (by decide); have c3 := b3.one; have b4 := hG2.at (b2.alloc _) (by decide))
    have hB2 : Below B w w2 := hG2.below (hB'.alloc (by omega) _) (by simp; omega)
    have hk := ((KeepsOthers.alloc W' _).trans hG2.keeps).trans (KeepsOthers.setCell w2 ⟨B, 0, none⟩ (.slice A2 (pre.length + 1) cap2))
    refine ⟨hk.from _, ?_, ⟨A2, cap2, ?_, HW2.out.set_other b3 (by decide)⟩, b4.set_other (by show B + 1 ≠ B; omega) _, hB2.setCell (p := ⟨B, 0, none⟩) (Nat.le_refl _) _⟩
    · intro k hk
      rw [Below.heap_setCell w2 _ _ k (by show k ≠ B; omega)]
      rcases hk with hk | rfl
      · exact (hG2.below (w0 := W') ((Below.refl B W').alloc (by omega) _) (by simp; omega)).block k hk
      · exact b4.trans b2.symm
    · rw [List.length_append]; exact b3.set_any 0 _ rfl
  case done =>
    rintro D W' hD ⟨⟨A, cap, b1, HW⟩, b2, hB'⟩ hK
    have c2 := b1.one
    go_wp2
    refine marks_mark hK (results_tmp rfl _ _ _) ⟨A, cap, rfl, ?_, ?_⟩
    · rw [hBe]; exact HW.grown (grownBy_putObj' W' D (.deferred none)) fun r e => by cases e; exact ⟨_, hK, rfl⟩
    · rw [hBe]; exact hB'.putD hK (by omega)
  case stop =>
    rintro D c pre W' hD _ h
    exact h.elim
end Go.Proofs.Ytogidoohgfmbfaa

