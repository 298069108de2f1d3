/- append of a whole row of pairs to a row of the call's own. -/
import Derived.Test.YtooojpicbbpaaaaProg
import Derived.Test.YtooojpicbbpaaaaApp
import Derived.Laws.AppendOwnNone
namespace Go.Proofs.Ytooojpicbbpaaaa
open Go.RowKit

theorem run_append_none_any {P : Program} {w : World} {base : Nat} {e : TypeId} {size : Nat} (t ty : TypeId) (i : TypeInfo) (c : Nat) (ht : P.underlying t = some (.slice e)) (hi : P.info? e = some i)
    (v : Value) (n : Nat) (xs : List Value) (hown : w.ownsRow base e size v n xs) : (Builtin.append_ #[t, t] ty #[v, .slice none 0 c]).run P w = .ok v w := by
  rcases hown.2 with ⟨rfl, rfl⟩ | ⟨g, cap, cur, rfl, _, _, hnc, _⟩
  · simp [Builtin.append_, run_underlying ht, sizeOf, typeInfo, hi, Builtin.lenOf, Builtin.firstCells]
  · simp [Builtin.append_, run_underlying ht, sizeOf, typeInfo, hi, Builtin.lenOf, Builtin.firstCells, hnc, storeCells]
theorem wpList_append_none_any {P : Program} {w : World} {ops : Array Oper} {rest : List Oper} {o : Oper} {a : Act} {Q : Exit → Act → World → Prop} (hgd : o.guard = none) (s x : Operand) (t : TypeId)
    (ho : o.op = .call { callee := .builtin .append, args := #[s, x], argTypes := #[t, t] })
    (base : Nat) (e : TypeId) (i : TypeInfo) (size : Nat) (ht : P.underlying t = some (.slice e)) (hi : P.info? e = some i) (c : Nat)
    (v : Value) (n : Nat) (xs : List Value) (hs : a.eval s = v) (hown : w.ownsRow base e size v n xs) (hx : a.eval x = .slice none 0 c)
    (h : wpList P ops Q rest (a.put o.dst v) w) : wpList P ops Q (o :: rest) a w := by
  refine wpList_plain hgd fun K hK => ?_
  have hrun := run_append_none_any (P := P) (w := w) t o.type i c ht hi v n xs hown
  unfold Oper.wp
  simp [execOp, ho, resolve, invoke, builtin, hs, hx, hrun, Result.andThen]
  exact hK _ _ h

theorem flatP_append (ps qs : List (Int × Int)) : flatP (ps ++ qs) = flatP ps ++ flatP qs := by simp [flatP]
theorem wpList_append_row {ops : Array Oper} {rest : List Oper} {o : Oper} {a : Act} {Q : Exit → Act → World → Prop} {w : World} (hgd : o.guard = none) (s x : Operand)
    (ho : o.op = .call { callee := .builtin .append, args := #[s, x], argTypes := #[22, 22] })
    (base : Nat) (A : Option Addr) (cap n : Nat) (ps : List (Int × Int)) (hs : a.eval s = .slice A n cap) (hn : ps.length = n) (hown : Own2 base w A cap ps)
    (B : Option Addr) (m c : Nat) (qs : List (Int × Int)) (hx : a.eval x = .slice B m c) (hm : qs.length = m) (hR : RdP w B qs)
    (hlen : n + m ≤ 1099511627776) (W0 : World) (hB : Below base W0 w) (hbase : base ≤ w.heap.size)
    (h : ∀ A' cap' w', Hid (Own2 base w' A' cap' (ps ++ qs)) → Below base W0 w' → wpList Try.prog ops Q rest (a.put o.dst (.slice A' (n + m) cap')) w') :
    wpList Try.prog ops Q (o :: rest) a w := by
  subst hn hm
  obtain ⟨i, hi, hz, hsz, hby⟩ : ∃ i, Try.prog.info? 34 = some i ∧ i.zero = some (.agg #[.int .i64 0, .int .u64 0]) ∧ i.size = 2 ∧ i.bytes = 16 := by
    have := Try.infoPair
    cases hh : Try.prog.info? 34 with
    | none => rw [hh] at this; cases this
    | some i =>
      rw [hh] at this
      simp only [Option.map_some, Option.some.injEq, Prod.mk.injEq] at this
      exact ⟨i, rfl, this.1, this.2.1, this.2.2⟩
  cases B with
  | none =>
    obtain rfl : qs = [] := by
      cases qs with
      | nil => rfl
      | cons y l =>
        obtain ⟨g, o, e, _⟩ := hR.at 0 (by simp)
        cases e
    refine wpList_append_none_any hgd s x _ ho base _ i 2 Try.underlyingRow hi c _ ps.length (flatP ps) hs hown hx ?_
    have := h A cap w (by rw [List.append_nil]; exact hown) hB
    exact this
  | some ad =>
    refine wpList_append_own_at w hgd s x _ ho base _ i _ 2 16 Try.underlyingRow hi hz hsz hby rfl (by decide) _ ps.length (flatP ps) hs hown ad qs.length c (flatP qs) hx (flatP_len qs) ?_ ?_ (by simp only [maxLen]; omega) (by omega) hbase ?_
    · intro j u hj
      obtain ⟨g, o', e, _, hc⟩ := hR j u hj
      cases e
      rw [Addr.add_lit]
      exact hc
    · intro u hu
      unfold flatP at hu
      simp only [List.mem_flatMap, List.mem_cons, List.not_mem_nil, or_false] at hu
      obtain ⟨y, _, rfl | rfl⟩ := hu <;> rfl
    · intro v' w' hown' hg _ _
      have hB' : Below base W0 w' := hB.grown hg hbase (fun k hk => (World.ownsRow.lt hown k hk).1)
      rw [← flatP_append] at hown'
      have hl : (ps ++ qs).length = ps.length + qs.length := by simp
      rcases hown'.2 with ⟨e, hn⟩ | ⟨g, cp, cur, rfl, r⟩
      · have := h none 0 w' (by show Own2 _ _ _ _ _; unfold Own2; rw [hl, hn]; rw [e, hn] at hown'; exact hown') hB'
        rw [hn] at this
        rw [e]
        exact this
      · exact h _ _ _ (by show Own2 _ _ _ _ _; unfold Own2; rw [hl]; exact hown') hB'
/-- An empty row that is no nil. -/
theorem own_empty (w : World) (base : Nat) (hb : base ≤ w.heap.size) : Own2 base (w.alloc (.cells #[] 34)) (some ⟨w.heap.size, 0, none⟩) 0 [] :=
  World.ownsRow_lit w #[] 0 hb (by simp [maxLen]) rfl
end Go.Proofs.Ytooojpicbbpaaaa

