/- Rows of lumps: how they are read, owned, and appended to. -/
import Derived.Test.YtbmnebpjjghkpaaProg
import Derived.Test.YtbmnebpjjghkpaaBase
import Derived.Test.YtbmnebpjjghkpaaOpen
import Derived.Test.YtbmnebpjjghkpaaLumpPure
import Derived.Maps.AppendAt
import Derived.OwnWalk
import Derived.Below
import Derived.Laws.AppendOwnNone
namespace Go.Proofs.Ytbmnebpjjghkpaa
open Go.RowKit

def flatL (ls : List Lu) : List Value := ls.flatMap fun x => [.int .u64 x.1, .int .i64 x.2.1, .int .i64 x.2.2]
theorem flatL_len (ls : List Lu) : (flatL ls).length = ls.length * 3 := flat3_len ls
theorem flatL_append (ls ks : List Lu) : flatL (ls ++ ks) = flatL ls ++ flatL ks := by simp [flatL]
theorem flatL_one' {ls : List Lu} : ∀ u ∈ flatL ls, u.oneCell' = true := by
  intro u hu
  simp only [flatL, List.mem_flatMap, List.mem_cons, List.not_mem_nil, or_false] at hu
  obtain ⟨x, _, rfl | rfl | rfl⟩ := hu <;> rfl
/-- A slice's address leads to these lumps. -/
def RdL (w : World) (A : Option Addr) (ls : List Lu) : Prop := Rd w A (flatL ls)
theorem RdL.below {w w' : World} {A : Option Addr} {ls : List Lu} (h : RdL w A ls) (hb : Below w.heap.size w w') : RdL w' A ls := Rd.below h hb
theorem RdL.nil (w : World) (A : Option Addr) : RdL w A [] := Rd.nil w A
theorem RdL.at {w : World} {A : Option Addr} {ls : List Lu} (h : RdL w A ls) (j : Nat) (hj : j < ls.length) :
    ∃ g o, A = some ⟨g, o, none⟩ ∧ g < w.heap.size ∧ w.cell? ⟨g, o + j * 3, none⟩ = some (.int .u64 (ls[j]'hj).1) ∧ w.cell? ⟨g, o + j * 3 + 1, none⟩ = some (.int .i64 (ls[j]'hj).2.1) ∧ w.cell? ⟨g, o + j * 3 + 2, none⟩ = some (.int .i64 (ls[j]'hj).2.2) := by
  obtain ⟨q0, q1, q2⟩ := flat3 (f := fun x : Lu => Value.int .u64 x.1) (g := fun x => Value.int .i64 x.2.1) (k := fun x => Value.int .i64 x.2.2) ls j hj
  obtain ⟨g, o, rfl, hg, h0⟩ := h _ _ q0
  obtain ⟨g', o', e, _, h1⟩ := h _ _ q1
  simp only [Option.some.injEq, Addr.mk.injEq, and_true] at e
  obtain ⟨rfl, rfl⟩ := e
  obtain ⟨g', o', e, _, h2⟩ := h _ _ q2
  simp only [Option.some.injEq, Addr.mk.injEq, and_true] at e
  obtain ⟨rfl, rfl⟩ := e
  exact ⟨g, o, rfl, hg, h0, by rw [Nat.add_assoc]; exact h1, by rw [Nat.add_assoc]; exact h2⟩
theorem RdL.at' {w : World} {A : Option Addr} {ls : List Lu} (h : RdL w A ls) (j : Nat) (hj : j < ls.length) :
    ∃ g o, A = some ⟨g, o, none⟩ ∧ g < w.heap.size ∧ w.cell? ⟨g, o + j * 3, none⟩ = some (.int .u64 (lget ls j).1) ∧ w.cell? ⟨g, o + j * 3 + 1, none⟩ = some (.int .i64 (lget ls j).2.1) ∧ w.cell? ⟨g, o + j * 3 + 2, none⟩ = some (.int .i64 (lget ls j).2.2) := by
  have := h.at j hj
  unfold lget
  rw [List.getD_eq_getElem?_getD, List.getElem?_eq_getElem hj]
  exact this
/-- A lump in its bounds. -/
def okL (ls : List Lu) : Prop := ∀ x ∈ ls, (0 ≤ x.1 ∧ x.1 < 18446744073709551616) ∧ (-9223372036854775808 ≤ x.2.1 ∧ x.2.1 ≤ 9223372036854775807) ∧ (-9223372036854775808 ≤ x.2.2 ∧ x.2.2 ≤ 9223372036854775807)
theorem lfilter_take (ls : List Lu) (p : Lu → Bool) (k : Nat) (hk : k < ls.length) : (ls.take (k + 1)).filter p = (ls.take k).filter p ++ (if p (ls[k]'hk) then [ls[k]'hk] else []) := by
  rw [List.take_succ_eq_append_getElem hk, List.filter_append]
  by_cases h : p (ls[k]'hk) = true <;> simp [h]
theorem sumN_take (ls : List Lu) (k : Nat) (hk : k < ls.length) : sumN (ls.take (k + 1)) = sumN (ls.take k) + (ls[k]'hk).1 := by
  rw [List.take_succ_eq_append_getElem hk, sumN_append, sumN_cons, sumN_nil, Int.add_zero]
theorem sumI_take (p : Lu → Bool) (ls : List Lu) (k : Nat) (hk : k < ls.length) : sumI p (ls.take (k + 1)) = sumI p (ls.take k) + if p (ls[k]'hk) then (ls[k]'hk).1 else 0 := by
  rw [List.take_succ_eq_append_getElem hk, sumI_append, sumI_cons, sumI_nil, Int.add_zero]
theorem run_append_none_any {P : Program} {w : World} {base : Nat} {e : TypeId} {size : Nat} (t ty : TypeId) (i : TypeInfo) (c : Nat) (ht : P.underlying t = some (.slice e)) (hi : P.info? e = some i)
    (v : Value) (n : Nat) (xs : List Value) (hown : w.ownsRow base e size v n xs) : (Builtin.append_ #[t, t] ty #[v, .slice none 0 c]).run P w = .ok v w := by
  rcases hown.2 with ⟨rfl, rfl⟩ | ⟨g, cap, cur, rfl, _, _, hnc, _⟩
  · simp [Builtin.append_, run_underlying ht, sizeOf, typeInfo, hi, Builtin.lenOf, Builtin.firstCells]
  · simp [Builtin.append_, run_underlying ht, sizeOf, typeInfo, hi, Builtin.lenOf, Builtin.firstCells, hnc, storeCells]
theorem wpList_append_none_any {P : Program} {w : World} {ops : Array Oper} {rest : List Oper} {o : Oper} {a : Act} {Q : Exit → Act → World → Prop} (hgd : o.guard = none) (s x : Operand) (t : TypeId)
    (ho : o.op = .call { callee := .builtin .append, args := #[s, x], argTypes := #[t, t] })
    (base : Nat) (e : TypeId) (i : TypeInfo) (size : Nat) (ht : P.underlying t = some (.slice e)) (hi : P.info? e = some i) (c : Nat)
    (v : Value) (n : Nat) (xs : List Value) (hs : a.eval s = v) (hown : w.ownsRow base e size v n xs) (hx : a.eval x = .slice none 0 c)
    (h : wpList P ops Q rest (a.put o.dst v) w) : wpList P ops Q (o :: rest) a w := by
  refine wpList_plain hgd fun K hK => ?_
  have hrun := run_append_none_any (P := P) (w := w) t o.type i c ht hi v n xs hown
  unfold Oper.wp
  simp [execOp, ho, resolve, invoke, builtin, hs, hx, hrun, Result.andThen]
  exact hK _ _ h
theorem new_three0 {w : World} {b : Nat} {u0 u1 u2 : Value} {T : TypeId} (hb : b = w.heap.size) : (w.alloc (.cells #[u0, u1, u2] T)).cell? ((⟨b, 0, none⟩ : Addr).add 0) = some u0 := by
  rw [Addr.add_lit]; exact (At.new' w #[u0, u1, u2] T hb).cell (i := 0) rfl
theorem new_three1 {w : World} {b : Nat} {u0 u1 u2 : Value} {T : TypeId} (hb : b = w.heap.size) : (w.alloc (.cells #[u0, u1, u2] T)).cell? ((⟨b, 0, none⟩ : Addr).add 1) = some u1 := by
  rw [Addr.add_lit]; exact (At.new' w #[u0, u1, u2] T hb).cell (i := 1) rfl
theorem new_three2 {w : World} {b : Nat} {u0 u1 u2 : Value} {T : TypeId} (hb : b = w.heap.size) : (w.alloc (.cells #[u0, u1, u2] T)).cell? ((⟨b, 0, none⟩ : Addr).add 2) = some u2 := by
  rw [Addr.add_lit]; exact (At.new' w #[u0, u1, u2] T hb).cell (i := 2) rfl

/-! A row of the call's own, of type ogive/lumps.Lump. -/
def Own3 (base : Nat) (w : World) (A : Option Addr) (cap : Nat) (ls : List Lu) : Prop := w.ownsRow base 71 3 (.slice A ls.length cap) ls.length (flatL ls)
theorem Own3.nil (base : Nat) (w : World) : Own3 base w none 0 [] := World.ownsRow_nil w base _ 3
theorem Own3.below {base cap : Nat} {w w' : World} {A : Option Addr} {ls : List Lu} (h : Own3 base w A cap ls) (hb : Below w.heap.size w w') : Own3 base w' A cap ls := by
  obtain ⟨h1, h2⟩ := h
  refine ⟨h1, ?_⟩
  rcases h2 with h2 | ⟨g, c, cur, e, hg, hc, r⟩
  · exact .inl h2
  · exact .inr ⟨g, c, cur, e, hg, (hb.block g (Array.getElem?_eq_some_iff.1 hc).1).trans hc, r⟩
theorem Own3.rd {base cap : Nat} {w : World} {A : Option Addr} {ls : List Lu} (h : Own3 base w A cap ls) : RdL w A ls := by
  intro j u hj
  rcases h.2 with ⟨e, hn⟩ | ⟨g, c, cur, e, hg, hc, r⟩
  · have : ls = [] := List.eq_nil_of_length_eq_zero hn
    subst this
    simp [flatL] at hj
  · injection e with e1 e2 e3
    subst e1
    have hl := (Array.getElem?_eq_some_iff.1 hc).1
    refine ⟨g, 0, rfl, hl, ?_⟩
    have := World.ownsRow.cells h (g := g) rfl j u hj
    rwa [Addr.add_lit] at this
theorem Own3.base_le {base cap : Nat} {w : World} {A : Option Addr} {ls : List Lu} (h : Own3 base w A cap ls) : ∀ g, A = some g → base ≤ g.block ∧ g.block < w.heap.size := by
  rintro g rfl
  exact World.ownsRow.lt h g.block rfl
theorem Own3.mono {base base' cap : Nat} {w : World} {A : Option Addr} {ls : List Lu} (h : Own3 base w A cap ls) (hb : base' ≤ base) : Own3 base' w A cap ls := by
  obtain ⟨h1, h2⟩ := h
  refine ⟨h1, ?_⟩
  rcases h2 with h2 | ⟨g, c, cur, e, hg, r⟩
  · exact .inl h2
  · exact .inr ⟨g, c, cur, e, Nat.le_trans hb hg, r⟩
theorem Own3.empty (w : World) (base : Nat) (hb : base ≤ w.heap.size) : Own3 base (w.alloc (.cells #[] 71)) (some ⟨w.heap.size, 0, none⟩) 0 [] :=
  World.ownsRow_lit w #[] 0 hb (by simp [maxLen]) rfl
theorem Try.underlyingRow : Try.prog.underlying 23 = some (.slice 71) := by kernel_rfl
theorem Try.infoPair : (Try.prog.info? 71).map (fun i => (i.zero, i.size, i.bytes)) = some (some (.agg #[.int .u64 0, .int .i64 0, .int .i64 0]), 3, 24) := by kernel_rfl
theorem Try.infoLump : ∃ i, Try.prog.info? 71 = some i ∧ i.zero = some (.agg #[.int .u64 0, .int .i64 0, .int .i64 0]) ∧ i.size = 3 ∧ i.bytes = 24 := by
  have := Try.infoPair
  cases hh : Try.prog.info? 71 with
  | none => rw [hh] at this; cases this
  | some i =>
    rw [hh] at this
    simp only [Option.map_some, Option.some.injEq, Prod.mk.injEq] at this
    exact ⟨i, rfl, this.1, this.2.1, this.2.2⟩
theorem wpList_append_lumps {ops : Array Oper} {rest : List Oper} {o : Oper} {a : Act} {Q : Exit → Act → World → Prop} {w : World} (hgd : o.guard = none) (s x : Operand)
    (ho : o.op = .call { callee := .builtin .append, args := #[s, x], argTypes := #[23, 23] })
    (base : Nat) (A : Option Addr) (cap n : Nat) (ls : List Lu) (hs : a.eval s = .slice A n cap) (hn : ls.length = n) (hown : Own3 base w A cap ls)
    (B : Option Addr) (m c : Nat) (ks : List Lu) (hx : a.eval x = .slice B m c) (hm : ks.length = m) (hR : RdL w B ks)
    (hlen : n + m ≤ 1099511627776) (W0 : World) (hB : Below base W0 w) (hbase : base ≤ w.heap.size)
    (h : ∀ A' cap' w', Hid (Own3 base w' A' cap' (ls ++ ks)) → Below base W0 w' → wpList Try.prog ops Q rest (a.put o.dst (.slice A' (n + m) cap')) w') :
    wpList Try.prog ops Q (o :: rest) a w := by
  subst hn hm
  obtain ⟨i, hi, hz, hsz, hby⟩ := Try.infoLump
  cases B with
  | none =>
    obtain rfl : ks = [] := by
      cases ks with
      | nil => rfl
      | cons y l =>
        obtain ⟨g, o, e, _⟩ := hR.at 0 (by simp)
        cases e
    refine wpList_append_none_any hgd s x _ ho base _ i 3 Try.underlyingRow hi c _ ls.length (flatL ls) hs hown hx ?_
    have := h A cap w (by rw [List.append_nil]; exact hown) hB
    exact this
  | some ad =>
    refine wpList_append_own_at w hgd s x _ ho base _ i _ 3 24 Try.underlyingRow hi hz hsz hby rfl (by decide) _ ls.length (flatL ls) hs hown ad ks.length c (flatL ks) hx (flatL_len ks) ?_ flatL_one' (by simp only [maxLen]; omega) (by omega) hbase ?_
    · intro j u hj
      obtain ⟨g, o', e, _, hc⟩ := hR j u hj
      cases e
      rw [Addr.add_lit]
      exact hc
    · intro v' w' hown' hg _ _
      have hB' : Below base W0 w' := hB.grown hg hbase (fun k hk => (World.ownsRow.lt hown k hk).1)
      rw [← flatL_append] at hown'
      have hl : (ls ++ ks).length = ls.length + ks.length := by simp
      rcases hown'.2 with ⟨e, hn⟩ | ⟨g, cp, cur, rfl, r⟩
      · have := h none 0 w' (by show Own3 _ _ _ _ _; unfold Own3; rw [hl, hn]; rw [e, hn] at hown'; exact hown') hB'
        rw [hn] at this
        rw [e]
        exact this
      · exact h _ _ _ (by show Own3 _ _ _ _ _; unfold Own3; rw [hl]; exact hown') hB'
theorem wpList_append_lump {ops : Array Oper} {rest : List Oper} {o : Oper} {a : Act} {Q : Exit → Act → World → Prop} {w : World} (hgd : o.guard = none) (s x : Operand)
    (ho : o.op = .call { callee := .builtin .append, args := #[s, x], argTypes := #[23, 23] })
    (base : Nat) (A : Option Addr) (cap n : Nat) (ls : List Lu) (hs : a.eval s = .slice A n cap) (hn : ls.length = n) (hown : Own3 base w A cap ls)
    (ad : Addr) (c : Nat) (p : Lu) (hx : a.eval x = .slice (some ad) 1 c) (h0 : w.cell? (ad.add 0) = some (.int .u64 p.1)) (h1 : w.cell? (ad.add 1) = some (.int .i64 p.2.1)) (h2 : w.cell? (ad.add 2) = some (.int .i64 p.2.2))
    (hlen : n ≤ 1099511627775) (W0 : World) (hB : Below base W0 w) (hbase : base ≤ w.heap.size)
    (h : ∀ A' cap' w', Hid (Own3 base w' A' cap' (ls ++ [p])) → Below base W0 w' → wpList Try.prog ops Q rest (a.put o.dst (.slice A' (n + 1) cap')) w') :
    wpList Try.prog ops Q (o :: rest) a w := by
  subst hn
  obtain ⟨i, hi, hz, hsz, hby⟩ := Try.infoLump
  refine wpList_append_own_at w hgd s x _ ho base _ i _ 3 24 Try.underlyingRow hi hz hsz hby rfl (by decide) _ ls.length (flatL ls) hs hown ad 1 c (flatL [p]) hx (flatL_len _) ?_ flatL_one' (by simp only [maxLen]; omega) (by omega) hbase ?_
  · intro j u hj
    match j, hj with
    | 0, hj => simp [flatL] at hj; subst hj; exact h0
    | 1, hj => simp [flatL] at hj; subst hj; exact h1
    | 2, hj => simp [flatL] at hj; subst hj; exact h2
  · intro v' w' hown' hg _ _
    have hB' : Below base W0 w' := hB.grown hg hbase (fun k hk => (World.ownsRow.lt hown k hk).1)
    rw [← flatL_append] at hown'
    have hl : (ls ++ [p]).length = ls.length + 1 := by simp
    rcases hown'.2 with ⟨e, hn⟩ | ⟨g, cp, cur, rfl, r⟩
    · omega
    · exact h _ _ _ (by show Own3 _ _ _ _ _; unfold Own3; rw [hl]; exact hown') hB'

/-! A row of the call's own, of type ogive/ogiveref22.Lump. -/
def Own3D (base : Nat) (w : World) (A : Option Addr) (cap : Nat) (ls : List Lu) : Prop := w.ownsRow base 78 3 (.slice A ls.length cap) ls.length (flatL ls)
theorem Own3D.nil (base : Nat) (w : World) : Own3D base w none 0 [] := World.ownsRow_nil w base _ 3
theorem Own3D.below {base cap : Nat} {w w' : World} {A : Option Addr} {ls : List Lu} (h : Own3D base w A cap ls) (hb : Below w.heap.size w w') : Own3D base w' A cap ls := by
  obtain ⟨h1, h2⟩ := h
  refine ⟨h1, ?_⟩
  rcases h2 with h2 | ⟨g, c, cur, e, hg, hc, r⟩
  · exact .inl h2
  · exact .inr ⟨g, c, cur, e, hg, (hb.block g (Array.getElem?_eq_some_iff.1 hc).1).trans hc, r⟩
theorem Own3D.rd {base cap : Nat} {w : World} {A : Option Addr} {ls : List Lu} (h : Own3D base w A cap ls) : RdL w A ls := by
  intro j u hj
  rcases h.2 with ⟨e, hn⟩ | ⟨g, c, cur, e, hg, hc, r⟩
  · have : ls = [] := List.eq_nil_of_length_eq_zero hn
    subst this
    simp [flatL] at hj
  · injection e with e1 e2 e3
    subst e1
    have hl := (Array.getElem?_eq_some_iff.1 hc).1
    refine ⟨g, 0, rfl, hl, ?_⟩
    have := World.ownsRow.cells h (g := g) rfl j u hj
    rwa [Addr.add_lit] at this
theorem Own3D.base_le {base cap : Nat} {w : World} {A : Option Addr} {ls : List Lu} (h : Own3D base w A cap ls) : ∀ g, A = some g → base ≤ g.block ∧ g.block < w.heap.size := by
  rintro g rfl
  exact World.ownsRow.lt h g.block rfl
theorem Own3D.mono {base base' cap : Nat} {w : World} {A : Option Addr} {ls : List Lu} (h : Own3D base w A cap ls) (hb : base' ≤ base) : Own3D base' w A cap ls := by
  obtain ⟨h1, h2⟩ := h
  refine ⟨h1, ?_⟩
  rcases h2 with h2 | ⟨g, c, cur, e, hg, r⟩
  · exact .inl h2
  · exact .inr ⟨g, c, cur, e, Nat.le_trans hb hg, r⟩
theorem Own3D.empty (w : World) (base : Nat) (hb : base ≤ w.heap.size) : Own3D base (w.alloc (.cells #[] 78)) (some ⟨w.heap.size, 0, none⟩) 0 [] :=
  World.ownsRow_lit w #[] 0 hb (by simp [maxLen]) rfl
theorem Try.underlyingRowD : Try.prog.underlying 34 = some (.slice 78) := by kernel_rfl
theorem Try.infoPairD : (Try.prog.info? 78).map (fun i => (i.zero, i.size, i.bytes)) = some (some (.agg #[.int .u64 0, .int .i64 0, .int .i64 0]), 3, 24) := by kernel_rfl
theorem Try.infoLumpD : ∃ i, Try.prog.info? 78 = some i ∧ i.zero = some (.agg #[.int .u64 0, .int .i64 0, .int .i64 0]) ∧ i.size = 3 ∧ i.bytes = 24 := by
  have := Try.infoPairD
  cases hh : Try.prog.info? 78 with
  | none => rw [hh] at this; cases this
  | some i =>
    rw [hh] at this
    simp only [Option.map_some, Option.some.injEq, Prod.mk.injEq] at this
    exact ⟨i, rfl, this.1, this.2.1, this.2.2⟩
theorem wpList_append_lumpsD {ops : Array Oper} {rest : List Oper} {o : Oper} {a : Act} {Q : Exit → Act → World → Prop} {w : World} (hgd : o.guard = none) (s x : Operand)
    (ho : o.op = .call { callee := .builtin .append, args := #[s, x], argTypes := #[34, 34] })
    (base : Nat) (A : Option Addr) (cap n : Nat) (ls : List Lu) (hs : a.eval s = .slice A n cap) (hn : ls.length = n) (hown : Own3D base w A cap ls)
    (B : Option Addr) (m c : Nat) (ks : List Lu) (hx : a.eval x = .slice B m c) (hm : ks.length = m) (hR : RdL w B ks)
    (hlen : n + m ≤ 1099511627776) (W0 : World) (hB : Below base W0 w) (hbase : base ≤ w.heap.size)
    (h : ∀ A' cap' w', Hid (Own3D base w' A' cap' (ls ++ ks)) → Below base W0 w' → wpList Try.prog ops Q rest (a.put o.dst (.slice A' (n + m) cap')) w') :
    wpList Try.prog ops Q (o :: rest) a w := by
  subst hn hm
  obtain ⟨i, hi, hz, hsz, hby⟩ := Try.infoLumpD
  cases B with
  | none =>
    obtain rfl : ks = [] := by
      cases ks with
      | nil => rfl
      | cons y l =>
        obtain ⟨g, o, e, _⟩ := hR.at 0 (by simp)
        cases e
    refine wpList_append_none_any hgd s x _ ho base _ i 3 Try.underlyingRowD hi c _ ls.length (flatL ls) hs hown hx ?_
    have := h A cap w (by rw [List.append_nil]; exact hown) hB
    exact this
  | some ad =>
    refine wpList_append_own_at w hgd s x _ ho base _ i _ 3 24 Try.underlyingRowD hi hz hsz hby rfl (by decide) _ ls.length (flatL ls) hs hown ad ks.length c (flatL ks) hx (flatL_len ks) ?_ flatL_one' (by simp only [maxLen]; omega) (by omega) hbase ?_
    · intro j u hj
      obtain ⟨g, o', e, _, hc⟩ := hR j u hj
      cases e
      rw [Addr.add_lit]
      exact hc
    · intro v' w' hown' hg _ _
      have hB' : Below base W0 w' := hB.grown hg hbase (fun k hk => (World.ownsRow.lt hown k hk).1)
      rw [← flatL_append] at hown'
      have hl : (ls ++ ks).length = ls.length + ks.length := by simp
      rcases hown'.2 with ⟨e, hn⟩ | ⟨g, cp, cur, rfl, r⟩
      · have := h none 0 w' (by show Own3D _ _ _ _ _; unfold Own3D; rw [hl, hn]; rw [e, hn] at hown'; exact hown') hB'
        rw [hn] at this
        rw [e]
        exact this
      · exact h _ _ _ (by show Own3D _ _ _ _ _; unfold Own3D; rw [hl]; exact hown') hB'
theorem wpList_append_lumpD {ops : Array Oper} {rest : List Oper} {o : Oper} {a : Act} {Q : Exit → Act → World → Prop} {w : World} (hgd : o.guard = none) (s x : Operand)
    (ho : o.op = .call { callee := .builtin .append, args := #[s, x], argTypes := #[34, 34] })
    (base : Nat) (A : Option Addr) (cap n : Nat) (ls : List Lu) (hs : a.eval s = .slice A n cap) (hn : ls.length = n) (hown : Own3D base w A cap ls)
    (ad : Addr) (c : Nat) (p : Lu) (hx : a.eval x = .slice (some ad) 1 c) (h0 : w.cell? (ad.add 0) = some (.int .u64 p.1)) (h1 : w.cell? (ad.add 1) = some (.int .i64 p.2.1)) (h2 : w.cell? (ad.add 2) = some (.int .i64 p.2.2))
    (hlen : n ≤ 1099511627775) (W0 : World) (hB : Below base W0 w) (hbase : base ≤ w.heap.size)
    (h : ∀ A' cap' w', Hid (Own3D base w' A' cap' (ls ++ [p])) → Below base W0 w' → wpList Try.prog ops Q rest (a.put o.dst (.slice A' (n + 1) cap')) w') :
    wpList Try.prog ops Q (o :: rest) a w := by
  subst hn
  obtain ⟨i, hi, hz, hsz, hby⟩ := Try.infoLumpD
  refine wpList_append_own_at w hgd s x _ ho base _ i _ 3 24 Try.underlyingRowD hi hz hsz hby rfl (by decide) _ ls.length (flatL ls) hs hown ad 1 c (flatL [p]) hx (flatL_len _) ?_ flatL_one' (by simp only [maxLen]; omega) (by omega) hbase ?_
  · intro j u hj
    match j, hj with
    | 0, hj => simp [flatL] at hj; subst hj; exact h0
    | 1, hj => simp [flatL] at hj; subst hj; exact h1
    | 2, hj => simp [flatL] at hj; subst hj; exact h2
  · intro v' w' hown' hg _ _
    have hB' : Below base W0 w' := hB.grown hg hbase (fun k hk => (World.ownsRow.lt hown k hk).1)
    rw [← flatL_append] at hown'
    have hl : (ls ++ [p]).length = ls.length + 1 := by simp
    rcases hown'.2 with ⟨e, hn⟩ | ⟨g, cp, cur, rfl, r⟩
    · omega
    · exact h _ _ _ (by show Own3D _ _ _ _ _; unfold Own3D; rw [hl]; exact hown') hB'
end Go.Proofs.Ytbmnebpjjghkpaa

