/- append of a whole row of values to a row of the call's own. -/
import Derived.Test.YtondkkhagbcadaaGreatProg
import Derived.Test.YtondkkhagbcadaaGreatVals
import Derived.Maps.AppendAt
import Derived.OwnWalk
import Derived.Laws.AppendOwnNone
namespace Go.Proofs.YtondkkhagbcadaaGreat
open Go.RowKit

def flatV (ps : List (Int × Int)) : List Value := ps.flatMap fun x => [.int .i64 x.1, .int .u64 x.2]
theorem flatV_append (ps qs : List (Int × Int)) : flatV (ps ++ qs) = flatV ps ++ flatV qs := by simp [flatV]
theorem flatV_len (ps : List (Int × Int)) : (flatV ps).length = ps.length * 2 := by
  induction ps with
  | nil => rfl
  | cons x ps ih => unfold flatV at *; simp only [List.flatMap_cons, List.length_append, List.length_cons, List.length_nil, ih]; omega
theorem flatV_one {ps : List (Int × Int)} : ∀ u ∈ flatV ps, u.oneCell' = true := by
  intro u hu
  unfold flatV at hu
  simp only [List.mem_flatMap, List.mem_cons, List.not_mem_nil, or_false] at hu
  obtain ⟨y, _, rfl | rfl⟩ := hu <;> rfl
def OwnV (base : Nat) (w : World) (A : Option Addr) (cap : Nat) (ps : List (Int × Int)) : Prop := w.ownsRow base 48 2 (.slice A ps.length cap) ps.length (flatV ps)
theorem OwnV.nil (base : Nat) (w : World) : OwnV base w none 0 [] := World.ownsRow_nil w base _ 2
theorem OwnV.empty (w : World) (base : Nat) (hb : base ≤ w.heap.size) : OwnV base (w.alloc (.cells #[] 48)) (some ⟨w.heap.size, 0, none⟩) 0 [] :=
  World.ownsRow_lit w #[] 0 hb (by simp [maxLen]) rfl
theorem OwnV.rd {base cap : Nat} {w : World} {A : Option Addr} {ps : List (Int × Int)} (h : OwnV base w A cap ps) : RdP w A ps := by
  intro j u hj
  rcases h.2 with ⟨e, hn⟩ | ⟨g, c, cur, e, hg, hc, r⟩
  · have : ps = [] := List.eq_nil_of_length_eq_zero hn
    subst this
    simp at hj
  · injection e with e1 e2 e3
    subst e1
    have hl := (Array.getElem?_eq_some_iff.1 hc).1
    refine ⟨g, 0, rfl, hl, ?_⟩
    have := World.ownsRow.cells h (g := g) rfl j u hj
    rwa [Addr.add_lit] at this
theorem OwnV.base_le {base cap : Nat} {w : World} {A : Option Addr} {ps : List (Int × Int)} (h : OwnV base w A cap ps) : ∀ g, A = some g → base ≤ g.block ∧ g.block < w.heap.size := by
  rintro g rfl
  exact World.ownsRow.lt h g.block rfl
theorem Tryz.underlyingRowV : Tryz.prog.underlying 25 = some (.slice 48) := by kernel_rfl
theorem Tryz.infoPairV : (Tryz.prog.info? 48).map (fun i => (i.zero, i.size, i.bytes)) = some (some (.agg #[.int .i64 0, .int .u64 0]), 2, 16) := by kernel_rfl
theorem Tryz.infoVal : ∃ i, Tryz.prog.info? 48 = some i ∧ i.zero = some (.agg #[.int .i64 0, .int .u64 0]) ∧ i.size = 2 ∧ i.bytes = 16 := by
  have := Tryz.infoPairV
  cases hh : Tryz.prog.info? 48 with
  | none => rw [hh] at this; cases this
  | some i =>
    rw [hh] at this
    simp only [Option.map_some, Option.some.injEq, Prod.mk.injEq] at this
    exact ⟨i, rfl, this.1, this.2.1, this.2.2⟩
theorem vrun_append_none_any {P : Program} {w : World} {base : Nat} {e : TypeId} {size : Nat} (t ty : TypeId) (i : TypeInfo) (c : Nat) (ht : P.underlying t = some (.slice e)) (hi : P.info? e = some i)
    (v : Value) (n : Nat) (xs : List Value) (hown : w.ownsRow base e size v n xs) : (Builtin.append_ #[t, t] ty #[v, .slice none 0 c]).run P w = .ok v w := by
  rcases hown.2 with ⟨rfl, rfl⟩ | ⟨g, cap, cur, rfl, _, _, hnc, _⟩
  · simp [Builtin.append_, run_underlying ht, sizeOf, typeInfo, hi, Builtin.lenOf, Builtin.firstCells]
  · simp [Builtin.append_, run_underlying ht, sizeOf, typeInfo, hi, Builtin.lenOf, Builtin.firstCells, hnc, storeCells]
theorem vwpList_append_none_any {P : Program} {w : World} {ops : Array Oper} {rest : List Oper} {o : Oper} {a : Act} {Q : Exit → Act → World → Prop} (hgd : o.guard = none) (s x : Operand) (t : TypeId)
    (ho : o.op = .call { callee := .builtin .append, args := #[s, x], argTypes := #[t, t] })
    (base : Nat) (e : TypeId) (i : TypeInfo) (size : Nat) (ht : P.underlying t = some (.slice e)) (hi : P.info? e = some i) (c : Nat)
    (v : Value) (n : Nat) (xs : List Value) (hs : a.eval s = v) (hown : w.ownsRow base e size v n xs) (hx : a.eval x = .slice none 0 c)
    (h : wpList P ops Q rest (a.put o.dst v) w) : wpList P ops Q (o :: rest) a w := by
  refine wpList_plain hgd fun K hK => ?_
  have hrun := vrun_append_none_any (P := P) (w := w) t o.type i c ht hi v n xs hown
  unfold Oper.wp
  simp [execOp, ho, resolve, invoke, builtin, hs, hx, hrun, Result.andThen]
  exact hK _ _ h
theorem wpList_append_vals {ops : Array Oper} {rest : List Oper} {o : Oper} {a : Act} {Q : Exit → Act → World → Prop} {w : World} (hgd : o.guard = none) (s x : Operand)
    (ho : o.op = .call { callee := .builtin .append, args := #[s, x], argTypes := #[25, 25] })
    (base : Nat) (A : Option Addr) (cap n : Nat) (ps : List (Int × Int)) (hs : a.eval s = .slice A n cap) (hn : ps.length = n) (hown : OwnV base w A cap ps)
    (B : Option Addr) (m c : Nat) (qs : List (Int × Int)) (hx : a.eval x = .slice B m c) (hm : qs.length = m) (hR : RdP w B qs)
    (hlen : n + m ≤ 1099511627776) (W0 : World) (hB : Below base W0 w) (hbase : base ≤ w.heap.size)
    (h : ∀ A' cap' w', Hid (OwnV base w' A' cap' (ps ++ qs)) → Below base W0 w' → wpList Tryz.prog ops Q rest (a.put o.dst (.slice A' (n + m) cap')) w') :
    wpList Tryz.prog ops Q (o :: rest) a w := by
  subst hn hm
  obtain ⟨i, hi, hz, hsz, hby⟩ := Tryz.infoVal
  cases B with
  | none =>
    obtain rfl : qs = [] := by
      cases qs with
      | nil => rfl
      | cons y l =>
        obtain ⟨g, o, e, _⟩ := hR.at 0 (by simp)
        cases e
    refine vwpList_append_none_any hgd s x _ ho base _ i 2 Tryz.underlyingRowV hi c _ ps.length (flatV ps) hs hown hx ?_
    have := h A cap w (by rw [List.append_nil]; exact hown) hB
    exact this
  | some ad =>
    refine wpList_append_own_at w hgd s x _ ho base _ i _ 2 16 Tryz.underlyingRowV hi hz hsz hby rfl (by decide) _ ps.length (flatV ps) hs hown ad qs.length c (flatV qs) hx (flatV_len qs) ?_ flatV_one (by simp only [maxLen]; omega) (by omega) hbase ?_
    · intro j u hj
      obtain ⟨g, o', e, _, hc⟩ := hR j u hj
      cases e
      rw [Addr.add_lit]
      exact hc
    · intro v' w' hown' hg _ _
      have hB' : Below base W0 w' := hB.grown hg hbase (fun k hk => (World.ownsRow.lt hown k hk).1)
      rw [← flatV_append] at hown'
      have hl : (ps ++ qs).length = ps.length + qs.length := by simp
      rcases hown'.2 with ⟨e, hn⟩ | ⟨g, cp, cur, rfl, r⟩
      · have := h none 0 w' (by show OwnV _ _ _ _ _; unfold OwnV; rw [hl, hn]; rw [e, hn] at hown'; exact hown') hB'
        rw [hn] at this
        rw [e]
        exact this
      · exact h _ _ _ (by show OwnV _ _ _ _ _; unfold OwnV; rw [hl]; exact hown') hB'
end Go.Proofs.YtondkkhagbcadaaGreat
