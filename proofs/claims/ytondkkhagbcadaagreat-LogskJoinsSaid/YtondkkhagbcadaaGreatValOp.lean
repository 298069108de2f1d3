/- Appending a row of values: one operation. -/
import Derived.Test.YtondkkhagbcadaaGreatProg
import Derived.Test.YtondkkhagbcadaaGreatValRow
import Derived.Test.YtondkkhagbcadaaGreatWalks
namespace Go.Proofs.YtondkkhagbcadaaGreat
open Go.RowKit

theorem opwp_append_vals {o : Oper} {a : Act} {K : Act → World → Prop} {Q : Exit → Act → World → Prop} {w : World} (s x : Operand)
    (ho : o.op = .call { callee := .builtin .append, args := #[s, x], argTypes := #[25, 25] })
    (base : Nat) (A : Option Addr) (cap n : Nat) (ps : List (Int × Int)) (hs : a.eval s = .slice A n cap) (hn : ps.length = n) (hown : OwnV base w A cap ps)
    (B : Option Addr) (m c : Nat) (qs : List (Int × Int)) (hx : a.eval x = .slice B m c) (hm : qs.length = m) (hR : RdP w B qs)
    (hlen : n + m ≤ 1099511627776) (W0 : World) (hB : Below base W0 w) (hbase : base ≤ w.heap.size)
    (h : ∀ A' cap' w', Hid (OwnV base w' A' cap' (ps ++ qs)) → Below base W0 w' → K (a.put o.dst (.slice A' (n + m) cap')) w') :
    Oper.wp Tryz.prog o a w K Q := by
  subst hn hm
  obtain ⟨i, hi, hz, hsz, hby⟩ := Tryz.infoVal
  cases B with
  | none =>
    obtain rfl : qs = [] := by
      cases qs with
      | nil => rfl
      | cons y l =>
        obtain ⟨g, o, e, _⟩ := hR.at 0 (by simp)
        cases e
    have hrun := vrun_append_none_any (P := Tryz.prog) (w := w) 25 o.type i c Tryz.underlyingRowV hi _ ps.length (flatV ps) hown
    have hk := h A cap w (by rw [List.append_nil]; exact hown) hB
    unfold Oper.wp
    simp [execOp, ho, resolve, invoke, builtin, hs, hx, hrun, Result.andThen]
    exact hk
  | some ad =>
    have hnews : ∀ j u, (flatV qs)[j]? = some u → w.cell? (ad.add j) = some u := by
      intro j u hj
      obtain ⟨g, o', e, _, hc⟩ := hR j u hj
      cases e
      rw [Addr.add_lit]
      exact hc
    obtain ⟨v', w', hr, hown', hg, _, _⟩ := run_append_own_at (P := Tryz.prog) w base 25 o.type _ i _ 2 16 Tryz.underlyingRowV hi hz hsz hby rfl (by decide) _ ps.length (flatV ps) hown ad qs.length c (flatV qs) (flatV_len qs) hnews flatV_one (by simp only [maxLen]; omega) (by omega) hbase
    unfold Oper.wp execOp
    simp only [ho, resolve, invoke, builtin, Sem.run_bind, Sem.run_pure, Result.andThen_ok, List.map_toArray, List.map_cons, List.map_nil, hs, hx, hr]
    have hB' : Below base W0 w' := hB.grown hg hbase (fun k hk => (World.ownsRow.lt hown k hk).1)
    rw [← flatV_append] at hown'
    have hl : (ps ++ qs).length = ps.length + qs.length := by simp
    rcases hown'.2 with ⟨e, hn⟩ | ⟨g, cp, cur, rfl, r⟩
    · have := h none 0 w' (by show OwnV _ _ _ _ _; unfold OwnV; rw [hl, hn]; rw [e, hn] at hown'; exact hown') hB'
      rw [hn] at this
      rw [e]
      exact this
    · exact h _ _ _ (by show OwnV _ _ _ _ _; unfold OwnV; rw [hl]; exact hown') hB'
end Go.Proofs.YtondkkhagbcadaaGreat
