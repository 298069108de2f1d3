/- append to a row of values beside other things that own blocks. -/
import Derived.Test.YtnkkdciecjhpoaaDoorProg
import Derived.Test.YtnkkdciecjhpoaaDoorValRow
import Derived.Test.YtnkkdciecjhpoaaDoorStripAll
namespace Go.Proofs.YtnkkdciecjhpoaaDoor
open Go.RowKit

theorem OwnV.frame {base c : Nat} {w w' : World} {T : List Nat} {A : Option Addr} {ps : List (Int × Int)} (h : OwnV base w A c ps) (hf : Frame T w w') (hn : ∀ k ∈ blk A, k ∉ T) : OwnV base w' A c ps := by
  obtain ⟨h1, h2⟩ := h
  refine ⟨h1, ?_⟩
  rcases h2 with h2 | ⟨g, cp, cur, e, hg, hc, r⟩
  · exact .inl h2
  · refine .inr ⟨g, cp, cur, e, hg, (hf.block g (Array.getElem?_eq_some_iff.1 hc).1 (hn g ?_)).trans hc, r⟩
    simp only [Value.slice.injEq] at e
    rw [e.1]
    simp [blk]
theorem OwnV.below {base c : Nat} {w w' : World} {A : Option Addr} {ps : List (Int × Int)} (h : OwnV base w A c ps) (hb : Below w.heap.size w w') : OwnV base w' A c ps := h.frame (T := []) (Frame.of_below hb) (fun _ _ => by simp)
theorem OwnV.blk_le {base c : Nat} {w : World} {A : Option Addr} {ps : List (Int × Int)} (h : OwnV base w A c ps) : ∀ k ∈ blk A, base ≤ k ∧ k < w.heap.size := by
  intro k hk
  cases A with
  | none => simp [blk] at hk
  | some a => simp only [blk, List.mem_singleton] at hk; subst hk; exact h.base_le a rfl
theorem Frame.of_grown {w w' : World} {A : Option Addr} {n c : Nat} (hg : w.grownBy w' (Value.slice A n c).ownBlock) : Frame (blk A) w w' :=
  ⟨hg.os, hg.tape, hg.output, hg.size, fun k hk hn => hg.block k hk fun e => hn (by
    cases A with
    | none => simp [Value.ownBlock] at e
    | some a => simp [Value.ownBlock] at e; simp [blk, e])⟩
theorem wpList_append_valsF {ops : Array Oper} {rest : List Oper} {o : Oper} {a : Act} {Q : Exit → Act → World → Prop} {w : World} (hgd : o.guard = none) (s x : Operand)
    (ho : o.op = .call { callee := .builtin .append, args := #[s, x], argTypes := #[22, 22] })
    (base : Nat) (A : Option Addr) (cap n : Nat) (ps : List (Int × Int)) (hs : a.eval s = .slice A n cap) (hn : ps.length = n) (hown : OwnV base w A cap ps)
    (B : Option Addr) (m c : Nat) (qs : List (Int × Int)) (hx : a.eval x = .slice B m c) (hm : qs.length = m) (hR : RdP w B qs)
    (hlen : n + m ≤ 1099511627776) (hbase : base ≤ w.heap.size)
    (h : ∀ A' cap' w', Hid (OwnV base w' A' cap' (ps ++ qs)) → Frame (blk A) w w' → (∀ k ∈ blk A', k ∈ blk A ∨ w.heap.size ≤ k) → wpList Tryd.prog ops Q rest (a.put o.dst (.slice A' (n + m) cap')) w') :
    wpList Tryd.prog ops Q (o :: rest) a w := by
  subst hn hm
  obtain ⟨i, hi, hz, hsz, hby⟩ := Tryd.infoVal
  cases B with
  | none =>
    obtain rfl : qs = [] := by
      cases qs with
      | nil => rfl
      | cons y l =>
        obtain ⟨g, o, e, _⟩ := hR.at 0 (by simp)
        cases e
    refine vwpList_append_none_any hgd s x _ ho base _ i 2 Tryd.underlyingRowV hi c _ ps.length (flatV ps) hs hown hx ?_
    have := h A cap w (by rw [List.append_nil]; exact hown) (Frame.refl _ _) (fun k hk => .inl hk)
    exact this
  | some ad =>
    refine wpList_append_own_at w hgd s x _ ho base _ i _ 2 16 Tryd.underlyingRowV hi hz hsz hby rfl (by decide) _ ps.length (flatV ps) hs hown ad qs.length c (flatV qs) hx (flatV_len qs) ?_ flatV_one (by simp only [maxLen]; omega) (by omega) hbase ?_
    · intro j u hj
      obtain ⟨g, o', e, _, hc⟩ := hR j u hj
      cases e
      rw [Addr.add_lit]
      exact hc
    · intro v' w' hown' hg _ hbl
      have hF := Frame.of_grown hg
      rw [← flatV_append] at hown'
      have hl : (ps ++ qs).length = ps.length + qs.length := by simp
      have hB : ∀ A' n' cap', v' = .slice A' n' cap' → ∀ k ∈ blk A', k ∈ blk A ∨ w.heap.size ≤ k := by
        rintro A' n' cap' rfl k hk
        cases A' with
        | none => simp [blk] at hk
        | some a' =>
          simp only [blk, List.mem_singleton] at hk
          subst hk
          rcases hbl with hbl | hbl
          · left
            cases A with
            | none => simp [Value.ownBlock] at hbl
            | some a0 => simp [Value.ownBlock] at hbl; simp [blk, hbl]
          · right
            simp [Value.ownBlock] at hbl
            omega
      rcases hown'.2 with ⟨e, hn⟩ | ⟨g, cp, cur, rfl, r⟩
      · have := h none 0 w' (by show OwnV _ _ _ _ _; unfold OwnV; rw [hl, hn]; rw [e, hn] at hown'; exact hown') hF (fun k hk => by simp [blk] at hk)
        rw [hn] at this
        rw [e]
        exact this
      · exact h _ _ _ (by show OwnV _ _ _ _ _; unfold OwnV; rw [hl]; exact hown') hF (hB _ _ _ rfl)
/-- A step on blocks that were grown out of those that were let go. -/
theorem Frame.grow {S0 S : List Nat} {w0 w w' : World} (h : Frame S0 w0 w) (hg : GrownS S0 S w0.heap.size) (hf : Frame S w w') : Frame S0 w0 w' :=
  ⟨hf.os.trans h.os, hf.tape.trans h.tape, hf.output.trans h.output, Nat.le_trans h.size hf.size, fun k hk hn => (hf.block k (Nat.lt_of_lt_of_le hk h.size) fun hm => (hg k hm).elim hn fun hh => by omega).trans (h.block k hk hn)⟩
theorem rdV_new (W : World) (x y : Int) : RdP (W.alloc (.cells #[.int .i64 x, .int .u64 y] 60)) (some ⟨W.heap.size, 0, none⟩) [(x, y)] := by
  intro j u hj
  have a := At.new W #[.int .i64 x, .int .u64 y] 60
  refine ⟨W.heap.size, 0, rfl, a.lt, ?_⟩
  have hl := (List.getElem?_eq_some_iff.1 hj).1
  simp at hl
  rcases (by omega : j = 0 ∨ j = 1) with rfl | rfl
  · simp at hj; subst hj; exact a.cell rfl
  · simp at hj; subst hj; exact a.cell rfl
end Go.Proofs.YtnkkdciecjhpoaaDoor
