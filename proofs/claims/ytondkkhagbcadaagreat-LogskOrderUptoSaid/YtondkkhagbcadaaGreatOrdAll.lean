/- Plain laws: two rows of values that hold each value as often tell the same. No program in sight. -/
import Derived.Test.YtondkkhagbcadaaGreatVOk
import Derived.Test.YtondkkhagbcadaaGreatRef13
import Derived.Test.YtondkkhagbcadaaGreatLs3
import Derived.Test.YtondkkhagbcadaaGreatProg
import Derived.Test.YtondkkhagbcadaaGreatValRow
import Derived.Test.YtondkkhagbcadaaGreatStripAll
namespace Go.Proofs.YtondkkhagbcadaaGreat
open Go.RowKit

/-- One value, put at once, or in two parts. -/
def splitV (x : Int × Int) : List (Int × Int) := if 1 < x.2 then [(x.1, x.2 - 1), (x.1, 1)] else [x]
/-- All values backwards, from a place on. -/
def rotV (c : List (Int × Int)) (a : Nat) : List (Int × Int) := (c.drop a ++ c.take a).reverse
theorem rotV_len (c : List (Int × Int)) (a : Nat) : (rotV c a).length = c.length := by
  simp only [rotV, List.length_reverse, List.length_append, List.length_drop, List.length_take]; omega
theorem rotV_get {c : List (Int × Int)} {a k n j : Nat} (hn : c.length = n) (ha : a ≤ n) (hk : k < n) (hj : j < n) (h : (j = n - 1 - k + a) ∨ (j + n = n - 1 - k + a)) : (rotV c a)[k]? = c[j]? := by
  subst hn
  unfold rotV
  rw [List.getElem?_reverse (by simp only [List.length_append, List.length_drop, List.length_take]; omega)]
  simp only [List.length_append, List.length_drop, List.length_take]
  rw [show c.length - a + min a c.length - 1 - k = c.length - 1 - k by omega]
  by_cases h1 : c.length - 1 - k < c.length - a
  · rw [List.getElem?_append_left (by simp only [List.length_drop]; omega), List.getElem?_drop]
    congr 1
    omega
  · rw [List.getElem?_append_right (by simp only [List.length_drop]; omega), List.length_drop, List.getElem?_take_of_lt (by omega)]
    congr 1
    omega
/-- How often there are values of a kind. -/
def cntV (p : Int → Bool) (l : List (Int × Int)) : Int := sumP (l.filter fun v => p v.1)
theorem cntV_app (p : Int → Bool) (l k : List (Int × Int)) : cntV p (l ++ k) = cntV p l + cntV p k := by unfold cntV; rw [List.filter_append, sumP_append]
theorem cntV_rev (p : Int → Bool) : ∀ l : List (Int × Int), cntV p l.reverse = cntV p l
  | [] => rfl
  | x :: l => by
    have e : x :: l = [x] ++ l := rfl
    rw [List.reverse_cons, cntV_app, cntV_rev p l, e, cntV_app]; omega
theorem cntV_split (p : Int → Bool) (x : Int × Int) : cntV p (splitV x) = cntV p [x] := by
  obtain ⟨x, y⟩ := x
  unfold splitV cntV
  by_cases h : 1 < y
  · rw [if_pos h]
    cases hp : p x
    · simp [hp]
    · simp [hp, sumP_cons, sumP_nil]
  · rw [if_neg h]
theorem cntV_splits (p : Int → Bool) : ∀ l : List (Int × Int), cntV p (l.flatMap splitV) = cntV p l
  | [] => rfl
  | x :: l => by
    have e : x :: l = [x] ++ l := rfl
    rw [List.flatMap_cons, cntV_app, cntV_splits p l, cntV_split, e, cntV_app]
theorem cntV_rot (p : Int → Bool) (c : List (Int × Int)) (a : Nat) : cntV p (rotV c a) = cntV p c := by
  have h := congrArg (cntV p) (List.take_append_drop a c)
  rw [cntV_app] at h
  unfold rotV
  rw [cntV_rev, cntV_app]; omega
theorem rotV_ok {c : List (Int × Int)} {a : Nat} (h : okP c) : okP (rotV c a) := fun v hv => by
  unfold rotV at hv
  rcases List.mem_append.1 (List.mem_reverse.1 hv) with h1 | h1
  · exact h v (List.mem_of_mem_drop h1)
  · exact h v (List.mem_of_mem_take h1)
theorem splitV_ok {l : List (Int × Int)} (h : okP l) : okP (l.flatMap splitV) := fun v hv => by
  obtain ⟨x, hx, hm⟩ := List.mem_flatMap.1 hv
  have hb := h x hx
  unfold splitV at hm
  by_cases h1 : 1 < x.2
  · rw [if_pos h1] at hm
    simp only [List.mem_cons, List.not_mem_nil, or_false] at hm
    rcases hm with rfl | rfl
    · exact ⟨hb.1, by dsimp only; omega⟩
    · exact ⟨hb.1, by dsimp only; omega⟩
  · rw [if_neg h1, List.mem_singleton] at hm
    subst hm; exact hb
theorem splitV_len (l : List (Int × Int)) : (l.flatMap splitV).length ≤ 2 * l.length := by
  induction l with
  | nil => simp
  | cons x l ih =>
    rw [List.flatMap_cons, List.length_append, List.length_cons]
    have : (splitV x).length ≤ 2 := by unfold splitV; split <;> simp
    omega
theorem splitV_take (l : List (Int × Int)) (k : Nat) (x : Int × Int) (h : l[k]? = some x) : (l.take (k + 1)).flatMap splitV = (l.take k).flatMap splitV ++ splitV x := by
  obtain ⟨hk, e⟩ := List.getElem?_eq_some_iff.1 h
  rw [List.take_succ_eq_append_getElem hk, List.flatMap_append, e]
  simp

/-- The same values, each as often. -/
def SameV (l k : List (Int × Int)) : Prop := ∀ p : Int → Bool, cntV p l = cntV p k
theorem same_order (c : List (Int × Int)) (a : Nat) : SameV c ((rotV c a).flatMap splitV) := fun p => by rw [cntV_splits, cntV_rot]
section
variable {l k : List (Int × Int)}
theorem SameV.symm (h : SameV l k) : SameV k l := fun p => (h p).symm
theorem cntV_mem {p : Int → Bool} (hp : ∀ v ∈ l, 0 < v.2) : 0 < cntV p l ↔ ∃ v ∈ l, p v.1 = true := by
  unfold cntV
  constructor
  · intro h
    cases hf : l.filter (fun v => p v.1) with
    | nil => rw [hf, sumP_nil] at h; omega
    | cons v t =>
      have hm : v ∈ l.filter (fun v => p v.1) := by rw [hf]; simp
      exact ⟨v, (List.mem_filter.1 hm).1, (List.mem_filter.1 hm).2⟩
  · rintro ⟨v, hv, h⟩
    have hm : v ∈ l.filter (fun v => p v.1) := List.mem_filter.2 ⟨hv, h⟩
    have hq : ∀ u ∈ l.filter (fun v => p v.1), 0 < u.2 := fun u hu => hp u (List.mem_filter.1 hu).1
    generalize l.filter (fun v => p v.1) = f at hm hq
    induction f with
    | nil => simp at hm
    | cons u t ih =>
      rw [sumP_cons]
      have h1 := hq u (by simp)
      have h2 := sumP_nonneg (ps := t) fun y hy => hq y (by simp [hy])
      omega
theorem SameV.mem (h : SameV l k) (hl : ∀ v ∈ l, 0 < v.2) (hk : ∀ v ∈ k, 0 < v.2) {x : Int} (hx : ∃ v ∈ l, v.1 = x) : ∃ v ∈ k, v.1 = x := by
  obtain ⟨v, hv, e⟩ := hx
  have h1 := (cntV_mem (p := fun y => decide (y = x)) hl).2 ⟨v, hv, by simp [e]⟩
  rw [h] at h1
  obtain ⟨u, hu, e2⟩ := (cntV_mem hk).1 h1
  exact ⟨u, hu, by simpa using e2⟩
theorem SameV.sum (h : SameV l k) : sumP l = sumP k := by
  have := h fun _ => true
  unfold cntV at this
  rwa [List.filter_eq_self.2 (fun _ _ => rfl), List.filter_eq_self.2 (fun _ _ => rfl)] at this
theorem SameV.neg (h : SameV l k) : negV l = negV k := h fun x => decide (x < 0)
theorem SameV.pos (h : SameV l k) : posV l = posV k := h fun x => decide (0 < x)
theorem SameV.less (h : SameV l k) (x : Int) : lessV l x = lessV k x := h fun y => decide (y < x)
theorem SameV.eq (h : SameV l k) (x : Int) : sameV l x = sameV k x := h fun y => decide (y = x)
theorem SameV.row (h : SameV l k) (hl : VOk l) (hk : VOk k) (part : Nat → Int) (below : Bool) : rowV part below l = rowV part below k := by
  have s1 := hl.sum
  have s2 := hk.sum
  refine Gd.ext (rowV_gd hl.pos (by omega)) (rowV_gd hk.pos (by omega)) fun i => ?_
  rw [rowV_cnt i hl.pos (by omega), rowV_cnt i hk.pos (by omega)]
  exact h fun x => sgn below x && decide (part x.natAbs = i)
theorem SameV.ends (h : SameV l k) (hl : VOk l) (hk : VOk k) : eLow l = eLow k ∧ eHigh l = eHigh k := by
  by_cases h0 : l = []
  · have : k = [] := hk.empty.1 (by rw [← h.sum, h0]; rfl)
    rw [h0, this]; exact ⟨rfl, rfl⟩
  · obtain ⟨h1, h2⟩ := eLow_mem h0
    have := ends_uniq (l := k) (h.mem hl.pos hk.pos h1) (fun v hv => by
      obtain ⟨u, hu, e⟩ := h.symm.mem hk.pos hl.pos ⟨v, hv, rfl⟩
      have := (eLow_le hu).1
      omega) (h.mem hl.pos hk.pos h2) (fun v hv => by
      obtain ⟨u, hu, e⟩ := h.symm.mem hk.pos hl.pos ⟨v, hv, rfl⟩
      have := (eLow_le hu).2
      omega)
    exact ⟨this.1.symm, this.2.symm⟩
theorem exactV_ofIs {t x : Int} (hp : ∀ v ∈ l, 0 < v.2) (h : IsExact l t x) : exactV l t = some x := by
  unfold exactV
  cases hf : l.find? (fun v => decide (lessV l v.1 < t ∧ t ≤ lessV l v.1 + sameV l v.1)) with
  | none =>
    obtain ⟨v, hv, rfl⟩ := h.mem
    have := List.find?_eq_none.1 hf v hv
    simp only [decide_eq_true_eq] at this
    exact absurd ⟨h.lo, h.hi⟩ this
  | some v =>
    have h1 := List.find?_some hf
    simp only [decide_eq_true_eq] at h1
    have : IsExact l t v.1 := ⟨⟨v, List.mem_of_find?_eq_some hf, rfl⟩, h1.1, h1.2⟩
    rw [Option.map_some, IsExact.uniq hp this h]
theorem exactV_spec {t x : Int} (h : exactV l t = some x) : IsExact l t x := by
  unfold exactV at h
  obtain ⟨v, hf, rfl⟩ := Option.map_eq_some_iff.1 h
  have h1 := List.find?_some hf
  simp only [decide_eq_true_eq] at h1
  exact ⟨⟨v, List.mem_of_find?_eq_some hf, rfl⟩, h1.1, h1.2⟩
theorem SameV.is (h : SameV l k) (hl : VOk l) (hk : VOk k) {t x : Int} (hx : IsExact l t x) : IsExact k t x :=
  ⟨h.mem hl.pos hk.pos hx.mem, by rw [← h.less]; exact hx.lo, by rw [← h.less, ← h.eq]; exact hx.hi⟩
theorem SameV.exact (h : SameV l k) (hl : VOk l) (hk : VOk k) (t : Int) : exactV l t = exactV k t := by
  cases e : exactV l t with
  | some x => exact (exactV_ofIs hk.pos (h.is hl hk (exactV_spec e))).symm
  | none =>
    cases f : exactV k t with
    | none => rfl
    | some x =>
      have := exactV_ofIs hl.pos (h.symm.is hk hl (exactV_spec f))
      rw [e] at this
      exact absurd this (by simp)
theorem SameV.quant (h : SameV l k) (hl : VOk l) (hk : VOk k) (part : Nat → Int) (stand : Int → Int) (s : Bool) (most a d : Int) :
    quantL part stand s most l (eLow l) (eHigh l) a d = quantL part stand s most k (eLow k) (eHigh k) a d := by
  unfold quantL docFind13
  rw [h.sum, (h.ends hl hk).1, (h.ends hl hk).2, h.exact hl hk]
  have e : ∀ b, rowV part b l = rowV part b k := fun b => h.row hl hk part b
  simp only [e]
end
end Go.Proofs.YtondkkhagbcadaaGreat
/- append to a row of values beside other things that own blocks. -/
namespace Go.Proofs.YtondkkhagbcadaaGreat
open Go.RowKit

theorem OwnV.frame {base c : Nat} {w w' : World} {T : List Nat} {A : Option Addr} {ps : List (Int × Int)} (h : OwnV base w A c ps) (hf : Frame T w w') (hn : ∀ k ∈ blk A, k ∉ T) : OwnV base w' A c ps := by
  obtain ⟨h1, h2⟩ := h
  refine ⟨h1, ?_⟩
  rcases h2 with h2 | ⟨g, cp, cur, e, hg, hc, r⟩
  · exact .inl h2
  · refine .inr ⟨g, cp, cur, e, hg, (hf.block g (Array.getElem?_eq_some_iff.1 hc).1 (hn g ?_)).trans hc, r⟩
    simp only [Value.slice.injEq] at e
    rw [e.1]
    simp [blk]
theorem OwnV.below {base c : Nat} {w w' : World} {A : Option Addr} {ps : List (Int × Int)} (h : OwnV base w A c ps) (hb : Below w.heap.size w w') : OwnV base w' A c ps := h.frame (T := []) (Frame.of_below hb) (fun _ _ => by simp)
theorem OwnV.blk_le {base c : Nat} {w : World} {A : Option Addr} {ps : List (Int × Int)} (h : OwnV base w A c ps) : ∀ k ∈ blk A, base ≤ k ∧ k < w.heap.size := by
  intro k hk
  cases A with
  | none => simp [blk] at hk
  | some a => simp only [blk, List.mem_singleton] at hk; subst hk; exact h.base_le a rfl
theorem Frame.of_grown {w w' : World} {A : Option Addr} {n c : Nat} (hg : w.grownBy w' (Value.slice A n c).ownBlock) : Frame (blk A) w w' :=
  ⟨hg.os, hg.tape, hg.output, hg.size, fun k hk hn => hg.block k hk fun e => hn (by
    cases A with
    | none => simp [Value.ownBlock] at e
    | some a => simp [Value.ownBlock] at e; simp [blk, e])⟩
theorem wpList_append_valsF {ops : Array Oper} {rest : List Oper} {o : Oper} {a : Act} {Q : Exit → Act → World → Prop} {w : World} (hgd : o.guard = none) (s x : Operand)
    (ho : o.op = .call { callee := .builtin .append, args := #[s, x], argTypes := #[25, 25] })
    (base : Nat) (A : Option Addr) (cap n : Nat) (ps : List (Int × Int)) (hs : a.eval s = .slice A n cap) (hn : ps.length = n) (hown : OwnV base w A cap ps)
    (B : Option Addr) (m c : Nat) (qs : List (Int × Int)) (hx : a.eval x = .slice B m c) (hm : qs.length = m) (hR : RdP w B qs)
    (hlen : n + m ≤ 1099511627776) (hbase : base ≤ w.heap.size)
    (h : ∀ A' cap' w', Hid (OwnV base w' A' cap' (ps ++ qs)) → Frame (blk A) w w' → (∀ k ∈ blk A', k ∈ blk A ∨ w.heap.size ≤ k) → wpList Tryz.prog ops Q rest (a.put o.dst (.slice A' (n + m) cap')) w') :
    wpList Tryz.prog ops Q (o :: rest) a w := by
  subst hn hm
  obtain ⟨i, hi, hz, hsz, hby⟩ := Tryz.infoVal
  cases B with
  | none =>
    obtain rfl : qs = [] := by
      cases qs with
      | nil => rfl
      | cons y l =>
        obtain ⟨g, o, e, _⟩ := hR.at 0 (by simp)
        cases e
    refine vwpList_append_none_any hgd s x _ ho base _ i 2 Tryz.underlyingRowV hi c _ ps.length (flatV ps) hs hown hx ?_
    have := h A cap w (by rw [List.append_nil]; exact hown) (Frame.refl _ _) (fun k hk => .inl hk)
    exact this
  | some ad =>
    refine wpList_append_own_at w hgd s x _ ho base _ i _ 2 16 Tryz.underlyingRowV hi hz hsz hby rfl (by decide) _ ps.length (flatV ps) hs hown ad qs.length c (flatV qs) hx (flatV_len qs) ?_ flatV_one (by simp only [maxLen]; omega) (by omega) hbase ?_
    · intro j u hj
      obtain ⟨g, o', e, _, hc⟩ := hR j u hj
      cases e
      rw [Addr.add_lit]
      exact hc
    · intro v' w' hown' hg _ hbl
      have hF := Frame.of_grown hg
      rw [← flatV_append] at hown'
      have hl : (ps ++ qs).length = ps.length + qs.length := by simp
      have hB : ∀ A' n' cap', v' = .slice A' n' cap' → ∀ k ∈ blk A', k ∈ blk A ∨ w.heap.size ≤ k := by
        rintro A' n' cap' rfl k hk
        cases A' with
        | none => simp [blk] at hk
        | some a' =>
          simp only [blk, List.mem_singleton] at hk
          subst hk
          rcases hbl with hbl | hbl
          · left
            cases A with
            | none => simp [Value.ownBlock] at hbl
            | some a0 => simp [Value.ownBlock] at hbl; simp [blk, hbl]
          · right
            simp [Value.ownBlock] at hbl
            omega
      rcases hown'.2 with ⟨e, hn⟩ | ⟨g, cp, cur, rfl, r⟩
      · have := h none 0 w' (by show OwnV _ _ _ _ _; unfold OwnV; rw [hl, hn]; rw [e, hn] at hown'; exact hown') hF (fun k hk => by simp [blk] at hk)
        rw [hn] at this
        rw [e]
        exact this
      · exact h _ _ _ (by show OwnV _ _ _ _ _; unfold OwnV; rw [hl]; exact hown') hF (hB _ _ _ rfl)
/-- A step on blocks that were grown out of those that were let go. -/
theorem Frame.grow {S0 S : List Nat} {w0 w w' : World} (h : Frame S0 w0 w) (hg : GrownS S0 S w0.heap.size) (hf : Frame S w w') : Frame S0 w0 w' :=
  ⟨hf.os.trans h.os, hf.tape.trans h.tape, hf.output.trans h.output, Nat.le_trans h.size hf.size, fun k hk hn => (hf.block k (Nat.lt_of_lt_of_le hk h.size) fun hm => (hg k hm).elim hn fun hh => by omega).trans (h.block k hk hn)⟩
theorem rdV_new (W : World) (x y : Int) : RdP (W.alloc (.cells #[.int .i64 x, .int .u64 y] 48)) (some ⟨W.heap.size, 0, none⟩) [(x, y)] := by
  intro j u hj
  have a := At.new W #[.int .i64 x, .int .u64 y] 48
  refine ⟨W.heap.size, 0, rfl, a.lt, ?_⟩
  have hl := (List.getElem?_eq_some_iff.1 hj).1
  simp at hl
  rcases (by omega : j = 0 ∨ j = 1) with rfl | rfl
  · simp at hj; subst hj; exact a.cell rfl
  · simp at hj; subst hj; exact a.cell rfl
end Go.Proofs.YtondkkhagbcadaaGreat
