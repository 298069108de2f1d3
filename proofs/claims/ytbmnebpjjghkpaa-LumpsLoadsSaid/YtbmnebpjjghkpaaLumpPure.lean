/- Plain laws of lumps (how many, from a least to a greatest value); no program in sight. -/
import Derived.Test.YtbmnebpjjghkpaaBase
namespace Go.Proofs.Ytbmnebpjjghkpaa

abbrev Lu := Int × Int × Int
/-- One stands ahead of another one. -/
def lless (a b : Lu) : Prop := a.2.1 < b.2.1 ∨ a.2.1 = b.2.1 ∧ a.2.2 < b.2.2
instance (a b : Lu) : Decidable (lless a b) := by unfold lless; infer_instance
def lsame (a b : Lu) : Prop := a.2.1 = b.2.1 ∧ a.2.2 = b.2.2
instance (a b : Lu) : Decidable (lsame a b) := by unfold lsame; infer_instance
theorem lless_irrefl (a : Lu) : ¬ lless a a := by unfold lless; omega
theorem lless_trans {a b c : Lu} (h : lless a b) (k : lless b c) : lless a c := by unfold lless at *; omega
theorem lless_tri (a b : Lu) : lless a b ∨ lsame a b ∨ lless b a := by unfold lless lsame; omega
theorem lless_not_same {a b : Lu} (h : lless a b) : ¬ lsame a b := by unfold lless lsame at *; omega
theorem lless_asymm {a b : Lu} (h : lless a b) : ¬ lless b a := by unfold lless at *; omega
theorem lsame_symm {a b : Lu} (h : lsame a b) : lsame b a := ⟨h.1.symm, h.2.symm⟩
theorem lless_same {a b c : Lu} (h : lless a b) (k : lsame b c) : lless a c := by unfold lless lsame at *; omega
theorem same_lless {a b c : Lu} (h : lsame a b) (k : lless b c) : lless a c := by unfold lless lsame at *; omega

/-- A row of lumps. -/
structure GdL (ls : List Lu) : Prop where
  srt : ls.Pairwise lless
  pos : ∀ x ∈ ls, 0 < x.1
  rng : ∀ x ∈ ls, x.2.1 ≤ x.2.2
theorem GdL.nil : GdL [] := ⟨List.Pairwise.nil, by simp, by simp⟩
theorem GdL.tail {x : Lu} {ls : List Lu} (h : GdL (x :: ls)) : GdL ls := ⟨h.srt.of_cons, fun y hy => h.pos y (by simp [hy]), fun y hy => h.rng y (by simp [hy])⟩
theorem GdL.head {x : Lu} {ls : List Lu} (h : GdL (x :: ls)) : ∀ y ∈ ls, lless x y := (List.pairwise_cons.1 h.srt).1
theorem GdL.sub {ls ls' : List Lu} (h : GdL ls) (hs : ls'.Sublist ls) : GdL ls' := ⟨h.srt.sublist hs, fun x hx => h.pos x (hs.subset hx), fun x hx => h.rng x (hs.subset hx)⟩

/-- How many of those of which p holds. -/
def sumI (p : Lu → Bool) (ls : List Lu) : Int := ((ls.filter p).map fun x => x.1).sum
def sumN (ls : List Lu) : Int := (ls.map fun x => x.1).sum
theorem sumN_nil : sumN [] = 0 := rfl
theorem sumN_cons (x : Lu) (ls : List Lu) : sumN (x :: ls) = x.1 + sumN ls := by simp [sumN]
theorem sumN_append (ls ks : List Lu) : sumN (ls ++ ks) = sumN ls + sumN ks := by simp [sumN]
theorem sumI_nil (p : Lu → Bool) : sumI p [] = 0 := rfl
theorem sumI_cons (p : Lu → Bool) (x : Lu) (ls : List Lu) : sumI p (x :: ls) = (if p x then x.1 else 0) + sumI p ls := by
  unfold sumI
  by_cases h : p x = true
  · simp [h]
  · simp [h]
theorem sumI_append (p : Lu → Bool) (ls ks : List Lu) : sumI p (ls ++ ks) = sumI p ls + sumI p ks := by simp [sumI]
theorem sumI_true (ls : List Lu) : sumI (fun _ => true) ls = sumN ls := by unfold sumI sumN; rw [List.filter_eq_self.2 (fun _ _ => rfl)]
theorem sumI_le {p : Lu → Bool} : ∀ {ls : List Lu}, (∀ x ∈ ls, 0 < x.1) → 0 ≤ sumI p ls ∧ sumI p ls ≤ sumN ls
  | [], _ => ⟨Int.le_refl _, Int.le_refl _⟩
  | x :: ls, h => by
    have h1 := h x (by simp)
    have h2 := sumI_le (p := p) (ls := ls) fun y hy => h y (by simp [hy])
    rw [sumI_cons, sumN_cons]
    split <;> omega
theorem sumN_nonneg {ls : List Lu} (h : ∀ x ∈ ls, 0 < x.1) : 0 ≤ sumN ls := by have := sumI_le (p := fun _ => true) h; rw [sumI_true] at this; exact this.1
theorem sumI_mono {p q : Lu → Bool} : ∀ {ls : List Lu}, (∀ x ∈ ls, 0 < x.1) → (∀ x ∈ ls, p x = true → q x = true) → sumI p ls ≤ sumI q ls
  | [], _, _ => Int.le_refl _
  | x :: ls, h, hp => by
    have h1 := h x (by simp)
    have h2 := sumI_mono (p := p) (q := q) (ls := ls) (fun y hy => h y (by simp [hy])) fun y hy => hp y (by simp [hy])
    have h3 := hp x (by simp)
    rw [sumI_cons, sumI_cons]
    by_cases a : p x = true
    · rw [if_pos a, if_pos (h3 a)]; omega
    · rw [if_neg a]; split <;> omega

/-- A lump more (the document's Lay). -/
def laid (ls : List Lu) (l : Lu) : List Lu := ls.filter (fun x => decide (lless x l)) ++ [(l.1 + sumI (fun x => decide (lsame x l)) ls, l.2.1, l.2.2)] ++ ls.filter (fun x => decide (lless l x))

section
variable {ls : List Lu} {l : Lu}
theorem laid_gd (h : GdL ls) (h1 : 0 < l.1) (h2 : l.2.1 ≤ l.2.2) : GdL (laid ls l) := by
  have h0 := (sumI_le (p := fun x => decide (lsame x l)) h.pos).1
  unfold laid
  refine ⟨?_, fun x hx => ?_, fun x hx => ?_⟩
  · rw [List.pairwise_append, List.pairwise_append]
    refine ⟨⟨h.srt.filter _, by simp, fun x hx y hy => ?_⟩, h.srt.filter _, fun x hx y hy => ?_⟩
    · simp only [List.mem_filter, decide_eq_true_eq, List.mem_singleton] at hx hy
      subst hy
      exact lless_same hx.2 ⟨rfl, rfl⟩
    · simp only [List.mem_append, List.mem_filter, decide_eq_true_eq, List.mem_singleton] at hx hy
      rcases hx with hx | rfl
      · exact lless_trans hx.2 hy.2
      · exact same_lless (b := l) ⟨rfl, rfl⟩ hy.2
  · simp only [List.mem_append, List.mem_filter, List.mem_singleton] at hx
    rcases hx with (hx | rfl) | hx
    · exact h.pos x hx.1
    · dsimp only; omega
    · exact h.pos x hx.1
  · simp only [List.mem_append, List.mem_filter, List.mem_singleton] at hx
    rcases hx with (hx | rfl) | hx
    · exact h.rng x hx.1
    · exact h2
    · exact h.rng x hx.1
/-- What hangs on the values alone is counted once more. -/
theorem sumI_split (p : Lu → Bool) (hp : ∀ a b, lsame a b → p a = p b) (l : Lu) : ∀ (ls : List Lu), sumI p ls = sumI p (ls.filter fun x => decide (lless x l)) + (if p l then sumI (fun x => decide (lsame x l)) ls else 0) + sumI p (ls.filter fun x => decide (lless l x))
  | [] => by simp [sumI]
  | x :: ls => by
    rw [sumI_cons, sumI_split p hp l ls]
    have e2 := sumI_cons (fun x => decide (lsame x l)) x ls
    rcases lless_tri x l with h | h | h
    · have h1 : ¬ lsame x l := lless_not_same h
      have h2 : ¬ lless l x := lless_asymm h
      have e := sumI_cons p x (ls.filter fun x => decide (lless x l))
      rw [decide_eq_false h1] at e2
      rw [List.filter_cons_of_pos (by simpa using h), List.filter_cons_of_neg (by simpa using h2), e, e2]
      cases p l <;> cases p x <;> simp <;> omega
    · have h1 : ¬ lless x l := fun k => lless_not_same k h
      have h2 : ¬ lless l x := fun k => lless_not_same k (lsame_symm h)
      rw [decide_eq_true h] at e2
      rw [List.filter_cons_of_neg (by simpa using h1), List.filter_cons_of_neg (by simpa using h2), e2, hp x l h]
      cases p l <;> simp <;> omega
    · have h1 : ¬ lsame x l := fun k => lless_not_same h (lsame_symm k)
      have h2 : ¬ lless x l := lless_asymm h
      have e := sumI_cons p x (ls.filter fun x => decide (lless l x))
      rw [decide_eq_false h1] at e2
      rw [List.filter_cons_of_neg (by simpa using h2), List.filter_cons_of_pos (by simpa using h), e, e2]
      cases p l <;> cases p x <;> simp <;> omega
theorem sumI_laid (p : Lu → Bool) (hp : ∀ a b, lsame a b → p a = p b) : sumI p (laid ls l) = sumI p ls + if p l then l.1 else 0 := by
  unfold laid
  rw [sumI_append, sumI_append, sumI_cons, sumI_nil, sumI_split p hp l ls, hp (l.1 + sumI (fun x => decide (lsame x l)) ls, l.2.1, l.2.2) l ⟨rfl, rfl⟩]
  dsimp only
  split <;> omega
theorem sumN_laid : sumN (laid ls l) = sumN ls + l.1 := by
  rw [← sumI_true, ← sumI_true, sumI_laid _ (fun _ _ _ => rfl)]
  simp
theorem laid_mem {x : Lu} (h : x ∈ laid ls l) : lsame x l ∨ x ∈ ls := by
  unfold laid at h
  simp only [List.mem_append, List.mem_filter, List.mem_singleton] at h
  rcases h with (h | rfl) | h
  · exact .inr h.1
  · exact .inl ⟨rfl, rfl⟩
  · exact .inr h.1
theorem laid_in : (l.1 + sumI (fun x => decide (lsame x l)) ls, l.2.1, l.2.2) ∈ laid ls l := by
  unfold laid
  exact List.mem_append.2 (.inl (List.mem_append.2 (.inr (List.mem_singleton.2 rfl))))
theorem mem_laid (x : Lu) (h : x ∈ ls) : ∃ y ∈ laid ls l, lsame y x := by
  rcases lless_tri x l with k | k | k
  · exact ⟨x, by unfold laid; simp [h, k], ⟨rfl, rfl⟩⟩
  · exact ⟨_, laid_in, lsame_symm k⟩
  · exact ⟨x, by unfold laid; simp [h, k], ⟨rfl, rfl⟩⟩
theorem mem_laid' : ∃ y ∈ laid ls l, lsame y l := ⟨_, laid_in, ⟨rfl, rfl⟩⟩
theorem filter_three {α : Type} (p q r : α → Bool) : ∀ (l : List α), (∀ x ∈ l, p x = true → q x = false) → (l.filter p).length + (l.filter q).length ≤ l.length
  | [], _ => by simp
  | x :: l, h => by
    have ih := filter_three p q r l fun y hy => h y (by simp [hy])
    have hx := h x (by simp)
    rw [List.filter_cons, List.filter_cons, List.length_cons]
    by_cases hp : p x = true
    · rw [if_pos hp, if_neg (by rw [hx hp]; decide), List.length_cons]; omega
    · rw [if_neg hp]; split
      · rw [List.length_cons]; omega
      · omega
theorem laid_len : (laid ls l).length ≤ ls.length + 1 := by
  unfold laid
  have h1 := filter_three (fun x : Lu => decide (lless x l)) (fun x : Lu => decide (lless l x)) (fun _ => true) ls fun x _ hx => by
    rw [decide_eq_true_eq] at hx; exact decide_eq_false (lless_asymm hx)
  rw [List.length_append, List.length_append, List.length_singleton]
  omega
end

/-! What two neighbours cost; the first of those that cost the least. -/
def lget (ls : List Lu) (i : Nat) : Lu := ls.getD i (0, 0, 0)
def costL (ls : List Lu) (i : Nat) : Int × Int := ((lget ls i).1 + (lget ls (i + 1)).1, min (sumN (ls.take i)) (sumN (ls.drop (i + 2))) + 1)
def fless (a b : Int × Int) : Prop := a.1 * b.2 < b.1 * a.2
instance (a b : Int × Int) : Decidable (fless a b) := by unfold fless; infer_instance
/-- The first k pairs of neighbours were looked at. -/
def pickTo (ls : List Lu) (k : Nat) : Nat := (List.range k).foldl (fun a i => if fless (costL ls i) (costL ls a) then i else a) 0
def pick (ls : List Lu) : Nat := pickTo ls (ls.length - 1)
theorem pickTo_succ (ls : List Lu) (k : Nat) : pickTo ls (k + 1) = if fless (costL ls k) (costL ls (pickTo ls k)) then k else pickTo ls k := by
  unfold pickTo
  rw [List.range_succ, List.foldl_append]
  rfl
theorem pickTo_one (ls : List Lu) : pickTo ls 1 = 0 := by
  rw [pickTo_succ]; split <;> rfl
theorem pickTo_lt (ls : List Lu) : ∀ k, 0 < k → pickTo ls k < k
  | 1, _ => by rw [pickTo_one]; omega
  | k + 2, _ => by
    have := pickTo_lt ls (k + 1) (by omega)
    rw [pickTo_succ]
    split <;> omega
theorem pick_lt {ls : List Lu} (h : 2 ≤ ls.length) : pick ls + 1 < ls.length := by
  have := pickTo_lt ls (ls.length - 1) (by omega)
  unfold pick
  omega
/-- Two neighbours are one. -/
def both (ls : List Lu) (i : Nat) : Lu := ((lget ls i).1 + (lget ls (i + 1)).1, (lget ls i).2.1, max (lget ls i).2.2 (lget ls (i + 1)).2.2)
def out2 (ls : List Lu) (i : Nat) : List Lu := ls.take i ++ ls.drop (i + 2)
def press1 (ls : List Lu) : List Lu := laid (out2 ls (pick ls)) (both ls (pick ls))
theorem split2 {ls : List Lu} {i : Nat} (h : i + 1 < ls.length) : ls = ls.take i ++ lget ls i :: lget ls (i + 1) :: ls.drop (i + 2) := by
  have e1 : lget ls i = ls[i] := by unfold lget; rw [List.getD_eq_getElem?_getD, List.getElem?_eq_getElem (by omega)]; rfl
  have e2 : lget ls (i + 1) = ls[i + 1] := by unfold lget; rw [List.getD_eq_getElem?_getD, List.getElem?_eq_getElem h]; rfl
  rw [e1, e2, ← List.drop_eq_getElem_cons h, ← List.drop_eq_getElem_cons (by omega : i < ls.length), List.take_append_drop]
theorem out2_len {ls : List Lu} {i : Nat} (h : i + 1 < ls.length) : (out2 ls i).length = ls.length - 2 := by
  unfold out2
  rw [List.length_append, List.length_take, List.length_drop]
  omega
theorem out2_sub (ls : List Lu) (i : Nat) : (out2 ls i).Sublist ls := by
  unfold out2
  conv => rhs; rw [← List.take_append_drop i ls]
  refine List.Sublist.append (List.Sublist.refl _) ?_
  rw [show ls.drop (i + 2) = (ls.drop i).drop 2 by rw [List.drop_drop]]
  exact List.drop_sublist _ _

theorem mem_lget {ls : List Lu} {i : Nat} (h : i < ls.length) : lget ls i ∈ ls := by
  unfold lget; rw [List.getD_eq_getElem?_getD, List.getElem?_eq_getElem h]; exact List.getElem_mem h
theorem both_ok {ls : List Lu} {i : Nat} (h : GdL ls) (hi : i + 1 < ls.length) : 0 < (both ls i).1 ∧ (both ls i).2.1 ≤ (both ls i).2.2 := by
  have h1 := h.pos _ (mem_lget (by omega : i < ls.length))
  have h2 := h.pos _ (mem_lget hi)
  have h3 := h.rng _ (mem_lget (by omega : i < ls.length))
  unfold both
  dsimp only
  omega
theorem press1_gd {ls : List Lu} (h : GdL ls) (hl : 2 ≤ ls.length) : GdL (press1 ls) := by
  have hb := both_ok h (pick_lt hl)
  exact laid_gd (h.sub (out2_sub ls _)) hb.1 hb.2
theorem sumI_out2 (p : Lu → Bool) {ls : List Lu} {i : Nat} (h : i + 1 < ls.length) : sumI p ls = sumI p (out2 ls i) + ((if p (lget ls i) then (lget ls i).1 else 0) + if p (lget ls (i + 1)) then (lget ls (i + 1)).1 else 0) := by
  conv => lhs; rw [split2 h]
  unfold out2
  rw [sumI_append, sumI_append, sumI_cons, sumI_cons]
  omega
theorem press1_sum {ls : List Lu} (hl : 2 ≤ ls.length) : sumN (press1 ls) = sumN ls := by
  have := sumI_out2 (fun _ => true) (pick_lt hl)
  rw [sumI_true, sumI_true] at this
  unfold press1
  rw [sumN_laid, this]
  unfold both
  simp
theorem press1_len {ls : List Lu} (hl : 2 ≤ ls.length) : (press1 ls).length < ls.length := by
  have h1 := out2_len (pick_lt hl)
  have h2 := laid_len (ls := out2 ls (pick ls)) (l := both ls (pick ls))
  unfold press1
  omega
/-- Until there are no more than there may be. -/
def pressF (most : Int) : Nat → List Lu → List Lu
  | 0, ls => ls
  | f + 1, ls => if (ls.length : Int) ≤ most then ls else pressF most f (press1 ls)
def press (most : Int) (ls : List Lu) : List Lu := pressF most ls.length ls
theorem pressF_stop {most : Int} {ls : List Lu} (h : (ls.length : Int) ≤ most) : ∀ f, pressF most f ls = ls
  | 0 => rfl
  | f + 1 => by unfold pressF; rw [if_pos h]
theorem press_stop {most : Int} {ls : List Lu} (h : (ls.length : Int) ≤ most) : press most ls = ls := pressF_stop h _
theorem pressF_more {most : Int} (hm : 1 ≤ most) : ∀ {n f : Nat} {ls : List Lu}, ls.length ≤ n → n ≤ f → pressF most f ls = pressF most n ls
  | 0, f, ls, h1, _ => by
    have : ls = [] := List.eq_nil_of_length_eq_zero (by omega)
    subst this
    rw [pressF_stop (by simp; omega), pressF_stop (by simp; omega)]
  | n + 1, 0, ls, _, h2 => by omega
  | n + 1, f + 1, ls, h1, h2 => by
    unfold pressF
    by_cases hs : (ls.length : Int) ≤ most
    · rw [if_pos hs, if_pos hs]
    · rw [if_neg hs, if_neg hs]
      have := press1_len (ls := ls) (by omega)
      exact pressF_more hm (by omega) (by omega)
theorem press_step {most : Int} {ls : List Lu} (hm : 1 ≤ most) (h : ¬ (ls.length : Int) ≤ most) : press most ls = press most (press1 ls) := by
  have h2 := press1_len (ls := ls) (by omega)
  unfold press
  obtain ⟨n, hn⟩ : ∃ n, ls.length = n + 1 := ⟨ls.length - 1, by omega⟩
  conv => lhs; rw [hn]; unfold pressF; rw [if_neg h]
  exact pressF_more hm (Nat.le_refl _) (by omega)
/-- What each step keeps, and what holds at its end. -/
theorem press_ind {most : Int} {P : List Lu → Prop} (hm : 1 ≤ most) (hs : ∀ ls, P ls → ¬ (ls.length : Int) ≤ most → P (press1 ls)) : ∀ {n : Nat} {ls : List Lu}, ls.length ≤ n → P ls → P (press most ls) ∧ ((press most ls).length : Int) ≤ most
  | 0, ls, hn, h => by
    have : (ls.length : Int) ≤ most := by omega
    rw [press_stop this]
    exact ⟨h, this⟩
  | n + 1, ls, hn, h => by
    by_cases hl : (ls.length : Int) ≤ most
    · rw [press_stop hl]; exact ⟨h, hl⟩
    · rw [press_step hm hl]
      have := press1_len (ls := ls) (by omega)
      exact press_ind hm hs (n := n) (by omega) (hs ls h hl)
theorem press_ok {most : Int} {ls : List Lu} (hm : 1 ≤ most) (h : GdL ls) : GdL (press most ls) ∧ sumN (press most ls) = sumN ls ∧ ((press most ls).length : Int) ≤ most := by
  have := press_ind (P := fun ks => GdL ks ∧ sumN ks = sumN ls) hm (fun ks hk hl => ⟨press1_gd hk.1 (by omega), by rw [press1_sum (by omega)]; exact hk.2⟩) (Nat.le_refl _) ⟨h, rfl⟩
  exact ⟨this.1.1, this.1.2, this.2⟩
end Go.Proofs.Ytbmnebpjjghkpaa

