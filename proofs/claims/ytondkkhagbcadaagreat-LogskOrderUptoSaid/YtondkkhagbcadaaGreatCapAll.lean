/- Plain laws of what is kept of a row next to one of its ends; no program in sight. -/
import Derived.Test.YtondkkhagbcadaaGreatPairsR
import Derived.Test.YtondkkhagbcadaaGreatStripAll
import Derived.Test.YtondkkhagbcadaaGreatProg
namespace Go.Proofs.YtondkkhagbcadaaGreat

/-- How far an index lies behind an end: the last one, or the first one. -/
def gap (s : Bool) (e i : Int) : Int := if s then e - i else i - e
def endP (s : Bool) (ps : List (Int × Int)) : Int := if s then (ps.getD (ps.length - 1) (0, 0)).1 else (ps.getD 0 (0, 0)).1
/-- What is kept of a row; what is kept behind one more addition. -/
def keptP (s : Bool) (most : Int) (ps : List (Int × Int)) : List (Int × Int) := ps.filter fun x => decide (gap s (endP s ps) x.1 < most)
def capRow (s : Bool) (most : Int) (ps : List (Int × Int)) (q c : Int) : List (Int × Int) :=
  if ps.length ≠ 0 ∧ most ≤ gap s (endP s ps) q then ps else rowAdd (ps.filter fun x => decide (gap s q x.1 < most)) q c
def Win (s : Bool) (most : Int) (ps : List (Int × Int)) : Prop := ∀ x ∈ ps, gap s (endP s ps) x.1 < most

theorem gap_self (s : Bool) (e : Int) : gap s e e = 0 := by unfold gap; cases s <;> simp
theorem gap_add (s : Bool) (e q i : Int) : gap s e i = gap s e q + gap s q i := by unfold gap; cases s <;> simp <;> omega
theorem gap_neg (s : Bool) (e q : Int) : gap s e q = - gap s q e := by unfold gap; cases s <;> simp <;> omega
theorem gap_inj {s : Bool} {e q : Int} (h : gap s e q = 0) : e = q := by unfold gap at h; cases s <;> simp at h <;> omega
theorem gap_zero {s : Bool} {e i j : Int} (h : gap s e i = gap s e j) : i = j := by unfold gap at h; cases s <;> simp at h <;> omega

theorem ne_len {ps : List (Int × Int)} : ps.length ≠ 0 ↔ ps ≠ [] := by
  rw [Ne, List.length_eq_zero_iff]
theorem endP_mem {s : Bool} {ps : List (Int × Int)} (h : ps ≠ []) : ∃ x ∈ ps, x.1 = endP s ps := by
  have hl := List.length_pos_iff.2 h
  cases s with
  | true => exact ⟨_, getD_mem' (i := ps.length - 1) (by omega), rfl⟩
  | false => exact ⟨_, getD_mem' (i := 0) hl, rfl⟩
theorem endP_gap {s : Bool} {ps : List (Int × Int)} (h : Gd ps) : ∀ x ∈ ps, 0 ≤ gap s (endP s ps) x.1 := by
  intro x hx
  obtain ⟨a, ha, rfl⟩ := List.getElem_of_mem hx
  have h1 := h.le (i := 0) (j := a) (by omega) ha
  have h2 := h.le (i := a) (j := ps.length - 1) (by omega) (by omega)
  rw [@List.getD_eq_getElem?_getD _ ps a, List.getElem?_eq_getElem ha, Option.getD_some] at h1 h2
  cases s with
  | true => show 0 ≤ (ps.getD (ps.length - 1) (0, 0)).1 - ps[a].1; omega
  | false => show 0 ≤ ps[a].1 - (ps.getD 0 (0, 0)).1; omega
theorem endP_eq {s : Bool} {ps : List (Int × Int)} {e : Int} (h : Gd ps) (h1 : ∃ x ∈ ps, x.1 = e) (h2 : ∀ x ∈ ps, 0 ≤ gap s e x.1) : endP s ps = e := by
  obtain ⟨x, hx, rfl⟩ := h1
  obtain ⟨y, hy, e⟩ := endP_mem (s := s) (List.ne_nil_of_mem hx)
  have a := endP_gap (s := s) h x hx
  have b := h2 y hy
  rw [e, gap_neg] at b
  exact gap_inj (s := s) (by omega)
theorem cnt_mem {ps : List (Int × Int)} (h : Gd ps) {i : Int} : (∃ x ∈ ps, x.1 = i) ↔ 0 < cnt ps i :=
  ⟨fun ⟨x, hx, e⟩ => e ▸ cnt_mem_pos h.pos hx, cnt_pos_mem⟩
theorem Gd.filter {ps : List (Int × Int)} (h : Gd ps) (p : Int × Int → Bool) : Gd (ps.filter p) := ⟨h.srt.filter _, fun x hx => h.pos x (List.mem_filter.1 hx).1⟩
theorem okP.filter {ps : List (Int × Int)} (h : okP ps) (p : Int × Int → Bool) : okP (ps.filter p) := fun x hx => h x (List.mem_filter.1 hx).1
theorem cnt_filter_le {ps : List (Int × Int)} (h : Gd ps) (p : Int → Bool) (i : Int) : cnt (ps.filter fun x => p x.1) i ≤ cnt ps i := by
  rw [cnt_filter]; have := cnt_nonneg h.pos i; split <;> omega

section
variable {s : Bool} {most : Int} {ps all : List (Int × Int)} {q c : Int}
theorem rowAdd_mem (h : Gd ps) (hc : 0 < c) (hs : cnt ps q + c < 18446744073709551616) {x : Int × Int} (hx : x ∈ rowAdd ps q c) : x.1 = q ∨ ∃ y ∈ ps, y.1 = x.1 := by
  have h1 := cnt_mem_pos (h.rowAdd hc hs).pos hx
  rw [cnt_rowAdd h hc hs] at h1
  by_cases e : x.1 = q
  · exact .inl e
  · rw [if_neg e] at h1; exact .inr (cnt_pos_mem (by omega))
theorem mem_rowAdd (h : Gd ps) (hc : 0 < c) (hs : cnt ps q + c < 18446744073709551616) : ∃ x ∈ rowAdd ps q c, x.1 = q := by
  refine cnt_pos_mem ?_
  rw [cnt_rowAdd h hc hs, if_pos rfl]
  have := cnt_nonneg h.pos q
  omega
theorem mem_rowAdd' (h : Gd ps) (hc : 0 < c) (hs : cnt ps q + c < 18446744073709551616) {i : Int} (hi : ∃ x ∈ ps, x.1 = i) : ∃ x ∈ rowAdd ps q c, x.1 = i := by
  refine cnt_pos_mem ?_
  rw [cnt_rowAdd h hc hs]
  have := (cnt_mem h).1 hi
  split <;> omega
theorem endP_rowAdd (h : Gd ps) (hc : 0 < c) (hs : cnt ps q + c < 18446744073709551616) :
    endP s (rowAdd ps q c) = if ps.length ≠ 0 ∧ 0 ≤ gap s (endP s ps) q then endP s ps else q := by
  split
  · next hh =>
    refine endP_eq (h.rowAdd hc hs) (mem_rowAdd' h hc hs (endP_mem (ne_len.1 hh.1))) fun x hx => ?_
    rcases rowAdd_mem h hc hs hx with e | ⟨y, hy, e⟩
    · rw [e]; exact hh.2
    · rw [← e]; exact endP_gap h y hy
  · next hh =>
    refine endP_eq (h.rowAdd hc hs) (mem_rowAdd h hc hs) fun x hx => ?_
    rcases rowAdd_mem h hc hs hx with e | ⟨y, hy, e⟩
    · rw [e, gap_self]; exact Int.le_refl _
    · have hn : ps ≠ [] := List.ne_nil_of_mem hy
      have a := endP_gap (s := s) h y hy
      have b : ¬ 0 ≤ gap s (endP s ps) q := fun k => hh ⟨ne_len.2 hn, k⟩
      rw [← e]
      have := gap_add s (endP s ps) q y.1
      omega
theorem cnt_kept (i : Int) : cnt (keptP s most ps) i = if gap s (endP s ps) i < most then cnt ps i else 0 := by
  unfold keptP
  rw [cnt_filter (fun y => decide (gap s (endP s ps) y < most))]
  simp only [decide_eq_true_eq]
theorem kept_gd (h : Gd ps) : Gd (keptP s most ps) := h.filter _
theorem kept_sub {x : Int × Int} (h : x ∈ keptP s most ps) : x ∈ ps := (List.mem_filter.1 h).1
theorem kept_end (h : Gd ps) (hm : 1 ≤ most) (hn : ps ≠ []) : keptP s most ps ≠ [] ∧ endP s (keptP s most ps) = endP s ps := by
  obtain ⟨x, hx, e⟩ := endP_mem (s := s) hn
  have hk : x ∈ keptP s most ps := List.mem_filter.2 ⟨hx, by rw [e, gap_self]; exact decide_eq_true (by omega)⟩
  exact ⟨List.ne_nil_of_mem hk, endP_eq (kept_gd h) ⟨x, hk, e⟩ fun y hy => endP_gap h y (kept_sub hy)⟩
theorem kept_nil : keptP s most [] = [] := rfl
theorem kept_win (h : Gd ps) (hm : 1 ≤ most) : Win s most (keptP s most ps) := by
  intro x hx
  by_cases hn : ps = []
  · subst hn; simp [kept_nil] at hx
  · rw [(kept_end h hm hn).2]
    exact of_decide_eq_true (List.mem_filter.1 hx).2
theorem kept_self (hw : Win s most ps) : keptP s most ps = ps := List.filter_eq_self.2 fun x hx => decide_eq_true (hw x hx)
theorem win_nil : Win s most [] := fun _ hx => by simp at hx

theorem near_small (h : Gd ps) (hs : cnt ps q + c < 18446744073709551616) : cnt (ps.filter fun x => decide (gap s q x.1 < most)) q + c < 18446744073709551616 := by
  have := cnt_filter_le h (fun y => decide (gap s q y < most)) q
  omega
theorem capRow_gd (h : Gd ps) (hc : 0 < c) (hs : cnt ps q + c < 18446744073709551616) : Gd (capRow s most ps q c) := by
  unfold capRow
  split
  · exact h
  · exact (h.filter _).rowAdd hc (near_small h hs)
theorem capRow_ok (h : okP ps) (hq : -9223372036854775808 ≤ q ∧ q ≤ 9223372036854775807) : okP (capRow s most ps q c) := by
  unfold capRow
  split
  · exact h
  · exact okP_rowAdd (h.filter _) hq
theorem capRow_sum (h : Gd ps) (hc : 0 < c) (hs : cnt ps q + c < 18446744073709551616) : sumP (capRow s most ps q c) ≤ sumP ps + c := by
  unfold capRow
  split
  · omega
  · rw [sumP_rowAdd (h.filter _) hc (near_small h hs)]
    have := (sumP_filter_le h.pos (fun x => decide (gap s q x.1 < most))).2
    omega
theorem cnt_capRow (h : Gd ps) (hc : 0 < c) (hs : cnt ps q + c < 18446744073709551616) (i : Int) :
    cnt (capRow s most ps q c) i = if ps.length ≠ 0 ∧ most ≤ gap s (endP s ps) q then cnt ps i else (if gap s q i < most then cnt ps i else 0) + if i = q then c else 0 := by
  unfold capRow
  split
  · rfl
  · rw [cnt_rowAdd (h.filter _) hc (near_small h hs), cnt_filter (fun y => decide (gap s q y < most))]
    simp only [decide_eq_true_eq]

/-- What is kept hangs on all that was added. -/
theorem kept_rowAdd (h : Gd all) (hm : 1 ≤ most) (hc : 0 < c) (hs : cnt all q + c < 18446744073709551616) :
    keptP s most (rowAdd all q c) = capRow s most (keptP s most all) q c := by
  have hkc : cnt (keptP s most all) q ≤ cnt all q := cnt_filter_le h (fun y => decide (gap s (endP s all) y < most)) q
  have hs' : cnt (keptP s most all) q + c < 18446744073709551616 := by omega
  refine Gd.ext (kept_gd (h.rowAdd hc hs)) (capRow_gd (kept_gd h) hc hs') fun i => ?_
  rw [cnt_kept, endP_rowAdd h hc hs, cnt_rowAdd h hc hs, cnt_capRow (kept_gd h) hc hs', cnt_kept]
  by_cases hn : all = []
  · subst hn
    rw [if_neg (fun k : ([] : List (Int × Int)).length ≠ 0 ∧ 0 ≤ gap s (endP s []) q => k.1 rfl), if_neg (fun k : (keptP s most []).length ≠ 0 ∧ most ≤ gap s (endP s (keptP s most [])) q => k.1 rfl), cnt_nil, ite_self, ite_self]
    by_cases e : i = q
    · subst e; rw [gap_self, if_pos (by omega)]
    · rw [if_neg e, Int.add_zero, ite_self]
  · obtain ⟨hk1, hk2⟩ := kept_end (s := s) (most := most) h hm hn
    rw [hk2]
    have ha := gap_add s (endP s all) q i
    have h0 := cnt_nonneg h.pos i
    have hz : i = q → gap s q i = 0 := fun e => by rw [e, gap_self]
    have hneg : cnt all i = 0 ∨ 0 ≤ gap s (endP s all) i := by
      by_cases hi : 0 < cnt all i
      · obtain ⟨x, hx, rfl⟩ := (cnt_mem h).2 hi
        exact .inr (endP_gap h x hx)
      · exact .inl (by omega)
    by_cases h1 : most ≤ gap s (endP s all) q
    · rw [if_pos (⟨ne_len.2 hn, by omega⟩ : all.length ≠ 0 ∧ 0 ≤ gap s (endP s all) q), if_pos (⟨ne_len.2 hk1, h1⟩ : (keptP s most all).length ≠ 0 ∧ most ≤ gap s (endP s all) q)]
      by_cases e : i = q
      · subst e; rw [if_neg (by omega), if_neg (by omega)]
      · rw [if_neg e, Int.add_zero]
    · rw [if_neg (fun k : (keptP s most all).length ≠ 0 ∧ most ≤ gap s (endP s all) q => h1 k.2)]
      by_cases h2 : 0 ≤ gap s (endP s all) q
      · rw [if_pos (⟨ne_len.2 hn, h2⟩ : all.length ≠ 0 ∧ 0 ≤ gap s (endP s all) q)]
        by_cases e : i = q
        · have := hz e
          rw [if_pos e, if_pos (by omega), if_pos (by omega), if_pos (by omega)]
        · rw [if_neg e]
          by_cases h3 : gap s (endP s all) i < most
          · rw [if_pos h3, if_pos (by omega), if_pos h3]
          · rw [if_neg h3, if_neg h3]; split <;> rfl
      · rw [if_neg (fun k : all.length ≠ 0 ∧ 0 ≤ gap s (endP s all) q => h2 k.2)]
        by_cases h3 : gap s q i < most
        · rw [if_pos h3, if_pos h3, if_pos (show gap s (endP s all) i < most by omega)]
        · rw [if_neg h3, if_neg h3, if_neg (fun e => h3 (by rw [hz e]; omega))]; rfl
theorem capRow_win (h : Gd ps) (hw : Win s most ps) (hm : 1 ≤ most) (hc : 0 < c) (hs : cnt ps q + c < 18446744073709551616) : Win s most (capRow s most ps q c) := by
  have e := kept_rowAdd (s := s) h hm hc hs
  rw [kept_self hw] at e
  rw [← e]
  exact kept_win (h.rowAdd hc hs) hm
theorem capRow_ne (h : Gd ps) (hc : 0 < c) (hs : cnt ps q + c < 18446744073709551616) : capRow s most ps q c ≠ [] := by
  unfold capRow
  split
  · next hh => exact ne_len.1 hh.1
  · exact rowAdd_ne (h.filter _) hc (near_small h hs)

/-! What lies in a window has no more indexes than it is wide. -/
theorem gd_step (h : Gd ps) : ∀ k, k < ps.length → (ps.getD 0 (0, 0)).1 + k ≤ (ps.getD k (0, 0)).1
  | 0, _ => by simp
  | k + 1, hk => by
    have h1 := gd_step h k (by omega)
    have h2 := List.pairwise_iff_getElem.1 h.srt k (k + 1) (by omega) hk (by omega)
    rw [@List.getD_eq_getElem?_getD _ ps (k + 1), List.getElem?_eq_getElem hk]
    rw [@List.getD_eq_getElem?_getD _ ps k, List.getElem?_eq_getElem (by omega)] at h1
    dsimp only [Option.getD_some] at h1 ⊢
    omega
theorem win_len (h : Gd ps) (hw : Win s most ps) (hm : 1 ≤ most) : (ps.length : Int) ≤ most := by
  by_cases hn : ps = []
  · subst hn; simp; omega
  · have hl := List.length_pos_iff.2 hn
    have h1 := gd_step h (ps.length - 1) (by omega)
    have h2 := hw _ (getD_mem' (i := 0) hl)
    have h3 := hw _ (getD_mem' (i := ps.length - 1) (by omega))
    unfold endP gap at h2 h3
    cases s with
    | true => simp only [if_true] at h2; omega
    | false => simp only [Bool.false_eq_true, if_false] at h3; omega

/-! Many additions. -/
def addAll (ps l : List (Int × Int)) : List (Int × Int) := l.foldl (fun r x => rowAdd r x.1 x.2) ps
def capAll (s : Bool) (most : Int) (ps l : List (Int × Int)) : List (Int × Int) := l.foldl (fun r x => capRow s most r x.1 x.2) ps
theorem addAll_take (ps l : List (Int × Int)) (k : Nat) (hk : k < l.length) : addAll ps (l.take (k + 1)) = rowAdd (addAll ps (l.take k)) (l[k]'hk).1 (l[k]'hk).2 := by
  unfold addAll; rw [List.take_succ_eq_append_getElem hk, List.foldl_append]; rfl
theorem capAll_take (ps l : List (Int × Int)) (k : Nat) (hk : k < l.length) : capAll s most ps (l.take (k + 1)) = capRow s most (capAll s most ps (l.take k)) (l[k]'hk).1 (l[k]'hk).2 := by
  unfold capAll; rw [List.take_succ_eq_append_getElem hk, List.foldl_append]; rfl
theorem addAll_append (ps l l' : List (Int × Int)) : addAll ps (l ++ l') = addAll (addAll ps l) l' := by unfold addAll; rw [List.foldl_append]

theorem addAll_spec : ∀ {l ps : List (Int × Int)}, Gd ps → (∀ x ∈ l, 0 < x.2) → sumP ps + sumP l < 18446744073709551616 →
    Gd (addAll ps l) ∧ sumP (addAll ps l) = sumP ps + sumP l ∧ ∀ i, cnt (addAll ps l) i = cnt ps i + cnt l i
  | [], ps, h, _, _ => ⟨h, by rw [sumP_nil, Int.add_zero]; rfl, fun i => by rw [cnt_nil, Int.add_zero]; rfl⟩
  | x :: l, ps, h, hp, hs => by
    have h1 := hp x (by simp)
    have hp' : ∀ y ∈ l, 0 < y.2 := fun y hy => hp y (by simp [hy])
    have h2 := sumP_nonneg hp'
    rw [sumP_cons] at hs
    have h3 : cnt ps x.1 + x.2 < 18446744073709551616 := by have := cnt_le_sumP h.pos x.1; omega
    obtain ⟨a, b, c⟩ := addAll_spec (l := l) (ps := rowAdd ps x.1 x.2) (h.rowAdd h1 h3) hp' (by rw [sumP_rowAdd h h1 h3]; omega)
    refine ⟨a, ?_, fun i => ?_⟩
    · show sumP (addAll (rowAdd ps x.1 x.2) l) = _
      rw [b, sumP_rowAdd h h1 h3, sumP_cons]; omega
    · show cnt (addAll (rowAdd ps x.1 x.2) l) i = _
      rw [c, cnt_rowAdd h h1 h3, cnt_cons]
      by_cases e : x.1 = i
      · rw [if_pos e, if_pos e.symm]; omega
      · rw [if_neg e, if_neg (fun k => e k.symm)]; omega
theorem addAll_ok : ∀ {l ps : List (Int × Int)}, okP ps → okP l → okP (addAll ps l)
  | [], _, h, _ => h
  | x :: l, ps, h, hl => addAll_ok (l := l) (okP_rowAdd h (hl x (by simp)).1) fun y hy => hl y (by simp [hy])
theorem capAll_kept (hm : 1 ≤ most) : ∀ {l all : List (Int × Int)}, Gd all → (∀ x ∈ l, 0 < x.2) → sumP all + sumP l < 18446744073709551616 →
    capAll s most (keptP s most all) l = keptP s most (addAll all l)
  | [], _, _, _, _ => rfl
  | x :: l, all, h, hp, hs => by
    have h1 := hp x (by simp)
    have hp' : ∀ y ∈ l, 0 < y.2 := fun y hy => hp y (by simp [hy])
    have h2 := sumP_nonneg hp'
    rw [sumP_cons] at hs
    have h3 : cnt all x.1 + x.2 < 18446744073709551616 := by have := cnt_le_sumP h.pos x.1; omega
    show capAll s most (capRow s most (keptP s most all) x.1 x.2) l = _
    rw [← kept_rowAdd h hm h1 h3, capAll_kept hm (h.rowAdd h1 h3) hp' (by rw [sumP_rowAdd h h1 h3]; omega)]
    rfl
theorem addAll_ne {l ps : List (Int × Int)} (h : Gd ps) (hp : ∀ x ∈ l, 0 < x.2) (hs : sumP ps + sumP l < 18446744073709551616) (hn : ps ≠ [] ∨ l ≠ []) : addAll ps l ≠ [] := by
  intro e
  obtain ⟨_, b, _⟩ := addAll_spec h hp hs
  rw [e, sumP_nil] at b
  have a := sumP_nonneg h.pos
  have c := sumP_nonneg hp
  rcases hn with hn | hn
  · cases ps with
    | nil => exact hn rfl
    | cons x ps => rw [sumP_cons] at b; have := h.pos x (by simp); have := sumP_nonneg h.tail.pos; omega
  · cases l with
    | nil => exact hn rfl
    | cons x l => rw [sumP_cons] at b; have := hp x (by simp); have := sumP_nonneg (ps := l) fun y hy => hp y (by simp [hy]); omega
/-- What is kept of two rows together is what is kept of one and of what is kept of the other one. -/
theorem capAll_merge (hm : 1 ≤ most) {all qs : List (Int × Int)} (h : Gd all) (k : Gd qs) (hs : sumP all + sumP qs < 18446744073709551616) :
    capAll s most (keptP s most all) (keptP s most qs) = keptP s most (addAll all qs) := by
  have hk := kept_gd (s := s) (most := most) k
  have hle := (sumP_filter_le k.pos (fun x => decide (gap s (endP s qs) x.1 < most))).2
  have hs' : sumP all + sumP (keptP s most qs) < 18446744073709551616 := by unfold keptP; omega
  rw [capAll_kept hm h hk.pos hs']
  by_cases hn : qs = []
  · subst hn; rfl
  obtain ⟨a1, _, a3⟩ := addAll_spec h k.pos hs
  obtain ⟨b1, _, b3⟩ := addAll_spec h hk.pos hs'
  have hne := addAll_ne h k.pos hs (.inr hn)
  obtain ⟨y, hy, ey⟩ := endP_mem (s := s) hne
  obtain ⟨z, hz, ez⟩ := endP_mem (s := s) hn
  have hE := (cnt_mem a1).1 ⟨y, hy, ey⟩
  have hQ := (cnt_mem k).1 ⟨z, hz, ez⟩
  have hg : ∀ i, 0 < cnt all i + cnt qs i → 0 ≤ gap s (endP s (addAll all qs)) i := fun i hi => by
    rw [← a3] at hi
    obtain ⟨x, hx, e⟩ := (cnt_mem a1).2 hi
    rw [← e]
    exact endP_gap a1 x hx
  have hgq := hg (endP s qs) (by have := cnt_nonneg h.pos (endP s qs); omega)
  rw [a3] at hE
  have hend : endP s (addAll all (keptP s most qs)) = endP s (addAll all qs) := by
    refine endP_eq b1 ?_ fun x hx => ?_
    · rw [cnt_mem b1, b3, cnt_kept, if_pos ?_]
      · exact hE
      · rw [gap_neg]; omega
    · have h1 := (cnt_mem b1).1 ⟨x, hx, rfl⟩
      rw [b3, cnt_kept] at h1
      have := cnt_nonneg k.pos x.1
      exact hg x.1 (by split at h1 <;> omega)
  refine Gd.ext (kept_gd b1) (kept_gd a1) fun i => ?_
  rw [cnt_kept, cnt_kept, hend, b3, a3, cnt_kept]
  have := gap_add s (endP s (addAll all qs)) (endP s qs) i
  by_cases h1 : gap s (endP s (addAll all qs)) i < most
  · rw [if_pos h1, if_pos h1, if_pos (by omega)]
  · rw [if_neg h1, if_neg h1]
end
end Go.Proofs.YtondkkhagbcadaaGreat
/- Plain laws: what leaves a row at its far end; no program in sight. -/
namespace Go.Proofs.YtondkkhagbcadaaGreat

/-- The far end. -/
def farI (s : Bool) (ps : List (Int × Int)) : Nat := if s then 0 else ps.length - 1
def near (s : Bool) (most e : Int) (ps : List (Int × Int)) : List (Int × Int) := ps.filter fun x => decide (gap s e x.1 < most)
section
variable {s : Bool} {most e : Int} {ps : List (Int × Int)}
theorem farI_lt (h : ps ≠ []) : farI s ps < ps.length := by
  have := List.length_pos_iff.2 h
  unfold farI
  split <;> omega
theorem far_gap (h : Gd ps) : ∀ x ∈ ps, gap s e x.1 ≤ gap s e (ps.getD (farI s ps) (0, 0)).1 := by
  intro x hx
  obtain ⟨a, ha, rfl⟩ := List.getElem_of_mem hx
  have h1 := h.le (i := 0) (j := a) (by omega) ha
  have h2 := h.le (i := a) (j := ps.length - 1) (by omega) (by omega)
  rw [@List.getD_eq_getElem?_getD _ ps a, List.getElem?_eq_getElem ha, Option.getD_some] at h1 h2
  unfold gap farI
  cases s with
  | true => simp only [if_true]; omega
  | false => simp only [Bool.false_eq_true, if_false]; omega
theorem near_all (h : Gd ps) (hg : gap s e (ps.getD (farI s ps) (0, 0)).1 < most) : near s most e ps = ps :=
  List.filter_eq_self.2 fun x hx => decide_eq_true (Int.lt_of_le_of_lt (far_gap h x hx) hg)
theorem near_out (i : Nat) (hi : i < ps.length) (hg : most ≤ gap s e (ps.getD i (0, 0)).1) : near s most e (outF ps i) = near s most e ps := by
  unfold near
  conv => rhs; rw [outF_split hi]
  unfold outF
  rw [List.filter_append, List.filter_append, List.filter_cons_of_neg (by rw [decide_eq_true_eq]; omega)]
theorem near_nil : near s most e [] = [] := rfl
theorem near_sum (h : Gd ps) : 0 ≤ sumP (near s most e ps) ∧ sumP (near s most e ps) ≤ sumP ps := sumP_filter_le h.pos _
theorem near_gd (h : Gd ps) : Gd (near s most e ps) := h.filter _
theorem near_self (h : Gd ps) (hw : Win s most ps) (hg : 0 ≤ gap s (endP s ps) e) : near s most e ps = ps := by
  refine List.filter_eq_self.2 fun x hx => decide_eq_true ?_
  have := hw x hx
  have := gap_add s (endP s ps) e x.1
  omega
theorem capRow_no {q c : Int} (h : ¬ (ps.length ≠ 0 ∧ most ≤ gap s (endP s ps) q)) : capRow s most ps q c = rowAdd (near s most q ps) q c := by unfold capRow; rw [if_neg h]; rfl
theorem capRow_yes {q c : Int} (h : ps.length ≠ 0) (h' : most ≤ gap s (endP s ps) q) : capRow s most ps q c = ps := by unfold capRow; rw [if_pos ⟨h, h'⟩]
theorem near_room {q c : Int} (h : Gd ps) (hw : Win s most ps) (hm : 1 ≤ most) (hc : 0 < c) (hs : sumP ps + c ≤ 9223372036854775807) (hn : ¬ (ps.length ≠ 0 ∧ most ≤ gap s (endP s ps) q)) : stRoom most (near s most q ps) q c := by
  have h1 := (near_sum (s := s) (most := most) (e := q) h).2
  have h2 : cnt ps q + c < 18446744073709551616 := by have := cnt_le_sumP h.pos q; omega
  refine ⟨by omega, ?_⟩
  rw [← capRow_no hn]
  exact win_len (capRow_gd h hc h2) (capRow_win h hw hm hc h2) hm
end
end Go.Proofs.YtondkkhagbcadaaGreat
/- Small laws that both caps lean on. -/
namespace Go.Proofs.YtondkkhagbcadaaGreat
open Go.RowKit

/-- How long the row of a strip's block is. -/
def lenC (w : World) (c : Nat) : Nat := match w.cell? ⟨c, 1, none⟩ with
  | some (.slice _ n _) => n
  | _ => 0
theorem Strip.lenC {w : World} {c : Nat} {S : List Nat} {most : Int} {ps : List (Int × Int)} (h : Strip w c S most ps) : lenC w c = ps.length := by
  obtain ⟨A, k, _, h⟩ := h
  have := h.at'.three
  unfold Go.Proofs.YtondkkhagbcadaaGreat.lenC
  rw [this.2.1]

theorem endsV_ne {ps : List (Int × Int)} (h : ps ≠ []) : endsV ps = .tuple #[.int .i64 (ps.getD 0 (0, 0)).1, .int .i64 (ps.getD (ps.length - 1) (0, 0)).1, .bool true] := by
  unfold endsV
  rw [if_neg (ne_len.2 h)]

theorem okP.end' {s : Bool} {ps : List (Int × Int)} (h : okP ps) (h0 : ps ≠ []) : -9223372036854775808 ≤ endP s ps ∧ endP s ps ≤ 9223372036854775807 := by
  obtain ⟨x, hx, e⟩ := endP_mem (s := s) h0
  rw [← e]
  exact (h x hx).1

end Go.Proofs.YtondkkhagbcadaaGreat
