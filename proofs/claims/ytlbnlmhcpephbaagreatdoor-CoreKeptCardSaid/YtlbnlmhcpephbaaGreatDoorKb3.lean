/- Texts of this claim, joined, indents halved: CapAll, Good, LowAll. -/
import Derived.Test.YtlbnlmhcpephbaaGreatDoorProg
import Derived.BigQuiet
import Derived.Deep.QuietTactic
import Derived.LoopNIn
import Derived.Test.YtlbnlmhcpephbaaGreatDoorKb2
namespace Go.Proofs.YtlbnlmhcpephbaaGreatDoor
def gap (s : Bool) (e i : Int) : Int := if s then e - i else i - e
def endP (s : Bool) (ps : List (Int × Int)) : Int := if s then (ps.getD (ps.length - 1) (0, 0)).1 else (ps.getD 0 (0, 0)).1
def keptP (s : Bool) (most : Int) (ps : List (Int × Int)) : List (Int × Int) := ps.filter fun x => decide (gap s (endP s ps) x.1 < most)
def capRow (s : Bool) (most : Int) (ps : List (Int × Int)) (q c : Int) : List (Int × Int) :=
 if ps.length ≠ 0 ∧ most ≤ gap s (endP s ps) q then ps else rowAdd (ps.filter fun x => decide (gap s q x.1 < most)) q c
def Win (s : Bool) (most : Int) (ps : List (Int × Int)) : Prop := ∀ x ∈ ps, gap s (endP s ps) x.1 < most
theorem gap_self (s : Bool) (e : Int) : gap s e e = 0 := by unfold gap; cases s <;> simp
theorem gap_add (s : Bool) (e q i : Int) : gap s e i = gap s e q + gap s q i := by unfold gap; cases s <;> simp <;> omega
theorem gap_neg (s : Bool) (e q : Int) : gap s e q = - gap s q e := by unfold gap; cases s <;> simp <;> omega
theorem gap_inj {s : Bool} {e q : Int} (h : gap s e q = 0) : e = q := by unfold gap at h; cases s <;> simp at h <;> omega
theorem ne_len {ps : List (Int × Int)} : ps.length ≠ 0 ↔ ps ≠ [] := by
 rw [Ne, List.length_eq_zero_iff]
theorem endP_mem {s : Bool} {ps : List (Int × Int)} (h : ps ≠ []) : ∃ x ∈ ps, x.1 = endP s ps := by
 have hl := List.length_pos_iff.2 h
 cases s with
 | true => exact ⟨_, getD_mem' (i := ps.length - 1) (by omega), rfl⟩
 | false => exact ⟨_, getD_mem' (i := 0) hl, rfl⟩
theorem endP_gap {s : Bool} {ps : List (Int × Int)} (h : Gd ps) : ∀ x ∈ ps, 0 ≤ gap s (endP s ps) x.1 := by
 intro x hx
 obtain ⟨a, ha, rfl⟩ := List.getElem_of_mem hx
 have h1 := h.le (i := 0) (j := a) (by omega) ha
 have h2 := h.le (i := a) (j := ps.length - 1) (by omega) (by omega)
 rw [@List.getD_eq_getElem?_getD _ ps a, List.getElem?_eq_getElem ha, Option.getD_some] at h1 h2
 cases s with
 | true => show 0 ≤ (ps.getD (ps.length - 1) (0, 0)).1 - ps[a].1; omega
 | false => show 0 ≤ ps[a].1 - (ps.getD 0 (0, 0)).1; omega
theorem endP_eq {s : Bool} {ps : List (Int × Int)} {e : Int} (h : Gd ps) (h1 : ∃ x ∈ ps, x.1 = e) (h2 : ∀ x ∈ ps, 0 ≤ gap s e x.1) : endP s ps = e := by
 obtain ⟨x, hx, rfl⟩ := h1
 obtain ⟨y, hy, e⟩ := endP_mem (s := s) (List.ne_nil_of_mem hx)
 have a := endP_gap (s := s) h x hx
 have b := h2 y hy
 rw [e, gap_neg] at b
 exact gap_inj (s := s) (by omega)
theorem cnt_mem {ps : List (Int × Int)} (h : Gd ps) {i : Int} : (∃ x ∈ ps, x.1 = i) ↔ 0 < cnt ps i :=
 ⟨fun ⟨x, hx, e⟩ => e ▸ cnt_mem_pos h.pos hx, cnt_pos_mem⟩
theorem Gd.filter {ps : List (Int × Int)} (h : Gd ps) (p : Int × Int → Bool) : Gd (ps.filter p) := ⟨h.srt.filter _, fun x hx => h.pos x (List.mem_filter.1 hx).1⟩
theorem okP.filter {ps : List (Int × Int)} (h : okP ps) (p : Int × Int → Bool) : okP (ps.filter p) := fun x hx => h x (List.mem_filter.1 hx).1
theorem cnt_filter_le {ps : List (Int × Int)} (h : Gd ps) (p : Int → Bool) (i : Int) : cnt (ps.filter fun x => p x.1) i ≤ cnt ps i := by
 rw [cnt_filter]; have := cnt_nonneg h.pos i; split <;> omega
section
variable {s : Bool} {most : Int} {ps all : List (Int × Int)} {q c : Int}
theorem rowAdd_mem (h : Gd ps) (hc : 0 < c) (hs : cnt ps q + c < 18446744073709551616) {x : Int × Int} (hx : x ∈ rowAdd ps q c) : x.1 = q ∨ ∃ y ∈ ps, y.1 = x.1 := by
 have h1 := cnt_mem_pos (h.rowAdd hc hs).pos hx
 rw [cnt_rowAdd h hc hs] at h1
 by_cases e : x.1 = q
 ·exact .inl e
 ·rw [if_neg e] at h1; exact .inr (cnt_pos_mem (by omega))
theorem mem_rowAdd (h : Gd ps) (hc : 0 < c) (hs : cnt ps q + c < 18446744073709551616) : ∃ x ∈ rowAdd ps q c, x.1 = q := by
 refine cnt_pos_mem ?_
 rw [cnt_rowAdd h hc hs, if_pos rfl]
 have := cnt_nonneg h.pos q
 omega
theorem mem_rowAdd' (h : Gd ps) (hc : 0 < c) (hs : cnt ps q + c < 18446744073709551616) {i : Int} (hi : ∃ x ∈ ps, x.1 = i) : ∃ x ∈ rowAdd ps q c, x.1 = i := by
 refine cnt_pos_mem ?_
 rw [cnt_rowAdd h hc hs]
 have := (cnt_mem h).1 hi
 split <;> omega
theorem endP_rowAdd (h : Gd ps) (hc : 0 < c) (hs : cnt ps q + c < 18446744073709551616) :
  endP s (rowAdd ps q c) = if ps.length ≠ 0 ∧ 0 ≤ gap s (endP s ps) q then endP s ps else q := by
 split
 ·next hh =>
  refine endP_eq (h.rowAdd hc hs) (mem_rowAdd' h hc hs (endP_mem (ne_len.1 hh.1))) fun x hx => ?_
  rcases rowAdd_mem h hc hs hx with e | ⟨y, hy, e⟩
  ·rw [e]; exact hh.2
  ·rw [← e]; exact endP_gap h y hy
 ·next hh =>
  refine endP_eq (h.rowAdd hc hs) (mem_rowAdd h hc hs) fun x hx => ?_
  rcases rowAdd_mem h hc hs hx with e | ⟨y, hy, e⟩
  ·rw [e, gap_self]; exact Int.le_refl _
  ·have hn : ps ≠ [] := List.ne_nil_of_mem hy
   have a := endP_gap (s := s) h y hy
   have b : ¬ 0 ≤ gap s (endP s ps) q := fun k => hh ⟨ne_len.2 hn, k⟩
   rw [← e]
   have := gap_add s (endP s ps) q y.1
   omega
theorem cnt_kept (i : Int) : cnt (keptP s most ps) i = if gap s (endP s ps) i < most then cnt ps i else 0 := by
 unfold keptP
 rw [cnt_filter (fun y => decide (gap s (endP s ps) y < most))]
 simp only [decide_eq_true_eq]
theorem kept_gd (h : Gd ps) : Gd (keptP s most ps) := h.filter _
theorem kept_sub {x : Int × Int} (h : x ∈ keptP s most ps) : x ∈ ps := (List.mem_filter.1 h).1
theorem kept_end (h : Gd ps) (hm : 1 ≤ most) (hn : ps ≠ []) : keptP s most ps ≠ [] ∧ endP s (keptP s most ps) = endP s ps := by
 obtain ⟨x, hx, e⟩ := endP_mem (s := s) hn
 have hk : x ∈ keptP s most ps := List.mem_filter.2 ⟨hx, by rw [e, gap_self]; exact decide_eq_true (by omega)⟩
 exact ⟨List.ne_nil_of_mem hk, endP_eq (kept_gd h) ⟨x, hk, e⟩ fun y hy => endP_gap h y (kept_sub hy)⟩
theorem kept_nil : keptP s most [] = [] := rfl
theorem kept_win (h : Gd ps) (hm : 1 ≤ most) : Win s most (keptP s most ps) := by
 intro x hx
 by_cases hn : ps = []
 ·subst hn; simp [kept_nil] at hx
 ·rw [(kept_end h hm hn).2]
  exact of_decide_eq_true (List.mem_filter.1 hx).2
theorem kept_self (hw : Win s most ps) : keptP s most ps = ps := List.filter_eq_self.2 fun x hx => decide_eq_true (hw x hx)
theorem win_nil : Win s most [] := fun _ hx => by simp at hx
theorem near_small (h : Gd ps) (hs : cnt ps q + c < 18446744073709551616) : cnt (ps.filter fun x => decide (gap s q x.1 < most)) q + c < 18446744073709551616 := by
 have := cnt_filter_le h (fun y => decide (gap s q y < most)) q
 omega
theorem capRow_gd (h : Gd ps) (hc : 0 < c) (hs : cnt ps q + c < 18446744073709551616) : Gd (capRow s most ps q c) := by
 unfold capRow
 split
 ·exact h
 ·exact (h.filter _).rowAdd hc (near_small h hs)
theorem cnt_capRow (h : Gd ps) (hc : 0 < c) (hs : cnt ps q + c < 18446744073709551616) (i : Int) :
  cnt (capRow s most ps q c) i = if ps.length ≠ 0 ∧ most ≤ gap s (endP s ps) q then cnt ps i else (if gap s q i < most then cnt ps i else 0) + if i = q then c else 0 := by
 unfold capRow
 split
 ·rfl
 ·rw [cnt_rowAdd (h.filter _) hc (near_small h hs), cnt_filter (fun y => decide (gap s q y < most))]
  simp only [decide_eq_true_eq]
theorem kept_rowAdd (h : Gd all) (hm : 1 ≤ most) (hc : 0 < c) (hs : cnt all q + c < 18446744073709551616) :
  keptP s most (rowAdd all q c) = capRow s most (keptP s most all) q c := by
 have hkc : cnt (keptP s most all) q ≤ cnt all q := cnt_filter_le h (fun y => decide (gap s (endP s all) y < most)) q
 have hs' : cnt (keptP s most all) q + c < 18446744073709551616 := by omega
 refine Gd.ext (kept_gd (h.rowAdd hc hs)) (capRow_gd (kept_gd h) hc hs') fun i => ?_
 rw [cnt_kept, endP_rowAdd h hc hs, cnt_rowAdd h hc hs, cnt_capRow (kept_gd h) hc hs', cnt_kept]
 by_cases hn : all = []
 ·subst hn
  rw [if_neg (fun k : ([] : List (Int × Int)).length ≠ 0 ∧ 0 ≤ gap s (endP s []) q => k.1 rfl), if_neg (fun k : (keptP s most []).length ≠ 0 ∧ most ≤ gap s (endP s (keptP s most [])) q => k.1 rfl), cnt_nil, ite_self, ite_self]
  by_cases e : i = q
  ·subst e; rw [gap_self, if_pos (by omega)]
  ·rw [if_neg e, Int.add_zero, ite_self]
 ·obtain ⟨hk1, hk2⟩ := kept_end (s := s) (most := most) h hm hn
  rw [hk2]
  have ha := gap_add s (endP s all) q i
  have h0 := cnt_nonneg h.pos i
  have hz : i = q → gap s q i = 0 := fun e => by rw [e, gap_self]
  have hneg : cnt all i = 0 ∨ 0 ≤ gap s (endP s all) i := by
   by_cases hi : 0 < cnt all i
   ·obtain ⟨x, hx, rfl⟩ := (cnt_mem h).2 hi
    exact .inr (endP_gap h x hx)
   ·exact .inl (by omega)
  by_cases h1 : most ≤ gap s (endP s all) q
  ·rw [if_pos (⟨ne_len.2 hn, by omega⟩ : all.length ≠ 0 ∧ 0 ≤ gap s (endP s all) q), if_pos (⟨ne_len.2 hk1, h1⟩ : (keptP s most all).length ≠ 0 ∧ most ≤ gap s (endP s all) q)]
   by_cases e : i = q
   ·subst e; rw [if_neg (by omega), if_neg (by omega)]
   ·rw [if_neg e, Int.add_zero]
  ·rw [if_neg (fun k : (keptP s most all).length ≠ 0 ∧ most ≤ gap s (endP s all) q => h1 k.2)]
   by_cases h2 : 0 ≤ gap s (endP s all) q
   ·rw [if_pos (⟨ne_len.2 hn, h2⟩ : all.length ≠ 0 ∧ 0 ≤ gap s (endP s all) q)]
    by_cases e : i = q
    ·have := hz e
     rw [if_pos e, if_pos (by omega), if_pos (by omega), if_pos (by omega)]
    ·rw [if_neg e]
     by_cases h3 : gap s (endP s all) i < most
     ·rw [if_pos h3, if_pos (by omega), if_pos h3]
     ·rw [if_neg h3, if_neg h3]; split <;> rfl
   ·rw [if_neg (fun k : all.length ≠ 0 ∧ 0 ≤ gap s (endP s all) q => h2 k.2)]
    by_cases h3 : gap s q i < most
    ·rw [if_pos h3, if_pos h3, if_pos (show gap s (endP s all) i < most by omega)]
    ·rw [if_neg h3, if_neg h3, if_neg (fun e => h3 (by rw [hz e]; omega))]; rfl
theorem capRow_win (h : Gd ps) (hw : Win s most ps) (hm : 1 ≤ most) (hc : 0 < c) (hs : cnt ps q + c < 18446744073709551616) : Win s most (capRow s most ps q c) := by
 have e := kept_rowAdd (s := s) h hm hc hs
 rw [kept_self hw] at e
 rw [← e]
 exact kept_win (h.rowAdd hc hs) hm
theorem gd_step (h : Gd ps) : ∀ k, k < ps.length → (ps.getD 0 (0, 0)).1 + k ≤ (ps.getD k (0, 0)).1
 | 0, _ => by simp
 | k + 1, hk => by
  have h1 := gd_step h k (by omega)
  have h2 := List.pairwise_iff_getElem.1 h.srt k (k + 1) (by omega) hk (by omega)
  rw [@List.getD_eq_getElem?_getD _ ps (k + 1), List.getElem?_eq_getElem hk]
  rw [@List.getD_eq_getElem?_getD _ ps k, List.getElem?_eq_getElem (by omega)] at h1
  dsimp only [Option.getD_some] at h1 ⊢
  omega
theorem win_len (h : Gd ps) (hw : Win s most ps) (hm : 1 ≤ most) : (ps.length : Int) ≤ most := by
 by_cases hn : ps = []
 ·subst hn; simp; omega
 ·have hl := List.length_pos_iff.2 hn
  have h1 := gd_step h (ps.length - 1) (by omega)
  have h2 := hw _ (getD_mem' (i := 0) hl)
  have h3 := hw _ (getD_mem' (i := ps.length - 1) (by omega))
  unfold endP gap at h2 h3
  cases s with
  | true => simp only [if_true] at h2; omega
  | false => simp only [Bool.false_eq_true, if_false] at h3; omega
def addAll (ps l : List (Int × Int)) : List (Int × Int) := l.foldl (fun r x => rowAdd r x.1 x.2) ps
def capAll (s : Bool) (most : Int) (ps l : List (Int × Int)) : List (Int × Int) := l.foldl (fun r x => capRow s most r x.1 x.2) ps
theorem addAll_take (ps l : List (Int × Int)) (k : Nat) (hk : k < l.length) : addAll ps (l.take (k + 1)) = rowAdd (addAll ps (l.take k)) (l[k]'hk).1 (l[k]'hk).2 := by
 unfold addAll; rw [List.take_succ_eq_append_getElem hk, List.foldl_append]; rfl
theorem capAll_take (ps l : List (Int × Int)) (k : Nat) (hk : k < l.length) : capAll s most ps (l.take (k + 1)) = capRow s most (capAll s most ps (l.take k)) (l[k]'hk).1 (l[k]'hk).2 := by
 unfold capAll; rw [List.take_succ_eq_append_getElem hk, List.foldl_append]; rfl
theorem addAll_append (ps l l' : List (Int × Int)) : addAll ps (l ++ l') = addAll (addAll ps l) l' := by unfold addAll; rw [List.foldl_append]
theorem addAll_spec : ∀ {l ps : List (Int × Int)}, Gd ps → (∀ x ∈ l, 0 < x.2) → sumP ps + sumP l < 18446744073709551616 →
  Gd (addAll ps l) ∧ sumP (addAll ps l) = sumP ps + sumP l ∧ ∀ i, cnt (addAll ps l) i = cnt ps i + cnt l i
 | [], ps, h, _, _ => ⟨h, by rw [sumP_nil, Int.add_zero]; rfl, fun i => by rw [cnt_nil, Int.add_zero]; rfl⟩
 | x :: l, ps, h, hp, hs => by
  have h1 := hp x (by simp)
  have hp' : ∀ y ∈ l, 0 < y.2 := fun y hy => hp y (by simp [hy])
  have h2 := sumP_nonneg hp'
  rw [sumP_cons] at hs
  have h3 : cnt ps x.1 + x.2 < 18446744073709551616 := by have := cnt_le_sumP h.pos x.1; omega
  obtain ⟨a, b, c⟩ := addAll_spec (l := l) (ps := rowAdd ps x.1 x.2) (h.rowAdd h1 h3) hp' (by rw [sumP_rowAdd h h1 h3]; omega)
  refine ⟨a, ?_, fun i => ?_⟩
  ·show sumP (addAll (rowAdd ps x.1 x.2) l) = _
   rw [b, sumP_rowAdd h h1 h3, sumP_cons]; omega
  ·show cnt (addAll (rowAdd ps x.1 x.2) l) i = _
   rw [c, cnt_rowAdd h h1 h3, cnt_cons]
   by_cases e : x.1 = i
   ·rw [if_pos e, if_pos e.symm]; omega
   ·rw [if_neg e, if_neg (fun k => e k.symm)]; omega
theorem addAll_ok : ∀ {l ps : List (Int × Int)}, okP ps → okP l → okP (addAll ps l)
 | [], _, h, _ => h
 | x :: l, ps, h, hl => addAll_ok (l := l) (okP_rowAdd h (hl x (by simp)).1) fun y hy => hl y (by simp [hy])
theorem capAll_kept (hm : 1 ≤ most) : ∀ {l all : List (Int × Int)}, Gd all → (∀ x ∈ l, 0 < x.2) → sumP all + sumP l < 18446744073709551616 →
  capAll s most (keptP s most all) l = keptP s most (addAll all l)
 | [], _, _, _, _ => rfl
 | x :: l, all, h, hp, hs => by
  have h1 := hp x (by simp)
  have hp' : ∀ y ∈ l, 0 < y.2 := fun y hy => hp y (by simp [hy])
  have h2 := sumP_nonneg hp'
  rw [sumP_cons] at hs
  have h3 : cnt all x.1 + x.2 < 18446744073709551616 := by have := cnt_le_sumP h.pos x.1; omega
  show capAll s most (capRow s most (keptP s most all) x.1 x.2) l = _
  rw [← kept_rowAdd h hm h1 h3, capAll_kept hm (h.rowAdd h1 h3) hp' (by rw [sumP_rowAdd h h1 h3]; omega)]
  rfl
theorem addAll_ne {l ps : List (Int × Int)} (h : Gd ps) (hp : ∀ x ∈ l, 0 < x.2) (hs : sumP ps + sumP l < 18446744073709551616) (hn : ps ≠ [] ∨ l ≠ []) : addAll ps l ≠ [] := by
 intro e
 obtain ⟨_, b, _⟩ := addAll_spec h hp hs
 rw [e, sumP_nil] at b
 have a := sumP_nonneg h.pos
 have c := sumP_nonneg hp
 rcases hn with hn | hn
 ·cases ps with
  | nil => exact hn rfl
  | cons x ps => rw [sumP_cons] at b; have := h.pos x (by simp); have := sumP_nonneg h.tail.pos; omega
 ·cases l with
  | nil => exact hn rfl
  | cons x l => rw [sumP_cons] at b; have := hp x (by simp); have := sumP_nonneg (ps := l) fun y hy => hp y (by simp [hy]); omega
theorem capAll_merge (hm : 1 ≤ most) {all qs : List (Int × Int)} (h : Gd all) (k : Gd qs) (hs : sumP all + sumP qs < 18446744073709551616) :
  capAll s most (keptP s most all) (keptP s most qs) = keptP s most (addAll all qs) := by
 have hk := kept_gd (s := s) (most := most) k
 have hle := (sumP_filter_le k.pos (fun x => decide (gap s (endP s qs) x.1 < most))).2
 have hs' : sumP all + sumP (keptP s most qs) < 18446744073709551616 := by unfold keptP; omega
 rw [capAll_kept hm h hk.pos hs']
 by_cases hn : qs = []
 ·subst hn; rfl
 obtain ⟨a1, _, a3⟩ := addAll_spec h k.pos hs
 obtain ⟨b1, _, b3⟩ := addAll_spec h hk.pos hs'
 have hne := addAll_ne h k.pos hs (.inr hn)
 obtain ⟨y, hy, ey⟩ := endP_mem (s := s) hne
 obtain ⟨z, hz, ez⟩ := endP_mem (s := s) hn
 have hE := (cnt_mem a1).1 ⟨y, hy, ey⟩
 have hQ := (cnt_mem k).1 ⟨z, hz, ez⟩
 have hg : ∀ i, 0 < cnt all i + cnt qs i → 0 ≤ gap s (endP s (addAll all qs)) i := fun i hi => by
  rw [← a3] at hi
  obtain ⟨x, hx, e⟩ := (cnt_mem a1).2 hi
  rw [← e]
  exact endP_gap a1 x hx
 have hgq := hg (endP s qs) (by have := cnt_nonneg h.pos (endP s qs); omega)
 rw [a3] at hE
 have hend : endP s (addAll all (keptP s most qs)) = endP s (addAll all qs) := by
  refine endP_eq b1 ?_ fun x hx => ?_
  ·rw [cnt_mem b1, b3, cnt_kept, if_pos ?_]
   ·exact hE
   ·rw [gap_neg]; omega
  ·have h1 := (cnt_mem b1).1 ⟨x, hx, rfl⟩
   rw [b3, cnt_kept] at h1
   have := cnt_nonneg k.pos x.1
   exact hg x.1 (by split at h1 <;> omega)
 refine Gd.ext (kept_gd b1) (kept_gd a1) fun i => ?_
 rw [cnt_kept, cnt_kept, hend, b3, a3, cnt_kept]
 have := gap_add s (endP s (addAll all qs)) (endP s qs) i
 by_cases h1 : gap s (endP s (addAll all qs)) i < most
 ·rw [if_pos h1, if_pos h1, if_pos (by omega)]
 ·rw [if_neg h1, if_neg h1]
end
end Go.Proofs.YtlbnlmhcpephbaaGreatDoor
namespace Go.Proofs.YtlbnlmhcpephbaaGreatDoor
def farI (s : Bool) (ps : List (Int × Int)) : Nat := if s then 0 else ps.length - 1
def near (s : Bool) (most e : Int) (ps : List (Int × Int)) : List (Int × Int) := ps.filter fun x => decide (gap s e x.1 < most)
section
variable {s : Bool} {most e : Int} {ps : List (Int × Int)}
theorem farI_lt (h : ps ≠ []) : farI s ps < ps.length := by
 have := List.length_pos_iff.2 h
 unfold farI
 split <;> omega
theorem far_gap (h : Gd ps) : ∀ x ∈ ps, gap s e x.1 ≤ gap s e (ps.getD (farI s ps) (0, 0)).1 := by
 intro x hx
 obtain ⟨a, ha, rfl⟩ := List.getElem_of_mem hx
 have h1 := h.le (i := 0) (j := a) (by omega) ha
 have h2 := h.le (i := a) (j := ps.length - 1) (by omega) (by omega)
 rw [@List.getD_eq_getElem?_getD _ ps a, List.getElem?_eq_getElem ha, Option.getD_some] at h1 h2
 unfold gap farI
 cases s with
 | true => simp only [if_true]; omega
 | false => simp only [Bool.false_eq_true, if_false]; omega
theorem near_all (h : Gd ps) (hg : gap s e (ps.getD (farI s ps) (0, 0)).1 < most) : near s most e ps = ps :=
 List.filter_eq_self.2 fun x hx => decide_eq_true (Int.lt_of_le_of_lt (far_gap h x hx) hg)
theorem near_out (i : Nat) (hi : i < ps.length) (hg : most ≤ gap s e (ps.getD i (0, 0)).1) : near s most e (outF ps i) = near s most e ps := by
 unfold near
 conv => rhs; rw [outF_split hi]
 unfold outF
 rw [List.filter_append, List.filter_append, List.filter_cons_of_neg (by rw [decide_eq_true_eq]; omega)]
theorem near_nil : near s most e [] = [] := rfl
theorem near_sum (h : Gd ps) : 0 ≤ sumP (near s most e ps) ∧ sumP (near s most e ps) ≤ sumP ps := sumP_filter_le h.pos _
theorem near_gd (h : Gd ps) : Gd (near s most e ps) := h.filter _
theorem near_self (h : Gd ps) (hw : Win s most ps) (hg : 0 ≤ gap s (endP s ps) e) : near s most e ps = ps := by
 refine List.filter_eq_self.2 fun x hx => decide_eq_true ?_
 have := hw x hx
 have := gap_add s (endP s ps) e x.1
 omega
theorem capRow_no {q c : Int} (h : ¬ (ps.length ≠ 0 ∧ most ≤ gap s (endP s ps) q)) : capRow s most ps q c = rowAdd (near s most q ps) q c := by unfold capRow; rw [if_neg h]; rfl
theorem capRow_yes {q c : Int} (h : ps.length ≠ 0) (h' : most ≤ gap s (endP s ps) q) : capRow s most ps q c = ps := by unfold capRow; rw [if_pos ⟨h, h'⟩]
theorem near_room {q c : Int} (h : Gd ps) (hw : Win s most ps) (hm : 1 ≤ most) (hc : 0 < c) (hs : sumP ps + c ≤ 9223372036854775807) (hn : ¬ (ps.length ≠ 0 ∧ most ≤ gap s (endP s ps) q)) : stRoom most (near s most q ps) q c := by
 have h1 := (near_sum (s := s) (most := most) (e := q) h).2
 have h2 : cnt ps q + c < 18446744073709551616 := by have := cnt_le_sumP h.pos q; omega
 refine ⟨by omega, ?_⟩
 rw [← capRow_no hn]
 exact win_len (capRow_gd h hc h2) (capRow_win h hw hm hc h2) hm
end
end Go.Proofs.YtlbnlmhcpephbaaGreatDoor
namespace Go.Proofs.YtlbnlmhcpephbaaGreatDoor
open Go.RowKit
def lenC (w : World) (c : Nat) : Nat := match w.cell? ⟨c, 1, none⟩ with
 | some (.slice _ n _) => n
 | _ => 0
theorem Strip.lenC {w : World} {c : Nat} {S : List Nat} {most : Int} {ps : List (Int × Int)} (h : Strip w c S most ps) : lenC w c = ps.length := by
 obtain ⟨A, k, _, h⟩ := h
 have := h.at'.three
 unfold Go.Proofs.YtlbnlmhcpephbaaGreatDoor.lenC
 rw [this.2.1]
theorem endsV_ne {ps : List (Int × Int)} (h : ps ≠ []) : endsV ps = .tuple #[.int .i64 (ps.getD 0 (0, 0)).1, .int .i64 (ps.getD (ps.length - 1) (0, 0)).1, .bool true] := by
 unfold endsV
 rw [if_neg (ne_len.2 h)]
theorem okP.end' {s : Bool} {ps : List (Int × Int)} (h : okP ps) (h0 : ps ≠ []) : -9223372036854775808 ≤ endP s ps ∧ endP s ps ≤ 9223372036854775807 := by
 obtain ⟨x, hx, e⟩ := endP_mem (s := s) h0
 rw [← e]
 exact (h x hx).1
end Go.Proofs.YtlbnlmhcpephbaaGreatDoor

namespace Go.Proofs.YtlbnlmhcpephbaaGreatDoor
open Go.RowKit
structure GdM (ps : List (Int × Int)) : Prop where
 gd : Gd ps
 mx : ∀ x ∈ ps, x.2 ≤ 9223372036854775807
theorem GdM.nil : GdM [] := ⟨Gd.nil, fun _ h => by simp at h⟩
theorem GdM.take {ps : List (Int × Int)} (h : GdM ps) (k : Nat) : GdM (ps.take k) :=
 ⟨⟨h.gd.srt.sublist (List.take_sublist _ _), fun x hx => h.gd.pos x (List.mem_of_mem_take hx)⟩, fun x hx => h.mx x (List.mem_of_mem_take hx)⟩
theorem GdM.step {ps : List (Int × Int)} {k : Nat} (hk : k < ps.length) : GdM (ps.take (k + 1)) ↔ GdM (ps.take k) ∧ 0 < (ps[k]'hk).2 ∧ (ps[k]'hk).2 ≤ 9223372036854775807 ∧ ∀ j (hj : j + 1 = k), (ps[j]'(by omega)).1 < (ps[k]'hk).1 := by
 have hm : ps[k]'hk ∈ ps.take (k + 1) := by have := List.getElem_mem (l := ps.take (k + 1)) (n := k) (by rw [List.length_take]; omega); rwa [List.getElem_take] at this
 constructor
 ·intro h
  refine ⟨by have := h.take k; rwa [List.take_take, Nat.min_eq_left (by omega)] at this, h.gd.pos _ hm, h.mx _ hm, fun j hj => ?_⟩
  have h1 := List.pairwise_iff_getElem.1 h.gd.srt j k (by rw [List.length_take]; omega) (by rw [List.length_take]; omega) (by omega)
  simpa using h1
 ·rintro ⟨h, h1, h2, h3⟩
  rw [List.take_succ_eq_append_getElem hk]
  refine ⟨⟨List.pairwise_append.2 ⟨h.gd.srt, by simp, fun x hx y hy => ?_⟩, fun x hx => ?_⟩, fun x hx => ?_⟩
  ·simp only [List.mem_singleton] at hy
   subst hy
   obtain ⟨i, hi, rfl⟩ := List.getElem_of_mem hx
   rw [List.length_take] at hi
   rw [List.getElem_take]
   obtain ⟨j, rfl⟩ : ∃ j, k = j + 1 := ⟨k - 1, by omega⟩
   have h4 := h3 j rfl
   by_cases e : i = j
   ·subst e; exact h4
   ·have h5 := List.pairwise_iff_getElem.1 h.gd.srt i j (by rw [List.length_take]; omega) (by rw [List.length_take]; omega) (by omega)
    rw [List.getElem_take, List.getElem_take] at h5
    omega
  ·rcases List.mem_append.1 hx with hx | hx
   ·exact h.gd.pos x hx
   ·simp only [List.mem_singleton] at hx; subst hx; exact h1
  ·rcases List.mem_append.1 hx with hx | hx
   ·exact h.mx x hx
   ·simp only [List.mem_singleton] at hx; subst hx; exact h2
theorem GdM.no {ps : List (Int × Int)} {k : Nat} (h : ¬ GdM (ps.take (k + 1))) : ¬ GdM ps := fun g => h (g.take _)
def SaysP (P : Prop) (e : Ending) : Prop := ∃ bv, e = .returned (.bool bv) ∧ (bv = true ↔ P)
theorem says_yes {P : Prop} (h : P) : SaysP P (.returned (.bool true)) := ⟨_, rfl, fun _ => h, fun _ => rfl⟩
theorem says_no {P : Prop} (h : ¬ P) : SaysP P (.returned (.bool false)) := ⟨_, rfl, fun e => (by cases e), fun k => absurd k h⟩
set_option maxRecDepth 100000 in
set_option maxHeartbeats 1000000 in
theorem good_any (A : Option Addr) (len cap : Nat) (ps : List (Int × Int)) (most : Int) (w : World) (hl : ps.length = len) (hm : len ≤ 9223372036854775807) (hR : RdP w A ps) (hok : okP ps) :
  Calls Tryz.prog 131 #[.slice A len cap, .int .i64 most] w fun e w' => SaysP (GdM ps ∧ (len : Int) ≤ most) e ∧ Below w.heap.size w w' := by
 have HR := Lib.hid hR
 have HO := Lib.hid hok
 clear hR hok
 go_enter Tryz.func131, Tryz.ntmps131
 go_wp2
 go_loopw [5, 6, 9] (fun _ _ i wr => ∃ k : Nat, k ≤ len ∧ i = .int .i64 k ∧ Hid (GdM (ps.take k)) ∧ Below w.heap.size w wr) (fun _ _ i _ => len - (intOf i).toNat)
 case atStart => exact ⟨0, by omega, rfl, GdM.nil, Below.refl _ _⟩
 case round =>
  obtain ⟨k, hk, rfl, HG, hB⟩ := hrel
  have zB := hB.size
  by_cases hlt : k < len
  ·obtain ⟨g, o, rfl, hg, c1, c2⟩ := (HR.out.below hB).at k (by omega)
   obtain ⟨⟨b1, b2⟩, b3, b4⟩ := HO.out.at k (by omega)
   have HS := Lib.hid (GdM.step (ps := ps) (k := k) (by omega))
   obtain ⟨⟨x, y⟩, hx⟩ : ∃ x, ps[k]'(by omega) = x := ⟨_, rfl⟩
   rw [hx] at c1 c2 b1 b2 b3 b4 HS
   dsimp only at c1 c2 b1 b2 b3 b4 HS
   clear hx
   by_cases h0 : y = 0
   ·subst h0
    have HN : Hid (¬ GdM ps) := GdM.no (k := k) fun h => by have := (HS.out.1 h).2.1; omega
    clear HS HR HO HG
    go_wp2
    go_quiet (fail)
    go_wp2
    go_ret
    exact ⟨says_no fun h => HN.out h.1, (by repeat (first | with_reducible assumption | with_reducible exact Below.refl _ _ | with_reducible refine Below.drew ?_ | with_reducible refine Below.drewN ?_ _ | with_reducible refine Below.setCell ?_ (by first | omega | (simp; done) | (simp; omega)) _ | with_reducible refine Below.alloc ?_ (by first | omega | (simp; done) | (simp; omega) | (simp [World.setCell]; omega)) _))⟩
   ·have h0' : (y == 0) = false := beq_eq_false_iff_ne.2 h0
    by_cases h1 : 9223372036854775807 < y
    ·have HN : Hid (¬ GdM ps) := GdM.no (k := k) fun h => by have := (HS.out.1 h).2.2.1; omega
     clear HS HR HO HG
     go_wp2
     go_quiet (fail)
     go_wp2
     go_ret
     exact ⟨says_no fun h => HN.out h.1, (by repeat (first | with_reducible assumption | with_reducible exact Below.refl _ _ | with_reducible refine Below.drew ?_ | with_reducible refine Below.drewN ?_ _ | with_reducible refine Below.setCell ?_ (by first | omega | (simp; done) | (simp; omega)) _ | with_reducible refine Below.alloc ?_ (by first | omega | (simp; done) | (simp; omega) | (simp [World.setCell]; omega)) _))⟩
    ·by_cases hk0 : k = 0
     ·have HG2 : Hid (GdM (ps.take (k + 1))) := HS.out.2 ⟨HG.out, by omega, by omega, fun j hj => by omega⟩
      have hd1 : decide (9223372036854775807 < y) = false := decide_eq_false h1
      have hd0 : decide ((0 : Int) < k) = false := decide_eq_false (by omega)
      have hd3 : decide (0 < k) = false := decide_eq_false (by omega)
      clear h1
      clear HS HR HO HG hk0
      go_wp2
      go_quiet (fail)
      go_wp2
      go_roundw
      case rel => exact ⟨k + 1, by omega, by simp, HG2, (by repeat (first | with_reducible assumption | with_reducible exact Below.refl _ _ | with_reducible refine Below.drew ?_ | with_reducible refine Below.drewN ?_ _ | with_reducible refine Below.setCell ?_ (by first | omega | (simp; done) | (simp; omega)) _ | with_reducible refine Below.alloc ?_ (by first | omega | (simp; done) | (simp; omega) | (simp [World.setCell]; omega)) _))⟩
      case measure => simp [intOf]; omega
     ·obtain ⟨j, rfl⟩ : ∃ j, k = j + 1 := ⟨k - 1, by omega⟩
      obtain ⟨g', o', e, hg', d1, d2⟩ := (HR.out.below hB).at j (by omega)
      cases e
      obtain ⟨⟨x', y'⟩, hx'⟩ : ∃ x, ps[j]'(by omega) = x := ⟨_, rfl⟩
      have HJ : Hid (∀ i (hi : i + 1 = j + 1), (ps[i]'(by omega)).1 = x') := fun i hi => by
       obtain rfl : i = j := by omega
       rw [hx']
      rw [hx'] at d1
      dsimp only at d1
      have v1 : IntKind.i64.wrap (((j + 1 : Nat) : Int) - 1) = j := by simp only [IntKind.wrap_i64]; omega
      have k0 : (0 : Int) < ((j + 1 : Nat) : Int) := by omega
      have k1 : (j : Int) < len := by omega
      have k2 : (0 : Int) ≤ j := by omega
      have hd1 : decide (9223372036854775807 < y) = false := decide_eq_false h1
      clear hx' d2
      by_cases hxx : x ≤ x'
      ·have HN : Hid (¬ GdM ps) := GdM.no (k := j + 1) fun h => by have := (HS.out.1 h).2.2.2 j rfl; rw [HJ.out j rfl] at this; omega
       clear HS HR HO HG HJ hk0
       go_wp2
       go_quiet (fail)
       go_wp2
       go_ret
       exact ⟨says_no fun h => HN.out h.1, (by repeat (first | with_reducible assumption | with_reducible exact Below.refl _ _ | with_reducible refine Below.drew ?_ | with_reducible refine Below.drewN ?_ _ | with_reducible refine Below.setCell ?_ (by first | omega | (simp; done) | (simp; omega)) _ | with_reducible refine Below.alloc ?_ (by first | omega | (simp; done) | (simp; omega) | (simp [World.setCell]; omega)) _))⟩
      ·have HG2 : Hid (GdM (ps.take (j + 1 + 1))) := HS.out.2 ⟨HG.out, by omega, by omega, fun i hi => by rw [HJ.out i hi]; omega⟩
       have hd2 : decide (x ≤ x') = false := decide_eq_false hxx
       clear HS HR HO HG HJ hk0
       go_wp2
       go_quiet (fail)
       go_wp2
       go_roundw
       case rel => exact ⟨j + 1 + 1, by omega, by simp, HG2, (by repeat (first | with_reducible assumption | with_reducible exact Below.refl _ _ | with_reducible refine Below.drew ?_ | with_reducible refine Below.drewN ?_ _ | with_reducible refine Below.setCell ?_ (by first | omega | (simp; done) | (simp; omega)) _ | with_reducible refine Below.alloc ?_ (by first | omega | (simp; done) | (simp; omega) | (simp [World.setCell]; omega)) _))⟩
       case measure => simp [intOf]; omega
  ·obtain rfl : k = len := by omega
   have h := HG.out
   rw [List.take_of_length_le (by omega)] at h
   replace h := Lib.hid h
   clear HR HO HG
   by_cases hlm : (k : Int) ≤ most
   ·go_wp2
    go_ret
    exact ⟨says_yes ⟨h.out, hlm⟩, hB⟩
   ·go_wp2
    go_ret
    exact ⟨says_no fun e => by have := e.2; omega, hB⟩
end Go.Proofs.YtlbnlmhcpephbaaGreatDoor

namespace Go.Proofs.YtlbnlmhcpephbaaGreatDoor.Lo
open Go.RowKit
abbrev sd : Bool := true
def LowR (w : World) (b : Nat) (S : List Nat) (most : Int) (ps : List (Int × Int)) (lost : Int) : Prop :=
 ∃ c S', S = b :: S' ∧ b ∉ S' ∧ At w b #[.int .i64 most, .pointer (some ⟨c, 0, none⟩), .int .u64 lost] 265 ∧ Strip w c S' most ps
section
variable {w w' : World} {b : Nat} {S T : List Nat} {most lost lost' : Int} {ps : List (Int × Int)}
theorem LowR.frame (h : LowR w b S most ps lost) (hf : Frame T w w') (hn : Apart S T) : LowR w' b S most ps lost := by
 obtain ⟨c, S', rfl, h1, h2, h3⟩ := h
 exact ⟨c, S', rfl, h1, hf.at h2 (hn b (by simp)), h3.frame hf fun k hk => hn k (by simp [hk])⟩
theorem LowR.below (h : LowR w b S most ps lost) (hb : Below w.heap.size w w') : LowR w' b S most ps lost := h.frame (T := []) (Frame.of_below hb) (fun _ _ => by simp)
theorem LowR.lt (h : LowR w b S most ps lost) : ∀ k ∈ S, k < w.heap.size := by
 obtain ⟨c, S', rfl, h1, h2, h3⟩ := h
 intro k hk
 rcases List.mem_cons.1 hk with rfl | hk
 ·exact h2.lt
 ·exact h3.lt k hk
theorem LowR.mem (h : LowR w b S most ps lost) : b ∈ S := by obtain ⟨c, S', rfl, _⟩ := h; simp
theorem LowR.set (h : LowR w b S most ps lost) : LowR (w.setCell ⟨b, 2, none⟩ (.int .u64 lost')) b S most ps lost' := by
 obtain ⟨c, S', rfl, h1, h2, h3⟩ := h
 exact ⟨c, S', rfl, h1, h2.set_any 2 _ rfl, h3.frame (Frame.set [b] _ b 2 _ (by simp)) fun k hk e => by simp at e; subst e; exact h1 hk⟩
end
structure Low (w : World) (b : Nat) (S : List Nat) (most : Int) (ps : List (Int × Int)) (tot : Int) : Prop where
 r : LowR w b S most ps (tot - sumP ps)
 win : Win sd most ps
 m1 : 1 ≤ most
 lo : sumP ps ≤ tot
 hi : tot ≤ 9223372036854775807
section
variable {w w' : World} {b : Nat} {S T : List Nat} {most tot : Int} {ps : List (Int × Int)}
theorem Low.frame (h : Low w b S most ps tot) (hf : Frame T w w') (hn : Apart S T) : Low w' b S most ps tot := ⟨h.r.frame hf hn, h.win, h.m1, h.lo, h.hi⟩
theorem Low.below (h : Low w b S most ps tot) (hb : Below w.heap.size w w') : Low w' b S most ps tot := ⟨h.r.below hb, h.win, h.m1, h.lo, h.hi⟩
theorem Low.lt (h : Low w b S most ps tot) : ∀ k ∈ S, k < w.heap.size := h.r.lt
theorem Low.gd (h : Low w b S most ps tot) : Gd ps := by obtain ⟨c, S', _, _, _, h⟩ := h.r; exact h.gd
theorem Low.ok (h : Low w b S most ps tot) : okP ps := by obtain ⟨c, S', _, _, _, h⟩ := h.r; exact h.ok
theorem Low.len (h : Low w b S most ps tot) : (ps.length : Int) ≤ most ∧ ps.length ≤ 4096 := by obtain ⟨c, S', _, _, _, h⟩ := h.r; exact h.len
theorem Low.most4 (h : Low w b S most ps tot) : most ≤ 4096 := by obtain ⟨c, S', _, _, _, A, k, _, h⟩ := h.r; exact h.most1
theorem Low.sum0 (h : Low w b S most ps tot) : 0 ≤ sumP ps := sumP_nonneg h.gd.pos
end
theorem lnew_any (most : Int) (w : World) (h1 : 1 ≤ most) (h2 : most ≤ 4096) :
  Calls Tryz.prog 99 #[.int .i64 most] w fun e w' => (∃ b S, e = .returned (.tuple #[.pointer (some ⟨b, 0, none⟩), .int .i64 0]) ∧ w.heap.size ≤ b ∧ Within S w.heap.size w'.heap.size ∧ Low w' b S most [] 0) ∧ Below w.heap.size w w' := by
 have HS := Lib.hid (snew_any most w h1 h2)
 have H1 := Lib.hid (And.intro h1 h2)
 clear h1 h2
 go_enter Tryz.func99, Tryz.ntmps99
 go_wp2_with fail
 refine HS.out.mono ?_
 rintro e w1 ⟨⟨c, rfl, hc, hC⟩, hb⟩
 have HC := Lib.hid hC
 have z1 := hb.size
 have hcl := hC.lt c (by simp)
 have hcg : w.heap.size ≤ c := Nat.le_of_eq hc.symm
 clear hC hc
 go_wp2
 go_ret2
 have a1 := At.new w1 #[.int .i64 most, .pointer (some ⟨c, 0, none⟩), .int .u64 0] 265
 have hb2 : Below w1.heap.size w1 (w1.alloc (.cells #[.int .i64 most, .pointer (some ⟨c, 0, none⟩), .int .u64 0] 265)) := (by repeat (first | with_reducible assumption | with_reducible exact Below.refl _ _ | with_reducible refine Below.drew ?_ | with_reducible refine Below.drewN ?_ _ | with_reducible refine Below.setCell ?_ (by first | omega | (simp; done) | (simp; omega)) _ | with_reducible refine Below.alloc ?_ (by first | omega | (simp; done) | (simp; omega) | (simp [World.setCell]; omega)) _))
 refine ⟨⟨_, [w1.heap.size, c], rfl, z1, ?_, ⟨⟨c, [c], rfl, by simp; omega, a1, HC.out.below hb2⟩, win_nil, H1.out.1, by rw [sumP_nil]; omega, by omega⟩⟩, (by repeat (first | with_reducible assumption | with_reducible exact Below.refl _ _ | with_reducible refine Below.drew ?_ | with_reducible refine Below.drewN ?_ _ | with_reducible refine Below.setCell ?_ (by first | omega | (simp; done) | (simp; omega)) _ | with_reducible refine Below.alloc ?_ (by first | omega | (simp; done) | (simp; omega) | (simp [World.setCell]; omega)) _))⟩
 intro k hk
 have := a1.lt
 simp only [List.mem_cons, List.not_mem_nil, or_false] at hk
 rcases hk with rfl | rfl
 ·omega
 ·omega
theorem lnew_bad (most : Int) (w : World) (h : most < 1 ∨ 4096 < most) :
  Calls Tryz.prog 99 #[.int .i64 most] w fun e w' => e = .returned (.tuple #[.pointer none, .int .i64 1]) ∧ w = w' := by
 have HS := Lib.hid (snew_bad most w h)
 clear h
 go_enter Tryz.func99, Tryz.ntmps99
 go_wp2_with fail
 refine HS.out.mono ?_
 rintro e w1 ⟨rfl, rfl⟩
 go_wp2
 go_ret2
 exact ⟨rfl, rfl⟩
theorem lout_any (b : Nat) (S : List Nat) (most lost q e : Int) (ps : List (Int × Int)) (w : World) (h : LowR w b S most ps lost) (hm : 1 ≤ most ∧ most ≤ 4096) (hq : -9223372036854775808 ≤ q ∧ q ≤ 9223372036854775807) (he : -9223372036854775808 ≤ e ∧ e ≤ 9223372036854775807) :
  Calls Tryz.prog 151 #[.pointer (some ⟨b, 0, none⟩), .int .i64 q, .int .i64 e] w fun r w' => r = .returned (.bool (decide (most ≤ gap sd e q))) ∧ w = w' := by
 obtain ⟨c, S', _, _, s1, _⟩ := h
 have f1 := s1.three
 obtain ⟨x, hx⟩ : ∃ x, IntKind.u64.wrap e = x := ⟨_, rfl⟩
 obtain ⟨y, hy⟩ : ∃ y, IntKind.u64.wrap q = y := ⟨_, rfl⟩
 have hm' : IntKind.u64.wrap most = most := by simp only [IntKind.wrap_u64]; omega
 have hg : gap sd e q = e - q := rfl
 by_cases h1 : q < e
 ·have hd : IntKind.u64.wrap (x - y) = e - q := by subst hx hy; simp only [IntKind.wrap_u64]; omega
  rw [hg]
  clear hg
  by_cases h2 : most ≤ e - q
  ·rw [decide_eq_true h2]
   clear hq he hm
   go_enter Tryz.func151, Tryz.ntmps151
   go_wp2
   go_ret
   exact ⟨rfl, rfl⟩
  ·rw [decide_eq_false h2]
   clear hq he hm
   go_enter Tryz.func151, Tryz.ntmps151
   go_wp2
   go_ret
   exact ⟨rfl, rfl⟩
 ·rw [hg, decide_eq_false (by omega)]
  clear hg hq he hm hx hy
  go_enter Tryz.func151, Tryz.ntmps151
  go_wp2
  go_ret
  exact ⟨rfl, rfl⟩
def endV (s : Bool) (ps : List (Int × Int)) : Value := if ps.length = 0 then .tuple #[.int .i64 0, .bool false] else .tuple #[.int .i64 (endP s ps), .bool true]
theorem lend_any (b : Nat) (S : List Nat) (most lost : Int) (ps : List (Int × Int)) (w : World) (h : LowR w b S most ps lost) :
  Calls Tryz.prog 150 #[.pointer (some ⟨b, 0, none⟩)] w fun r w' => r = .returned (endV sd ps) ∧ Below w.heap.size w w' := by
 obtain ⟨c, S', _, _, s1, hS⟩ := h
 have f1 := s1.three
 have HC := Lib.hid (sends_any c S' most ps w hS)
 clear hS
 by_cases h0 : ps.length = 0
 ·have HE : Hid (endV sd ps = .tuple #[.int .i64 0, .bool false]) := by show _ = _; unfold endV; rw [if_pos h0]
  have HE2 : Hid (endsV ps = .tuple #[.int .i64 0, .int .i64 0, .bool false]) := by show _ = _; unfold endsV; rw [if_pos h0]
  clear h0
  go_enter Tryz.func150, Tryz.ntmps150
  go_wp2_with fail
  refine HC.out.mono ?_
  rintro e w1 ⟨rfl, hb⟩
  rw [HE2.out]
  go_wp2
  go_ret2
  exact ⟨by rw [HE.out]; rfl, hb⟩
 ·have HE : Hid (endV sd ps = .tuple #[.int .i64 (ps.getD (ps.length - 1) (0, 0)).1, .bool true]) := by show _ = _; unfold endV; rw [if_neg h0]; rfl
  have HE2 : Hid (endsV ps = .tuple #[.int .i64 (ps.getD 0 (0, 0)).1, .int .i64 (ps.getD (ps.length - 1) (0, 0)).1, .bool true]) := by show _ = _; unfold endsV; rw [if_neg h0]
  clear h0
  obtain ⟨x, hx⟩ : ∃ x, (ps.getD (ps.length - 1) (0, 0)).1 = x := ⟨_, rfl⟩
  obtain ⟨y, hy⟩ : ∃ x, (ps.getD 0 (0, 0)).1 = x := ⟨_, rfl⟩
  rw [hx] at HE HE2
  rw [hy] at HE2
  clear hx hy
  go_enter Tryz.func150, Tryz.ntmps150
  go_wp2_with fail
  refine HC.out.mono ?_
  rintro e w1 ⟨rfl, hb⟩
  rw [HE2.out]
  go_wp2
  go_ret2
  exact ⟨by rw [HE.out]; rfl, hb⟩
theorem ltotal_any (b : Nat) (S : List Nat) (most tot : Int) (ps : List (Int × Int)) (w : World) (h : Low w b S most ps tot) :
  Calls Tryz.prog 135 #[.pointer (some ⟨b, 0, none⟩)] w fun r w' => r = .returned (.int .u64 tot) ∧ Below w.heap.size w w' := by
 have hw : IntKind.u64.wrap (sumP ps + (tot - sumP ps)) = tot := by have := h.lo; have := h.hi; have := h.sum0; simp only [IntKind.wrap_u64]; omega
 obtain ⟨⟨c, S', _, _, s1, hS⟩, _⟩ := h
 have HS := Lib.hid hS
 obtain ⟨lo, hlo⟩ : ∃ lo, tot - sumP ps = lo := ⟨_, rfl⟩
 rw [hlo] at s1 hw
 clear hS hlo
 go_enter Tryz.func135, Tryz.ntmps135
 go_wp2
 have hfar1 := fun x : Far w => (x.at s1).three
 refine wp_region_far (by kernel_rfl) (by kernel_rfl) ?_
 repeat (first | go_big_quiet_skip | (go_big_quiet_want; go_big_quiet_op; first | go_big_quiet_on | (apply Exists.intro; refine ⟨fun _ => ?_, ?_⟩; (focus (first | (refine far_of_same ((stotal_any c S' most ps _ (HS.out.below (Far.below _))).mono fun _ _ h => ⟨h.1, h.2.symm⟩)))); go_big_quiet_on)))
 refine wpQuiet_nil ?_
 rintro _ ⟨xq, rfl⟩
 clear hfar1
 go_wp2
 go_ret
 exact ⟨rfl, Far.below _⟩
theorem llost_any (b : Nat) (S : List Nat) (most tot : Int) (ps : List (Int × Int)) (w : World) (h : Low w b S most ps tot) :
  Calls Tryz.prog 396 #[.pointer (some ⟨b, 0, none⟩)] w fun r w' => r = .returned (.int .u64 (tot - sumP ps)) ∧ w = w' := by
 obtain ⟨⟨c, S', _, _, s1, hS⟩, _⟩ := h
 have f1 := s1.three
 clear hS
 go_enter Tryz.func396, Tryz.ntmps396
 go_wp2
 go_ret
 exact ⟨rfl, rfl⟩
theorem lpairs_any (b : Nat) (S : List Nat) (most tot : Int) (ps : List (Int × Int)) (w : World) (h : Low w b S most ps tot) :
  Calls Tryz.prog 397 #[.pointer (some ⟨b, 0, none⟩)] w fun e w' => CloR ps w e w' := by
 obtain ⟨⟨c, S', _, _, s1, hS⟩, _⟩ := h
 have f1 := s1.three
 have HC := Lib.hid (spairs_any c S' most ps w hS)
 clear hS
 go_enter Tryz.func397, Tryz.ntmps397
 go_wp2_with fail
 refine HC.out.mono ?_
 rintro e w' ⟨A', c', rfl, ho, hb⟩
 have HR : Hid (CloR ps w (.returned (.slice A' ps.length c')) w') := ⟨A', c', rfl, ho, hb⟩
 clear ho hb
 go_wp2
 go_ret
 exact HR.out
end Go.Proofs.YtlbnlmhcpephbaaGreatDoor.Lo
namespace Go.Proofs.YtlbnlmhcpephbaaGreatDoor.Lo
open Go.RowKit
structure Shd (w wr : World) (b c : Nat) (S' : List Nat) (most e tot : Int) (ps qs : List (Int × Int)) : Prop where
 nb : b ∉ S'
 at' : At wr b #[.int .i64 most, .pointer (some ⟨c, 0, none⟩), .int .u64 (tot - sumP qs)] 265
 st : Strip wr c S' most qs
 nr : near sd most e qs = near sd most e ps
 sm : sumP qs ≤ tot
 fr : Frame (b :: S') w wr
set_option maxRecDepth 100000 in
theorem lshed_any (b c : Nat) (S' : List Nat) (most tot e : Int) (ps : List (Int × Int)) (w : World) (hbn : b ∉ S') (s1 : At w b #[.int .i64 most, .pointer (some ⟨c, 0, none⟩), .int .u64 (tot - sumP ps)] 265) (hS : Strip w c S' most ps)
  (hm : 1 ≤ most ∧ most ≤ 4096) (he : -9223372036854775808 ≤ e ∧ e ≤ 9223372036854775807) (hs : sumP ps ≤ tot) (ht : tot ≤ 9223372036854775807) :
  Calls Tryz.prog 152 #[.pointer (some ⟨b, 0, none⟩), .int .i64 e] w fun r w' => r = .returned (.tuple #[]) ∧ At w' b #[.int .i64 most, .pointer (some ⟨c, 0, none⟩), .int .u64 (tot - sumP (near sd most e ps))] 265 ∧ Strip w' c S' most (near sd most e ps) ∧ Frame (b :: S') w w' := by
 have H0 : Hid (Shd w w b c S' most e tot ps ps) := ⟨hbn, s1, hS, rfl, hs, Frame.refl _ _⟩
 have HM := Lib.hid hm
 have HE := Lib.hid he
 have HT := Lib.hid ht
 clear hbn s1 hS hs hm he ht
 go_enter Tryz.func152, Tryz.ntmps152
 go_wp2
 go_loopw [4, 5, 6, 7, 8] (fun _ _ _ _ _ wr => ∃ qs, Hid (Shd w wr b c S' most e tot ps qs)) (fun _ _ _ _ _ wr => lenC wr c)
 case atStart => exact ⟨ps, H0⟩
 case round =>
  obtain ⟨qs, H⟩ := hrel
  clear H0
  have f1 := H.out.at'.three
  have s1 := H.out.at'
  have l1 := s1.lt
  by_cases h0 : qs = []
  ·subst h0
   go_wp2_with fail
   refine (sends_any c S' most [] wr H.out.st).mono ?_
   rintro r w1 ⟨rfl, hb⟩
   rw [show endsV [] = .tuple #[.int .i64 0, .int .i64 0, .bool false] from rfl]
   have HR : Hid (At w1 b #[.int .i64 most, .pointer (some ⟨c, 0, none⟩), .int .u64 (tot - sumP (near sd most e ps))] 265 ∧ Strip w1 c S' most (near sd most e ps) ∧ Frame (b :: S') w w1) := by
    have := H.out.nr
    rw [near_nil] at this
    rw [← this]
    exact ⟨s1.below hb, H.out.st.below hb, H.out.fr.trans (Frame.of_below hb)⟩
   clear hb
   go_wp2
   exact bodyPost_ret (v := .tuple #[]) (by simp [results, Tryz.f152, go_sem]) rfl ⟨rfl, HR.out⟩
  ·go_wp2_with fail
   refine (sends_any c S' most qs wr H.out.st).mono ?_
   rintro r w1 ⟨rfl, hb⟩
   rw [endsV_ne h0]
   have H1 : Hid (Shd w w1 b c S' most e tot ps qs) := ⟨H.out.nb, s1.below hb, H.out.st.below hb, H.out.nr, H.out.sm, H.out.fr.trans (Frame.of_below hb)⟩
   have HMS : Hid (lenC wr c = qs.length) := H.out.st.lenC
   have hfar : (qs.getD (farI sd qs) (0, 0)).1 = (qs.getD 0 (0, 0)).1 := rfl
   obtain ⟨x, hx⟩ : ∃ x, (qs.getD (farI sd qs) (0, 0)).1 = x := ⟨_, rfl⟩
   obtain ⟨y, hy⟩ : ∃ y, (qs.getD (qs.length - 1) (0, 0)).1 = y := ⟨_, rfl⟩
   have HX := Lib.hid hx
   have HB := Lib.hid (show -9223372036854775808 ≤ x ∧ x ≤ 9223372036854775807 from by rw [← hx]; exact (H.out.st.ok _ (getD_mem' (farI_lt h0))).1)
   rw [hx] at hfar
   rw [← hfar, hy]
   clear hb hx hy hfar
   go_wp2_with fail
   refine (lout_any b (b :: S') most (tot - sumP qs) x e qs w1 ⟨c, S', rfl, H1.out.nb, H1.out.at', H1.out.st⟩ HM.out HB.out HE.out).mono ?_
   rintro r w2 ⟨rfl, rfl⟩
   by_cases hg : most ≤ gap sd e x
   ·rw [decide_eq_true hg]
    have HG := Lib.hid hg
    clear hg
    have f2 := H1.out.at'.three
    have l2 := H1.out.at'.lt
    clear f1 s1 l1
    go_wp2_with fail
    refine (sfirst_any c S' most qs w1 H1.out.st).mono ?_
    rintro r w3 ⟨rfl, hS3, hF3⟩
    rw [if_neg (ne_len.2 h0)] at hS3
    have s3 := hF3.at H1.out.at' H1.out.nb
    have l3 := s3.lt
    obtain ⟨z, hz⟩ : ∃ z, (qs.getD (farI sd qs) (0, 0)).2 = z := ⟨_, rfl⟩
    have HV : Hid (outV qs 0 = .tuple #[.agg #[.int .i64 x, .int .u64 z], .bool true]) := by
     show _ = _
     unfold outV
     rw [if_neg (ne_len.2 h0), ← hz, ← HX.out]
     rfl
    rw [HV.out]
    obtain ⟨lo, hlo⟩ : ∃ lo, tot - sumP qs = lo := ⟨_, rfl⟩
    have hsm := sumP_outF (farI_lt (s := sd) h0)
    rw [hz] at hsm
    have hzz := H1.out.st.gd.pos _ (getD_mem' (farI_lt (s := sd) h0))
    rw [hz] at hzz
    have hs0 := sumP_nonneg (gd_outF H1.out.st.gd (farI sd qs)).pos
    have hw : IntKind.u64.wrap (lo + z) = lo + z := by have := H1.out.sm; have := HT.out; simp only [IntKind.wrap_u64]; omega
    have H3 : Hid (Shd w (((w3.setCell ⟨b, 2, none⟩ (.int .u64 (lo + z))).alloc (.cells #[.int .i64 x, .int .u64 z] 247)).drew) b c S' most e tot ps (outF qs (farI sd qs))) := by
     have hsq := H1.out.sm
     have hbl : ∀ W : World, Below W.heap.size W ((W.alloc (.cells #[.int .i64 x, .int .u64 z] 247)).drew) := fun W => ((Below.refl _ _).alloc (Nat.le_refl _) _).drew
     refine ⟨H1.out.nb, ?_, (hS3.frame (Frame.set [b] _ b 2 _ (by simp)) (fun k hk e => by simp at e; subst e; exact H1.out.nb hk)).below (hbl _), ?_, by omega, ?_⟩
     ·rw [show tot - sumP (outF qs (farI sd qs)) = lo + z by omega]
      exact (s3.set_any 2 _ rfl).below (hbl _)
     ·rw [near_out (farI sd qs) (farI_lt h0) (by rw [HX.out]; exact HG.out)]
      exact H1.out.nr
     ·exact ((H1.out.fr.trans (hF3.mono fun k hk => by simp [hk])).setc (.inl (by simp)) 2 _).trans (Frame.of_below (hbl _))
    have HL : Hid ((outF qs (farI sd qs)).length < qs.length) := by
     have := outF_length (farI_lt (s := sd) h0)
     have := List.length_pos_iff.2 h0
     show _ < _
     omega
    rw [hlo] at s3
    have f3 := (s3.alloc (.cells #[.int .i64 x, .int .u64 z] 247)).three
    clear s3 hS3 hF3 hlo hz hsm hzz hs0 H f2 l2
    go_wp2
    go_region
    go_wp2
    go_roundw
    case rel => exact ⟨_, H3⟩
    case measure => rw [H3.out.st.lenC, HMS.out]; exact HL.out
   ·rw [decide_eq_false hg]
    have HR : Hid (At w1 b #[.int .i64 most, .pointer (some ⟨c, 0, none⟩), .int .u64 (tot - sumP (near sd most e ps))] 265 ∧ Strip w1 c S' most (near sd most e ps) ∧ Frame (b :: S') w w1) := by
     have := H1.out.nr
     rw [near_all H1.out.st.gd (by rw [HX.out]; omega)] at this
     rw [← this]
     exact ⟨H1.out.at', H1.out.st, H1.out.fr⟩
    clear hg
    go_wp2
    exact bodyPost_ret (v := .tuple #[]) (by simp [results, Tryz.f152, go_sem]) rfl ⟨rfl, HR.out⟩
def LadR (b : Nat) (S : List Nat) (most : Int) (ps : List (Int × Int)) (tot q cc : Int) (w w' : World) : Prop :=
 ∃ S', GrownS S S' w.heap.size ∧ Low w' b S' most (capRow sd most ps q cc) (tot + cc) ∧ Frame S w w'
theorem lput_add {w w1 w2 : World} {b c : Nat} {S' : List Nat} {most tot q cc : Int} {ps : List (Int × Int)} {e : Ending} (h : Low w b (b :: S') most ps tot) (hf : Frame (b :: S') w w1) (hn : b ∉ S')
  (h1 : At w1 b #[.int .i64 most, .pointer (some ⟨c, 0, none⟩), .int .u64 (tot - sumP (near sd most q ps))] 265) (hq : ¬ (ps.length ≠ 0 ∧ most ≤ gap sd (endP sd ps) q)) (hc : 0 < cc) (ht : tot + cc ≤ 9223372036854775807)
  (hs : SadR c S' most (near sd most q ps) q cc w1 e w2) : e = .returned (.int .i64 0) ∧ LadR b (b :: S') most ps tot q cc w w2 := by
 have h2 : cnt ps q + cc < 18446744073709551616 := by have := cnt_le_sumP h.gd.pos q; have := h.lo; omega
 have h3 := near_room (s := sd) h.gd h.win h.m1 hc (by have := h.lo; omega) hq
 have hng := near_gd (s := sd) (most := most) (e := q) h.gd
 have hnc : cnt (near sd most q ps) q + cc < 18446744073709551616 := near_small h.gd h2
 obtain ⟨rfl, S2, g2, hS2, hF2⟩ := hs
 unfold stStep at hS2
 rw [if_pos ⟨hc, h3⟩, ← capRow_no hq] at hS2
 have hsum := sumP_rowAdd hng hc hnc
 rw [← capRow_no hq] at hsum
 refine ⟨by unfold stCode; rw [if_pos hc, if_pos h3], b :: S2, fun k hk => ?_, ⟨⟨c, S2, rfl, fun hb => ?_, ?_, hS2⟩, capRow_win h.gd h.win h.m1 hc h2, h.m1, ?_, ht⟩, hf.trans (hF2.mono fun k hk => by simp [hk])⟩
 ·rcases List.mem_cons.1 hk with rfl | hk
  ·exact .inl (by simp)
  ·rcases g2 k hk with h | h
   ·exact .inl (by simp [h])
   ·exact .inr (Nat.le_trans hf.size h)
 ·rcases g2 b hb with h | h
  ·exact hn h
  ·have := h1.lt; omega
 ·rw [show tot + cc - sumP (capRow sd most ps q cc) = tot - sumP (near sd most q ps) by omega]
  exact hF2.at h1 hn
 ·have := (near_sum (s := sd) (most := most) (e := q) h.gd).2
  have := h.lo
  omega
set_option maxRecDepth 100000 in
theorem lput_any (b : Nat) (S : List Nat) (most tot q cc : Int) (ps : List (Int × Int)) (w : World) (h : Low w b S most ps tot) (hc : 0 < cc) (ht : tot + cc ≤ 9223372036854775807) (hq : -9223372036854775808 ≤ q ∧ q ≤ 9223372036854775807) :
  Calls Tryz.prog 142 #[.pointer (some ⟨b, 0, none⟩), .int .i64 q, .int .u64 cc] w fun r w' => r = .returned (.tuple #[]) ∧ LadR b S most ps tot q cc w w' := by
 have H := Lib.hid h
 have HM : Hid (1 ≤ most ∧ most ≤ 4096) := ⟨h.m1, h.most4⟩
 have HO := Lib.hid h.ok
 have HG := Lib.hid h.gd
 have HCT : Hid (0 < cc ∧ tot + cc ≤ 9223372036854775807 ∧ 0 ≤ sumP ps ∧ sumP ps ≤ tot) := ⟨hc, ht, h.sum0, h.lo⟩
 have HQ := Lib.hid hq
 obtain ⟨⟨c, S', rfl, hbn, s1, hS⟩, _⟩ := id h
 have HBN := Lib.hid hbn
 have HS := Lib.hid hS
 have HSA := Lib.hid (fun (p : List (Int × Int)) (W : World) (hW : Strip W c S' most p) => sadd_any c S' most p q cc W hW (Int.le_of_lt hc) (by have := h.lo; have := h.sum0; omega) hq)
 have HR := Lib.hid h.r
 clear hS hbn hc ht hq h
 by_cases h0 : ps = []
 ·subst h0
  have HNQ : Hid (¬ (([] : List (Int × Int)).length ≠ 0 ∧ most ≤ gap sd (endP sd []) q)) := fun k => k.1 rfl
  go_enter Tryz.func142, Tryz.ntmps142
  go_wp2_with fail
  refine (lend_any b _ most _ [] w HR.out).mono ?_
  rintro r w1 ⟨rfl, hb⟩
  rw [show endV sd [] = .tuple #[.int .i64 0, .bool false] from rfl]
  have HF := Lib.hid (Frame.of_below hb (S := b :: S'))
  have s2 := s1.below hb
  have HS2 := Lib.hid (HS.out.below hb)
  have f2 := s2.three
  have l2 := s2.lt
  clear s1 HR hb
  go_wp2_with fail
  refine (HSA.out [] w1 HS2.out).mono ?_
  intro r w2 hR
  obtain ⟨rfl, hL⟩ := lput_add H.out HF.out HBN.out s2 HNQ.out HCT.out.1 HCT.out.2.1 hR
  clear hR s2
  go_wp2
  exact bodyPost_end (results_none rfl _ _ _) rfl ⟨rfl, hL⟩
 ·have HE := Lib.hid (okP.end' (s := sd) HO.out h0)
  obtain ⟨e, he⟩ : ∃ e, endP sd ps = e := ⟨_, rfl⟩
  have HEE := Lib.hid he
  have HV : Hid (endV sd ps = .tuple #[.int .i64 e, .bool true]) := by show _ = _; unfold endV; rw [if_neg (ne_len.2 h0), he]
  rw [he] at HE
  clear he
  go_enter Tryz.func142, Tryz.ntmps142
  go_wp2_with fail
  refine (lend_any b _ most _ ps w HR.out).mono ?_
  rintro r w1 ⟨rfl, hb⟩
  rw [HV.out]
  have HF := Lib.hid (Frame.of_below hb (S := b :: S'))
  have s2 := s1.below hb
  have HS2 := Lib.hid (HS.out.below hb)
  have f2 := s2.three
  have l2 := s2.lt
  clear s1 HR hb
  go_wp2_with fail
  refine (lout_any b (b :: S') most (tot - sumP ps) q e ps w1 ⟨c, S', rfl, HBN.out, s2, HS2.out⟩ HM.out HQ.out HE.out).mono ?_
  rintro r w2 ⟨rfl, rfl⟩
  by_cases hg : most ≤ gap sd e q
  ·rw [decide_eq_true hg]
   obtain ⟨lo, hlo⟩ : ∃ lo, tot - sumP ps = lo := ⟨_, rfl⟩
   have hw : IntKind.u64.wrap (lo + cc) = lo + cc := by have := HCT.out; simp only [IntKind.wrap_u64]; omega
   have HL : Hid (LadR b (b :: S') most ps tot q cc w (w1.setCell ⟨b, 2, none⟩ (.int .u64 (lo + cc)))) := by
    refine ⟨b :: S', GrownS.refl _ _, ?_, HF.out.setc (.inl (by simp)) 2 _⟩
    rw [capRow_yes (ne_len.2 h0) (by rw [HEE.out]; exact hg)]
    have e1 : tot + cc - sumP ps = lo + cc := by omega
    refine ⟨?_, H.out.win, HM.out.1, by have := HCT.out; omega, HCT.out.2.1⟩
    rw [e1]
    exact LowR.set (lost := tot - sumP ps) ⟨c, S', rfl, HBN.out, s2, HS2.out⟩
   rw [hlo] at f2
   clear hlo hg s2
   go_wp2
   exact bodyPost_ret (results_none rfl _ _ _) rfl ⟨rfl, HL.out⟩
  ·rw [decide_eq_false hg]
   have HNQ : Hid (¬ (ps.length ≠ 0 ∧ most ≤ gap sd (endP sd ps) q)) := fun k => hg (by rw [← HEE.out]; exact k.2)
   by_cases hlt : e < q
   ·clear hg
    go_wp2_with fail
    refine (lshed_any b c S' most tot q ps w1 HBN.out s2 HS2.out HM.out HQ.out HCT.out.2.2.2 (by have := HCT.out; omega)).mono ?_
    rintro r w3 ⟨rfl, s3, hS3, hF3⟩
    have HF3 := Lib.hid (HF.out.trans hF3)
    have HS3 := Lib.hid hS3
    have f3 := s3.three
    have l3 := s3.lt
    clear s2 f2 l2 hS3 hF3
    go_wp2_with fail
    refine (HSA.out _ w3 HS3.out).mono ?_
    intro r w2 hR
    obtain ⟨rfl, hL⟩ := lput_add H.out HF3.out HBN.out s3 HNQ.out HCT.out.1 HCT.out.2.1 hR
    clear hR s3
    go_wp2
    exact bodyPost_end (results_none rfl _ _ _) rfl ⟨rfl, hL⟩
   ·have HN : Hid (near sd most q ps = ps) := near_self HG.out H.out.win (by rw [HEE.out]; show 0 ≤ e - q; omega)
    clear hg
    go_wp2_with fail
    refine (HSA.out ps w1 HS2.out).mono ?_
    intro r w2 hR
    obtain ⟨rfl, hL⟩ := lput_add H.out HF.out HBN.out (by rw [HN.out]; exact s2) HNQ.out HCT.out.1 HCT.out.2.1 (by rw [HN.out]; exact hR)
    clear hR s2
    go_wp2
    exact bodyPost_end (results_none rfl _ _ _) rfl ⟨rfl, hL⟩
theorem ladd_full (b : Nat) (S : List Nat) (most tot q cc : Int) (ps : List (Int × Int)) (w : World) (h : Low w b S most ps tot) (hc : 0 < cc) (hc' : cc < 18446744073709551616) (ht : 9223372036854775807 < tot + cc) :
  Calls Tryz.prog 134 #[.pointer (some ⟨b, 0, none⟩), .int .i64 q, .int .u64 cc] w fun e w' => e = .returned (.int .i64 6) ∧ Below w.heap.size w w' := by
 have HT := Lib.hid (ltotal_any b S most tot ps w h)
 have H0 : Hid (0 < cc ∧ cc < 18446744073709551616 ∧ 0 ≤ tot ∧ tot ≤ 9223372036854775807) := ⟨hc, hc', by have := h.sum0; have := h.lo; omega, h.hi⟩
 have hcc : (cc == 0) = false := beq_eq_false_iff_ne.2 (by omega)
 obtain ⟨p1, p2⟩ := plus2_no (a := tot) (b := cc) (by omega)
 have HP := Lib.hid (And.intro p1 p2)
 clear h hc hc' ht p1 p2
 go_enter Tryz.func134, Tryz.ntmps134
 go_wp2_with fail
 refine HT.out.mono ?_
 rintro e w1 ⟨rfl, hb⟩
 go_wp2_with fail
 have a1 := At.new w1 #[.int .u64 tot, .int .u64 cc] 23
 refine (plus2_any w1.heap.size tot cc _ (by have := H0.out; omega) (by have := H0.out; omega) (by have := H0.out; omega) (by have := H0.out; omega) (a1.cell rfl) (a1.cell rfl)).mono ?_
 rintro e w2 ⟨rfl, rfl⟩
 have z1 := hb.size
 rw [HP.out.1, HP.out.2]
 clear a1
 go_wp2
 go_ret
 exact ⟨rfl, (by repeat (first | with_reducible assumption | with_reducible exact Below.refl _ _ | with_reducible refine Below.drew ?_ | with_reducible refine Below.drewN ?_ _ | with_reducible refine Below.setCell ?_ (by first | omega | (simp; done) | (simp; omega)) _ | with_reducible refine Below.alloc ?_ (by first | omega | (simp; done) | (simp; omega) | (simp [World.setCell]; omega)) _))⟩
theorem ladd_any (b : Nat) (S : List Nat) (most tot q cc : Int) (ps : List (Int × Int)) (w : World) (h : Low w b S most ps tot) (hc : 0 < cc) (ht : tot + cc ≤ 9223372036854775807) (hq : -9223372036854775808 ≤ q ∧ q ≤ 9223372036854775807) :
  Calls Tryz.prog 134 #[.pointer (some ⟨b, 0, none⟩), .int .i64 q, .int .u64 cc] w fun e w' => e = .returned (.int .i64 0) ∧ LadR b S most ps tot q cc w w' := by
 have HT := Lib.hid (ltotal_any b S most tot ps w h)
 have H0 : Hid (0 < cc ∧ cc < 18446744073709551616 ∧ 0 ≤ tot ∧ tot ≤ 9223372036854775807) := ⟨hc, by have := h.sum0; have := h.lo; omega, by have := h.sum0; have := h.lo; omega, h.hi⟩
 have hcc : (cc == 0) = false := beq_eq_false_iff_ne.2 (by omega)
 obtain ⟨p1, p2⟩ := plus2_yes (a := tot) (b := cc) (by omega)
 have HP := Lib.hid (And.intro p1 p2)
 have HPUT := Lib.hid (fun (W : World) (hb : Below w.heap.size w W) => lput_any b S most tot q cc ps W (h.below hb) hc ht hq)
 clear h hc ht hq p1 p2
 go_enter Tryz.func134, Tryz.ntmps134
 go_wp2_with fail
 refine HT.out.mono ?_
 rintro e w1 ⟨rfl, hb⟩
 go_wp2_with fail
 have a1 := At.new w1 #[.int .u64 tot, .int .u64 cc] 23
 refine (plus2_any w1.heap.size tot cc _ (by have := H0.out; omega) (by have := H0.out; omega) (by have := H0.out; omega) (by have := H0.out; omega) (a1.cell rfl) (a1.cell rfl)).mono ?_
 rintro e w2 ⟨rfl, rfl⟩
 have z1 := hb.size
 rw [HP.out.1, HP.out.2]
 have hB2 : Below w.heap.size w (w1.alloc (.cells #[.int .u64 tot, .int .u64 cc] 23)) := (by repeat (first | with_reducible assumption | with_reducible exact Below.refl _ _ | with_reducible refine Below.drew ?_ | with_reducible refine Below.drewN ?_ _ | with_reducible refine Below.setCell ?_ (by first | omega | (simp; done) | (simp; omega)) _ | with_reducible refine Below.alloc ?_ (by first | omega | (simp; done) | (simp; omega) | (simp [World.setCell]; omega)) _))
 have HB := Lib.hid hB2
 clear a1 hb hB2
 go_wp2_with fail
 refine (HPUT.out _ HB.out).mono ?_
 rintro e w3 ⟨rfl, S', hg, hL, hF⟩
 have HL : Hid (LadR b S most ps tot q cc w w3) := ⟨S', fun k hk => (hg k hk).imp id (fun h => Nat.le_trans HB.out.size h), hL, (Frame.of_below HB.out).trans hF⟩
 clear hg hL hF
 go_wp2
 go_ret
 exact ⟨rfl, HL.out⟩
end Go.Proofs.YtlbnlmhcpephbaaGreatDoor.Lo
namespace Go.Proofs.YtlbnlmhcpephbaaGreatDoor.Lo
open Go.RowKit
theorem sumP_take_le {ps : List (Int × Int)} (h : ∀ x ∈ ps, 0 < x.2) (k : Nat) : 0 ≤ sumP (ps.take k) ∧ sumP (ps.take k) ≤ sumP ps := by
 have e := congrArg sumP (List.take_append_drop k ps)
 rw [sumP_append] at e
 have h1 := sumP_nonneg (ps := ps.take k) fun x hx => h x (List.mem_of_mem_take hx)
 have h2 := sumP_nonneg (ps := ps.drop k) fun x hx => h x (List.mem_of_mem_drop hx)
 omega
structure Mer (w wr : World) (b : Nat) (S S' : List Nat) (n : Nat) (most tot : Int) (ps : List (Int × Int)) (A : Option Addr) (qs : List (Int × Int)) : Prop where
 low : Low wr b S' most ps tot
 gr : GrownS S S' n
 fr : Frame S w wr
 rd : RdP wr A qs
 ap : ∀ k ∈ blk A, k ∉ S'
theorem Mer.step {w wr w' : World} {b : Nat} {S S' : List Nat} {n : Nat} {most tot q cc : Int} {ps : List (Int × Int)} {A : Option Addr} {qs : List (Int × Int)} (h : Mer w wr b S S' n most tot ps A qs) (hn : n ≤ wr.heap.size) (hw : w.heap.size ≤ n) (hA : ∀ k ∈ blk A, k < wr.heap.size)
  (hL : LadR b S' most ps tot q cc wr w') : ∃ S2, Mer w w' b S S2 n most (tot + cc) (capRow sd most ps q cc) A qs := by
 obtain ⟨S2, g2, hl, hF⟩ := hL
 have hg : GrownS S S2 n := fun k hk => by
  rcases g2 k hk with h1 | h1
  ·exact h.gr k h1
  ·exact .inr (Nat.le_trans hn h1)
 refine ⟨S2, hl, hg, ⟨hF.os.trans h.fr.os, hF.tape.trans h.fr.tape, hF.output.trans h.fr.output, Nat.le_trans h.fr.size hF.size, fun k hk hkS => ?_⟩, ?_, ?_⟩
 ·refine (hF.block k (Nat.lt_of_lt_of_le hk h.fr.size) fun hk' => ?_).trans (h.fr.block k hk hkS)
  rcases h.gr k hk' with h1 | h1
  ·exact hkS h1
  ·omega
 ·refine Frame.rd hF h.rd fun a e => ?_
  exact h.ap _ (by subst e; simp [blk])
 ·intro k hk hk'
  rcases g2 k hk' with h1 | h1
  ·exact h.ap k hk h1
  ·have := hA k hk; omega
set_option maxRecDepth 100000 in
set_option maxHeartbeats 1000000 in
theorem lmerge_any (b o : Nat) (S So : List Nat) (most T U : Int) (ps qs : List (Int × Int)) (w : World) (h : Low w b S most ps T) (k : Low w o So most qs U) (hT : T + U ≤ 9223372036854775807) :
  Calls Tryz.prog 209 #[.pointer (some ⟨b, 0, none⟩), .pointer (some ⟨o, 0, none⟩)] w fun e w' => e = .returned (.int .i64 0) ∧ ∃ S', GrownS S S' w.heap.size ∧ Low w' b S' most (capAll sd most ps qs) (T + U) ∧ Frame S w w' := by
 have H := Lib.hid h
 have K := Lib.hid k
 have HT := Lib.hid (And.intro hT (And.intro h.sum0 (And.intro h.lo (And.intro k.sum0 k.lo))))
 have HOK := Lib.hid k.ok
 have HGQ := Lib.hid k.gd
 have HLN := Lib.hid k.len
 obtain ⟨n, hn⟩ : ∃ n, qs.length = n := ⟨_, rfl⟩
 have HN := Lib.hid hn
 have hlen : n ≤ 4096 := by rw [← hn]; exact k.len.2
 obtain ⟨⟨c, S', _, _, s1, _⟩, _⟩ := id h
 obtain ⟨⟨c2, S2', _, _, t1, _⟩, _⟩ := id k
 have f1 := s1.three
 have g1 := t1.three
 obtain ⟨p1, p2⟩ := plus2_yes (a := T) (b := U) hT
 have HP := Lib.hid (And.intro p1 p2)
 have hU : 0 ≤ U - sumP qs := by have := k.lo; omega
 clear h k hT p1 p2 hn
 go_enter Tryz.func209, Tryz.ntmps209
 go_wp2
 go_quiet (fail)
 have hb0 : Below w.heap.size w (w.drewN nq) := (Below.refl _ _).drewN _
 go_wp2_with fail
 refine (ltotal_any b S most T ps _ (H.out.below hb0)).mono ?_
 rintro e w1 ⟨rfl, hb⟩
 have hb1 := keep1 hb0 hb
 have z1 := hb1.size
 clear hb hb0
 go_wp2_with fail
 refine (ltotal_any o So most U qs _ (K.out.below hb1)).mono ?_
 rintro e w2 ⟨rfl, hb⟩
 have hb2 := keep1 hb1 hb
 have z2 := hb2.size
 clear hb hb1 z1
 go_wp2_with fail
 have a1 := At.new w2 #[.int .u64 T, .int .u64 U] 23
 refine (plus2_any w2.heap.size T U _ (by have := HT.out; omega) (by have := HT.out; omega) (by have := HT.out; omega) (by have := HT.out; omega) (a1.cell rfl) (a1.cell rfl)).mono ?_
 rintro e w3 ⟨rfl, rfl⟩
 rw [HP.out.1, HP.out.2]
 have hb3 : Below w.heap.size w (w2.alloc (.cells #[.int .u64 T, .int .u64 U] 23)) := (by repeat (first | with_reducible assumption | with_reducible exact Below.refl _ _ | with_reducible refine Below.drew ?_ | with_reducible refine Below.drewN ?_ _ | with_reducible refine Below.setCell ?_ (by first | omega | (simp; done) | (simp; omega)) _ | with_reducible refine Below.alloc ?_ (by first | omega | (simp; done) | (simp; omega) | (simp [World.setCell]; omega)) _))
 have t3 := t1.below hb3
 obtain ⟨W3, hW3⟩ : ∃ W3, w2.alloc (.cells #[.int .u64 T, .int .u64 U] 23) = W3 := ⟨_, rfl⟩
 rw [hW3] at hb3 t3 ⊢
 have g3 := t3.three
 have l3 := t3.lt
 clear a1 hW3 hb2 z2 f1 g1 t1 s1
 go_wp2_with fail
 obtain ⟨⟨c3, S3', _, _, t4, hS4⟩, _⟩ := K.out.below hb3
 have e3 := t4.symm.trans t3
 simp only [Option.some.injEq, Obj.cells.injEq] at e3
 have e4 := e3.1
 simp at e4
 subst e4
 refine (spairs_any _ S3' most qs _ hS4).mono ?_
 rintro e w5 ⟨A, cap, rfl, ho, hb⟩
 rw [HN.out]
 have hb5 := keep1 hb3 hb
 have z5 := hb5.size
 have HA : Hid (∀ k ∈ blk A, w.heap.size ≤ k ∧ k < w5.heap.size) := fun k hk => by
  cases A with
  | none => simp [blk] at hk
  | some a => simp only [blk, List.mem_singleton] at hk; subst hk; have := ho.base_le a rfl; have := hb3.size; omega
 have HM : Hid (Mer w w5 b S S w5.heap.size most T ps A qs) := ⟨H.out.below hb5, GrownS.refl _ _, Frame.of_below hb5, ho.rd, fun k hk hk' => by have := (HA.out k hk).1; have := H.out.lt k hk'; omega⟩
 obtain ⟨B5, hB5⟩ : ∃ B5, w5.heap.size = B5 := ⟨_, rfl⟩
 have HZ : Hid (w.heap.size ≤ B5 ∧ B5 ≤ w5.heap.size) := by show _ ∧ _; omega
 rw [hB5] at HM HA
 clear hb ho hb3 g3 t3 l3 hS4 t4 e3 hb5 z5 hB5
 go_wp2
 go_loopw [9, 48] (fun _ i wr => ∃ j : Nat, ∃ S2, j ≤ n ∧ i = .int .i64 j ∧ Hid (Mer w wr b S S2 B5 most (T + sumP (qs.take j)) (capAll sd most ps (qs.take j)) A qs ∧ B5 ≤ wr.heap.size)) (fun _ i _ => n - (intOf i).toNat)
 case atStart => exact ⟨0, S, by omega, rfl, by rw [List.take_zero, sumP_nil, Int.add_zero]; exact ⟨HM.out, HZ.out.2⟩⟩
 case round =>
  obtain ⟨j, S2, hj, rfl, HJ⟩ := hrel
  clear HM
  by_cases hjt : j < n
  ·obtain ⟨g, o', rfl, hg, c1, c2'⟩ := RdP.at HJ.out.1.rd j (by have := HN.out; omega)
   obtain ⟨⟨b1, b2⟩, b3, b4⟩ := HOK.out.at j (by have := HN.out; omega)
   have HS := Lib.hid (sumP_take qs j (by have := HN.out; omega))
   have HC := Lib.hid (capAll_take (s := sd) (most := most) ps qs j (by have := HN.out; omega))
   have HX := Lib.hid (HGQ.out.pos _ (List.getElem_mem (show j < qs.length by have := HN.out; omega)))
   have HL := Lib.hid (sumP_take_le HGQ.out.pos (j + 1))
   obtain ⟨⟨x, y⟩, hx⟩ : ∃ x, qs[j]'(by have := HN.out; omega) = x := ⟨_, rfl⟩
   rw [hx] at c1 c2' b1 b2 b3 b4 HS HC HX
   clear hx
   dsimp only at c1 c2' b1 b2 b3 b4 HS HC HX
   have zJ := HJ.out.2
   have hbp : Below wr.heap.size wr (wr.alloc (.cells #[.int .i64 x, .int .u64 y] 247)) := (Below.refl _ _).alloc (Nat.le_refl _) _
   have HJ2 : Hid (Mer w (wr.alloc (.cells #[.int .i64 x, .int .u64 y] 247)) b S S2 B5 most (T + sumP (qs.take j)) (capAll sd most ps (qs.take j)) (some ⟨g, o', none⟩) qs) :=
    ⟨HJ.out.1.low.below hbp, HJ.out.1.gr, HJ.out.1.fr.trans (Frame.of_below hbp), HJ.out.1.rd.below hbp, HJ.out.1.ap⟩
   clear HJ
   go_wp2_with fail
   refine (lput_any b S2 most _ x y _ _ HJ2.out.low HX.out (by have := HS.out; have := HL.out; have := HT.out; omega) ⟨b1, b2⟩).mono ?_
   rintro e w6 ⟨rfl, hL⟩
   have z6 : B5 ≤ w6.heap.size := by obtain ⟨_, _, _, hF⟩ := hL; have := hF.size; have := hbp.size; omega
   obtain ⟨S3, H3⟩ := HJ2.out.step (by have := hbp.size; omega) HZ.out.1 (fun k hk => by have := (HA.out k hk).2; have := hbp.size; omega) hL
   rw [← HC.out, Int.add_assoc, ← HS.out] at H3
   have H3' := Lib.hid (And.intro H3 z6)
   clear hL H3 z6 HJ2 hbp zJ
   go_wp2
   go_roundw
   case rel => exact ⟨j + 1, S3, by omega, by simp, H3'⟩
   case measure => simp [intOf]; omega
  ·obtain rfl : j = n := by omega
   have H1 := HJ.out.1
   rw [List.take_of_length_le (by have := HN.out; omega)] at H1
   have HL := Lib.hid H1
   have hs0 := H1.low.sum0
   have hlo := H1.low.lo
   have hhi := H1.low.hi
   obtain ⟨⟨c4, S4', rfl, hn4, t4, hS4⟩, hwin, hm1, _, _⟩ := H1.low
   obtain ⟨lo, hlo'⟩ : ∃ lo, T + sumP qs - sumP (capAll sd most ps qs) = lo := ⟨_, rfl⟩
   obtain ⟨uo, huo⟩ : ∃ uo, U - sumP qs = uo := ⟨_, rfl⟩
   have hw : IntKind.u64.wrap (lo + uo) = lo + uo := by have := HT.out; simp only [IntKind.wrap_u64]; omega
   have HR : Hid (Low (wr.setCell ⟨b, 2, none⟩ (.int .u64 (lo + uo))) b (b :: S4') most (capAll sd most ps qs) (T + U)) := by
    refine ⟨?_, hwin, hm1, by omega, HT.out.1⟩
    rw [show T + U - sumP (capAll sd most ps qs) = lo + uo by omega]
    exact LowR.set (lost := _) ⟨c4, S4', rfl, hn4, t4, hS4⟩
   have HF : Hid (Frame S w (wr.setCell ⟨b, 2, none⟩ (.int .u64 (lo + uo)))) := HL.out.fr.setc (.inl H.out.r.mem) 2 _
   have HGR : Hid (GrownS S (b :: S4') w.heap.size) := fun k hk => (HL.out.gr k hk).imp id fun h => Nat.le_trans HZ.out.1 h
   rw [hlo'] at t4
   rw [huo]
   have f4 := t4.three
   have l4 := t4.lt
   clear HL HJ H1 hwin t4 hS4 hs0 hlo hhi hlo' huo
   go_wp2
   go_ret
   exact ⟨rfl, _, HGR.out, HR.out, HF.out⟩
end Go.Proofs.YtlbnlmhcpephbaaGreatDoor.Lo
namespace Go.Proofs.YtlbnlmhcpephbaaGreatDoor.Lo
open Go.RowKit
def lowFind (lo : Int) (ps : List (Int × Int)) (t : Int) : Option Int := if t ≤ lo then none else findP (t - lo) 0 ps
set_option maxRecDepth 100000 in
theorem lfind_any (b : Nat) (S : List Nat) (most tot t : Int) (ps : List (Int × Int)) (w : World) (h : Low w b S most ps tot) (ht : 0 ≤ t ∧ t < 18446744073709551616) :
  Calls Tryz.prog 395 #[.pointer (some ⟨b, 0, none⟩), .int .u64 t] w fun e w' => e = .returned (optI (lowFind (tot - sumP ps) ps t)) ∧ Below w.heap.size w w' := by
 have hlo0 : 0 ≤ tot - sumP ps := by have := h.lo; omega
 obtain ⟨⟨c, S', _, _, s1, hS⟩, _⟩ := h
 have HS := Lib.hid hS
 obtain ⟨lo, hlo⟩ : ∃ lo, tot - sumP ps = lo := ⟨_, rfl⟩
 rw [hlo] at s1 hlo0 ⊢
 have f1 := s1.three
 clear hS hlo
 by_cases hle : t ≤ lo
 ·have HV : Hid (optI (lowFind lo ps t) = .tuple #[.int .i64 0, .bool false]) := by show _ = _; unfold lowFind; rw [if_pos hle]; rfl
  go_enter Tryz.func395, Tryz.ntmps395
  go_wp2
  go_ret2
  exact ⟨by rw [HV.out]; rfl, Below.refl _ _⟩
 ·have hw : IntKind.u64.wrap (t - lo) = t - lo := by simp only [IntKind.wrap_u64]; omega
  have HC := Lib.hid (sfind_any c S' most ps (t - lo))
  have HT : Hid (0 ≤ t - lo ∧ t - lo < 18446744073709551616) := ⟨by omega, by omega⟩
  obtain ⟨fi, hfi⟩ : ∃ fi, (findP (t - lo) 0 ps).getD 0 = fi := ⟨_, rfl⟩
  obtain ⟨fb, hfb⟩ : ∃ fb, (findP (t - lo) 0 ps).isSome = fb := ⟨_, rfl⟩
  have HOP : Hid (optI (findP (t - lo) 0 ps) = .tuple #[.int .i64 fi, .bool fb]) := by show _ = _; unfold optI; rw [hfi, hfb]
  have HV : Hid (optI (lowFind lo ps t) = .tuple #[.int .i64 fi, .bool fb]) := by show _ = _; unfold lowFind; rw [if_neg hle, HOP.out]
  clear hfi hfb ht
  go_enter Tryz.func395, Tryz.ntmps395
  go_wp2
  have hfar1 := fun x : Far w => (x.at s1).three
  refine wp_region_far (by kernel_rfl) (by kernel_rfl) ?_
  repeat (first | go_big_quiet_skip | (go_big_quiet_want; go_big_quiet_op; first | go_big_quiet_on | (apply Exists.intro; refine ⟨fun _ => ?_, ?_⟩; (focus (first | (refine far_of_same ((HC.out _ (HS.out.below (Far.below _)) HT.out).mono fun _ _ h => ⟨h.1.trans (by rw [HOP.out]), h.2.symm⟩)))); go_big_quiet_on)))
  refine wpQuiet_nil ?_
  rintro _ ⟨xq, rfl⟩
  clear hfar1
  go_wp2
  go_ret2
  exact ⟨by rw [HV.out]; rfl, Far.below _⟩
def lowBelow (most lo : Int) (ps : List (Int × Int)) (q : Int) : Int × Int := if ps.length ≠ 0 ∧ most < endP sd ps - q then (0, lo) else (upto ps q + lo, upto ps q + lo)
end Go.Proofs.YtlbnlmhcpephbaaGreatDoor.Lo
namespace Go.Proofs.YtlbnlmhcpephbaaGreatDoor.Lo
open Go.RowKit
theorem addAll_nil {rs : List (Int × Int)} (h : Gd rs) (hs : sumP rs < 18446744073709551616) : addAll [] rs = rs := by
 obtain ⟨a, _, c⟩ := addAll_spec (l := rs) Gd.nil h.pos (by rw [sumP_nil]; omega)
 exact Gd.ext a h fun i => by rw [c, cnt_nil]; omega
theorem capAll_nil {s : Bool} {most : Int} {rs : List (Int × Int)} (hm : 1 ≤ most) (h : Gd rs) (hs : sumP rs < 18446744073709551616) : capAll s most [] rs = keptP s most rs := by
 have := capAll_kept (s := s) hm Gd.nil h.pos (by rw [sumP_nil]; omega)
 rw [addAll_nil h hs] at this
 exact this
theorem filter_sum_eq {p : Int × Int → Bool} : ∀ {rs : List (Int × Int)}, (∀ x ∈ rs, 0 < x.2) → sumP rs ≤ sumP (rs.filter p) → ∀ x ∈ rs, p x = true
 | [], _, _, x, hx => by simp at hx
 | y :: rs, h, hs, x, hx => by
  have h1 := h y (by simp)
  have h2 : ∀ z ∈ rs, 0 < z.2 := fun z hz => h z (by simp [hz])
  have h3 := (sumP_filter_le h2 p).2
  rw [sumP_cons, List.filter_cons] at hs
  by_cases hy : p y = true
  ·rw [if_pos hy, sumP_cons] at hs
   rcases List.mem_cons.1 hx with rfl | hx
   ·exact hy
   ·exact filter_sum_eq h2 (by omega) x hx
  ·rw [if_neg hy] at hs
   omega
theorem win_of_sum {s : Bool} {most : Int} {rs : List (Int × Int)} (h : Gd rs) (hs : sumP rs ≤ sumP (keptP s most rs)) : Win s most rs := fun x hx =>
 of_decide_eq_true (filter_sum_eq (p := fun x => decide (gap s (endP s rs) x.1 < most)) h.pos hs x hx)
structure LoadOk (most : Int) (rs : List (Int × Int)) (lost : Int) : Prop where
 gm : GdM rs
 ln : (rs.length : Int) ≤ most
 sm : sumP rs + lost ≤ 9223372036854775807
 win : Win sd most rs
 em : rs = [] → lost = 0
def LoadR (most : Int) (rs : List (Int × Int)) (lost : Int) (w : World) (e : Ending) (w' : World) : Prop :=
 (LoadOk most rs lost ∧ ∃ b S, e = .returned (.tuple #[.pointer (some ⟨b, 0, none⟩), .int .i64 0]) ∧ Within S w.heap.size w'.heap.size ∧ Low w' b S most rs (sumP rs + lost)) ∨
 (¬ LoadOk most rs lost ∧ e = .returned (.tuple #[.pointer none, .int .i64 1]))
theorem LoadR.bad {most : Int} {rs : List (Int × Int)} {lost : Int} {w w' : World} (h : ¬ LoadOk most rs lost) : LoadR most rs lost w (.returned (.tuple #[.pointer none, .int .i64 1])) w' := .inr ⟨h, rfl⟩
set_option maxRecDepth 100000 in
set_option maxHeartbeats 1000000 in
theorem lload_any (A : Option Addr) (len cap : Nat) (rs : List (Int × Int)) (most lost : Int) (w : World) (h1 : 1 ≤ most) (h2 : most ≤ 4096) (hl : rs.length = len) (hm : len ≤ 9223372036854775807) (hR : RdP w A rs) (hok : okP rs) (h3 : 0 ≤ lost) (h4 : lost < 18446744073709551616) :
  Calls Tryz.prog 124 #[.int .i64 most, .slice A len cap, .int .u64 lost] w fun e w' => LoadR most rs lost w e w' ∧ Below w.heap.size w w' := by
 have HR := Lib.hid hR
 have HO := Lib.hid hok
 have HL := Lib.hid (And.intro h3 h4)
 have H1 := Lib.hid (And.intro h1 h2)
 have HN := Lib.hid (lnew_any most w h1 h2)
 have HLN := Lib.hid hl
 clear hR hok h3 h4 h1 h2 hl
 go_enter Tryz.func124, Tryz.ntmps124
 go_wp2_with fail
 refine HN.out.mono ?_
 rintro e w1 ⟨⟨b, S0, rfl, hbw, hWi, hLow⟩, hb1⟩
 have HT : Hid (Two w.heap.size w w1 S0 [] (Low w1 b S0 most [] 0) True) := ⟨hLow, trivial, hWi, fun k hk => by simp at hk, fun k hk hn => by simp at hn, hb1, hb1.size⟩
 have HB1 := Lib.hid hb1
 clear hbw hWi hLow hb1 HN
 go_wp2_with fail
 refine (good_any A len cap rs most w1 HLN.out hm (HR.out.below HB1.out) HO.out).mono ?_
 rintro e w2 ⟨⟨bv, rfl, hbv⟩, hb⟩
 have HT2 := Lib.hid (HT.out.belowW hb (fun k => k.below hb) (fun k => k))
 clear hb HT HB1
 cases bv with
 | false =>
  have HBAD : Hid (¬ LoadOk most rs lost) := fun k => by have := hbv.2 ⟨k.gm, by rw [← HLN.out]; exact k.ln⟩; cases this
  clear hbv
  go_wp2
  go_ret2
  exact ⟨LoadR.bad HBAD.out, HT2.out.below⟩
 | true =>
  have HG := Lib.hid (hbv.1 rfl)
  clear hbv
  go_wp2
  go_loopw [11, 28] (fun _ i wr => ∃ k : Nat, ∃ S, k ≤ len ∧ i = .int .i64 k ∧ Hid (Two w.heap.size w wr S [] (Low wr b S most (capAll sd most [] (rs.take k)) (sumP (rs.take k))) True)) (fun _ i _ => len - (intOf i).toNat)
  case atStart => exact ⟨0, S0, by omega, rfl, HT2⟩
  case round =>
   obtain ⟨k, S, hk, rfl, H⟩ := hrel
   by_cases hlt : k < len
   ·obtain ⟨g, o, rfl, hg, c1, c2⟩ := (HR.out.below H.out.below).at k (by have := HLN.out; omega)
    obtain ⟨⟨b1, b2⟩, b3, b4⟩ := HO.out.at k (by have := HLN.out; omega)
    have HS := Lib.hid (sumP_take rs k (by have := HLN.out; omega))
    have HC := Lib.hid (capAll_take (s := sd) (most := most) [] rs k (by have := HLN.out; omega))
    have HX := Lib.hid (HG.out.1.gd.pos _ (List.getElem_mem (show k < rs.length by have := HLN.out; omega)))
    obtain ⟨⟨x, y⟩, hx⟩ : ∃ x, rs[k]'(by have := HLN.out; omega) = x := ⟨_, rfl⟩
    rw [hx] at c1 c2 b1 b2 b3 b4 HS HC HX
    clear hx
    dsimp only at c1 c2 b1 b2 b3 b4 HS HC HX
    have zH := H.out.size
    have HZ := fun h : Below wr.heap.size wr (wr.alloc (.cells #[.int .i64 x, .int .u64 y] 247)) => Lib.hid (H.out.belowW h (fun k => k.below h) (fun k => k))
    replace HZ := HZ ((Below.refl _ _).alloc (Nat.le_refl _) _)
    have HB : Hid ((-9223372036854775808 ≤ x ∧ x ≤ 9223372036854775807) ∧ y < 18446744073709551616) := ⟨⟨b1, b2⟩, b4⟩
    clear b1 b2 b3 b4 H HT2
    by_cases hfit : sumP (rs.take k) + y ≤ 9223372036854775807
    ·have HF := Lib.hid hfit
     clear hfit
     go_wp2_with fail
     refine (ladd_any b S most _ x y _ _ HZ.out.x HX.out HF.out HB.out.1).mono ?_
     rintro e w4 ⟨rfl, S3, hg3, hC3, hF3⟩
     have H3 := HZ.out.stepX hg3 hC3 hC3.lt hF3 trivial
     rw [← HS.out, ← HC.out] at H3
     replace H3 := Lib.hid H3
     clear HZ hC3 hF3 hg3
     go_wp2
     go_roundw
     case rel => exact ⟨k + 1, S3, by omega, by simp, H3⟩
     case measure => simp [intOf]; omega
    ·have HF := Lib.hid hfit
     clear hfit
     go_wp2_with fail
     refine (ladd_full b S most _ x y _ _ HZ.out.x HX.out HB.out.2 (by have := HF.out; omega)).mono ?_
     rintro e w4 ⟨rfl, hb4⟩
     have HBAD : Hid (¬ LoadOk most rs lost) := fun k' => by
      have h1 := k'.sm
      have h2 : sumP (rs.take (k + 1)) ≤ sumP rs := by
       have e := congrArg sumP (List.take_append_drop (k + 1) rs)
       rw [sumP_append] at e
       have := sumP_nonneg (ps := rs.drop (k + 1)) (fun x hx => HG.out.1.gd.pos x (List.mem_of_mem_drop hx))
       omega
      have := HS.out; have := HF.out; have := HL.out
      omega
     have HB4 := Lib.hid (HZ.out.fin hb4)
     clear hb4 HZ
     go_wp2
     go_ret2
     exact ⟨LoadR.bad HBAD.out, HB4.out⟩
   ·obtain rfl : k = len := by omega
    have H1' := H.out
    rw [List.take_of_length_le (by have := HLN.out; omega)] at H1'
    have hs64 : sumP rs < 18446744073709551616 := by have := H1'.x.hi; omega
    rw [capAll_nil H1.out.1 HG.out.1.gd hs64] at H1'
    have H2 := Lib.hid H1'
    clear H H1' HT2 hs64
    have HGK := Lib.hid (near_sum (s := sd) (most := most) (e := endP sd rs) HG.out.1.gd)
    go_wp2_with fail
    refine (ltotal_any b S most _ _ wr H2.out.x).mono ?_
    rintro e w3 ⟨rfl, hb⟩
    have H3 := Lib.hid (H2.out.belowW hb (fun k => k.below hb) (fun k => k))
    have HT0 := Lib.hid (And.intro H2.out.x.sum0 (And.intro H2.out.x.lo H2.out.x.hi))
    clear hb H2
    obtain ⟨T, hT⟩ : ∃ T, sumP rs = T := ⟨_, rfl⟩
    have HTT := Lib.hid hT
    rw [hT] at HT0
    have z3 := H3.out.size
    go_wp2_with fail
    have a1 := At.new w3 #[.int .u64 T, .int .u64 lost] 23
    refine (plus2_any w3.heap.size T lost _ (by have := HT0.out; omega) (by have := HT0.out; omega) HL.out.1 HL.out.2 (a1.cell rfl) (a1.cell rfl)).mono ?_
    rintro e w4 ⟨rfl, rfl⟩
    have HB4 := Lib.hid ((Below.refl w3.heap.size w3).alloc (Nat.le_refl _) (.cells #[.int .u64 T, .int .u64 lost] 23))
    have H4 := Lib.hid (H3.out.belowW HB4.out (fun k => k.below HB4.out) (fun k => k))
    clear a1 z3 H3
    obtain ⟨W4, hW4⟩ : ∃ W4, w3.alloc (.cells #[.int .u64 T, .int .u64 lost] 23) = W4 := ⟨_, rfl⟩
    rw [hW4] at H4 ⊢
    clear hW4 HB4
    by_cases hP : T + lost ≤ 9223372036854775807
    ·obtain ⟨p1, p2⟩ := plus2_yes hP
     rw [p1, p2]
     have HP := Lib.hid hP
     clear p1 p2 hP
     obtain ⟨⟨c, S', e0, hbn, s4, hS4⟩, hwin, hm1, hlo, hhi⟩ := H4.out.x
     rw [hT] at s4
     obtain ⟨lo, hlo'⟩ : ∃ lo, T - sumP (keptP sd most rs) = lo := ⟨_, rfl⟩
     rw [hlo'] at s4
     have f4 := s4.three
     have l4 := s4.lt
     rw [hT] at hlo
     by_cases hz : 0 < lo
     ·have HBAD : Hid (¬ LoadOk most rs lost) := fun k' => by
       have := k'.win
       rw [kept_self k'.win] at hlo'
       omega
      clear hS4 hwin hm1 hlo hhi hlo' hT e0 hbn
      go_wp2
      go_ret2
      exact ⟨LoadR.bad HBAD.out, H4.out.below⟩
     ·have hw : Win sd most rs := win_of_sum HG.out.1.gd (by omega)
      have hlo0 : lo = 0 := by omega
      by_cases hem : 0 < lost ∧ k = 0
      ·obtain ⟨he1, rfl⟩ := hem
       have HBAD : Hid (¬ LoadOk most rs lost) := fun k' => by
        have := k'.em (List.eq_nil_of_length_eq_zero HLN.out)
        omega
       clear hS4 hwin hm1 hlo hhi hlo' hT e0 hbn hw hz
       subst hlo0
       go_wp2
       go_ret2
       exact ⟨LoadR.bad HBAD.out, H4.out.below⟩
      ·have HOK : Hid (LoadOk most rs lost) := ⟨HG.out.1, by rw [HLN.out]; exact HG.out.2, by rw [hT]; exact HP.out, hw, fun e => by
        have := HLN.out
        rw [e] at this
        simp at this
        have := HL.out.1
        by_cases h0 : 0 < lost
        ·exact absurd ⟨h0, by omega⟩ hem
        ·omega⟩
       have hke := kept_self hw
       have HRES : Hid (∃ b' S, Ending.returned (.tuple #[.pointer (some ⟨b, 0, none⟩), .int .i64 0]) = .returned (.tuple #[.pointer (some ⟨b', 0, none⟩), .int .i64 0]) ∧ Within S w.heap.size (W4.setCell ⟨b, 2, none⟩ (.int .u64 lost)).heap.size ∧ Low (W4.setCell ⟨b, 2, none⟩ (.int .u64 lost)) b' S most rs (sumP rs + lost)) := by
        refine ⟨b, S, rfl, by have := H4.out.ws; intro k hk; have := this k hk; simp [World.setCell]; omega, ?_, hw, hm1, by have := HL.out.1; omega, by rw [hT]; exact HP.out⟩
        rw [show sumP rs + lost - sumP rs = lost by omega]
        rw [hke] at hS4
        subst e0
        exact LowR.set (lost := lo) ⟨c, S', rfl, hbn, s4, hS4⟩
       have HBE : Hid (Below w.heap.size w (W4.setCell ⟨b, 2, none⟩ (.int .u64 lost))) := H4.out.below.setCell (H4.out.ws b (by rw [e0]; simp)).1 _
       clear hS4 hwin hm1 hlo hhi hlo' hT e0 hbn hw hz hke
       subst hlo0
       by_cases h0 : 0 < lost
       ·have hk0 : k ≠ 0 := fun e => hem ⟨h0, e⟩
        clear hem
        go_wp2
        go_ret2
        exact ⟨.inl ⟨HOK.out, HRES.out⟩, HBE.out⟩
       ·clear hem
        go_wp2
        go_ret2
        exact ⟨.inl ⟨HOK.out, HRES.out⟩, HBE.out⟩
    ·obtain ⟨p1, p2⟩ := plus2_no hP
     rw [p1, p2]
     have HBAD : Hid (¬ LoadOk most rs lost) := fun k' => by have := k'.sm; rw [hT] at this; exact hP this
     clear p1 p2 hP hT
     go_wp2
     go_ret2
     exact ⟨LoadR.bad HBAD.out, H4.out.below⟩
end Go.Proofs.YtlbnlmhcpephbaaGreatDoor.Lo
namespace Go.Proofs.YtlbnlmhcpephbaaGreatDoor.Lo
open Go.RowKit
structure DocB (w : World) (m : Nat) (A : Option Addr) (c : Nat) (most : Int) (ps : List (Int × Int)) : Prop where
 at' : At w m #[.int .i64 most, .slice A ps.length c] 442
 own : Own2 0 w A c ps
 ne : m ∉ blk A
def DocL (w : World) (m : Nat) (S : List Nat) (most : Int) (ps : List (Int × Int)) : Prop := ∃ A c, S = m :: blk A ∧ DocB w m A c most ps
section
variable {w w' : World} {b : Nat} {S T : List Nat} {most : Int} {ps : List (Int × Int)}
end
structure DocC (w : World) (m : Nat) (A : Option Addr) (c : Nat) (most : Int) (ps : List (Int × Int)) : Prop where
 at' : At w m #[.int .i64 most, .slice A ps.length c] 442
 rd : RdP w A ps
def DocD (w : World) (m : Nat) (most : Int) (ps : List (Int × Int)) : Prop := ∃ A c, DocC w m A c most ps
theorem kept_near (s : Bool) (most : Int) (ps : List (Int × Int)) : near s most (endP s ps) ps = keptP s most ps := rfl
theorem findP_mem {t : Int} : ∀ {ps : List (Int × Int)} {s i : Int}, findP t s ps = some i → ∃ x ∈ ps, x.1 = i
 | [], _, _, h => by cases h
 | y :: ps, s, i, h => by
  unfold findP at h
  split at h
  ·cases h; exact ⟨y, by simp, rfl⟩
  ·obtain ⟨x, hx, e⟩ := findP_mem h
   exact ⟨x, by simp [hx], e⟩
def keepO (most e : Int) (o : Option Int) : Option Int := match o with
 | some i => if gap sd e i < most then some i else none
 | none => none
def docFind (most : Int) (ps : List (Int × Int)) (t : Int) : Option Int := keepO most (endP sd ps) (findP t 0 ps)
end Go.Proofs.YtlbnlmhcpephbaaGreatDoor.Lo
namespace Go.Proofs.YtlbnlmhcpephbaaGreatDoor.Lo
theorem findP_shift {t d : Int} : ∀ {ps : List (Int × Int)} {s : Int}, (∀ x ∈ ps, 0 < x.2) → 0 ≤ s → 0 ≤ d → s + d + sumP ps < 18446744073709551616 → 0 < t - d → findP (t - d) s ps = findP t (s + d) ps
 | [], _, _, _, _, _, _ => rfl
 | x :: ps, s, hp, hs, hd, hb, ht => by
  have h1 := hp x (by simp)
  have h2 := sumP_nonneg (ps := ps) fun y hy => hp y (by simp [hy])
  rw [sumP_cons] at hb
  unfold findP
  rw [Int.emod_eq_of_lt (by omega : 0 ≤ s + x.2) (by omega), Int.emod_eq_of_lt (by omega : 0 ≤ s + d + x.2) (by omega)]
  by_cases h : t - d ≤ s + x.2
  ·rw [if_pos ⟨ht, h⟩, if_pos ⟨by omega, by omega⟩]
  ·rw [if_neg (fun k => h k.2), if_neg (fun k => h (by omega)), findP_shift (fun y hy => hp y (by simp [hy])) (by omega) hd (by omega) ht]
   rw [show s + x.2 + d = s + d + x.2 by omega]
theorem near_cons_far {s : Bool} {most e : Int} {x : Int × Int} {ps : List (Int × Int)} (h : ¬ gap s e x.1 < most) : near s most e (x :: ps) = near s most e ps := by
 unfold near; rw [List.filter_cons_of_neg (by rw [decide_eq_true_eq]; exact h)]
theorem find_near {most e t : Int} : ∀ {ps : List (Int × Int)} {s : Int}, Gd ps → 0 ≤ s → s < t → s + sumP ps < 18446744073709551616 →
  keepO most e (findP t s ps) = if t ≤ s + (sumP ps - sumP (near sd most e ps)) then none else findP t (s + (sumP ps - sumP (near sd most e ps))) (near sd most e ps)
 | [], s, _, _, ht, _ => by
  rw [near_nil, sumP_nil]
  unfold findP
  rw [ite_self]
  rfl
 | x :: ps, s, h, h0, ht, hb => by
  have h1 := h.pos x (by simp)
  have h2 := sumP_nonneg h.tail.pos
  by_cases hx : gap sd e x.1 < most
  ·have hn : near sd most e (x :: ps) = x :: ps := near_all h hx
   rw [hn, Int.sub_self, Int.add_zero, if_neg (by omega)]
   cases hf : findP t s (x :: ps) with
   | none => rfl
   | some i =>
    obtain ⟨y, hy, e1⟩ := findP_mem hf
    rw [← hn] at hy
    unfold keepO
    dsimp only
    rw [if_pos]
    rw [← e1]
    exact of_decide_eq_true (List.mem_filter.1 hy).2
  ·have hsm := near_sum (s := sd) (most := most) (e := e) h.tail
   rw [near_cons_far hx, sumP_cons] at *
   unfold findP
   rw [Int.emod_eq_of_lt (by omega : 0 ≤ s + x.2) (by omega)]
   by_cases hle : t ≤ s + x.2
   ·rw [if_pos ⟨by omega, hle⟩, if_pos (by omega)]
    unfold keepO
    dsimp only
    rw [if_neg hx]
   ·rw [if_neg (fun k => hle k.2), find_near h.tail (by omega) (by omega) (by omega)]
    rw [show s + x.2 + (sumP ps - sumP (near sd most e ps)) = s + (x.2 + sumP ps - sumP (near sd most e ps)) by omega]
    cases hn : near sd most e ps with
    | nil => simp [findP]
    | cons y l => rfl
theorem lowFind_doc {most t : Int} {all : List (Int × Int)} (h : Gd all) (hs : sumP all < 18446744073709551616) (ht : 0 ≤ t) :
  lowFind (sumP all - sumP (keptP sd most all)) (keptP sd most all) t = docFind most all t := by
 have hsm := near_sum (s := sd) (most := most) (e := endP sd all) h
 have hg := near_gd (s := sd) (most := most) (e := endP sd all) h
 unfold lowFind docFind
 rw [← kept_near sd most all]
 by_cases h0 : t = 0
 ·subst h0
  rw [findP_zero, if_pos (by omega)]
  rfl
 ·rw [find_near h (by omega) (by omega) (by omega), Int.zero_add]
  by_cases hl : t ≤ sumP all - sumP (near sd most (endP sd all) all)
  ·rw [if_pos hl, if_pos hl]
  ·rw [if_neg hl, if_neg hl, findP_shift hg.pos (by omega) (by omega) (by omega) (by omega), Int.zero_add]
end Go.Proofs.YtlbnlmhcpephbaaGreatDoor.Lo
