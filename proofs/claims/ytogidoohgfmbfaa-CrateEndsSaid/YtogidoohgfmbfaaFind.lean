/- Plain laws: what a crate finds, and tells below an index, is what the document says of its row. -/
import Derived.Test.YtogidoohgfmbfaaCrateO
namespace Go.Proofs.Ytogidoohgfmbfaa

theorem sumP_filter_le {ps : List (Int × Int)} (h : ∀ x ∈ ps, 0 < x.2) (p : Int × Int → Bool) : 0 ≤ sumP (ps.filter p) ∧ sumP (ps.filter p) ≤ sumP ps := by
  induction ps with
  | nil => exact ⟨Int.le_refl _, Int.le_refl _⟩
  | cons x ps ih =>
    have := ih fun y hy => h y (by simp [hy])
    have := h x (by simp)
    rw [List.filter_cons, sumP_cons]
    split
    · rw [sumP_cons]; omega
    · omega

theorem findP_zero (ps : List (Int × Int)) : ∀ s, findP 0 s ps = none := by
  induction ps with
  | nil => intro s; rfl
  | cons x ps ih => intro s; rw [findP, if_neg (by omega)]; exact ih _
theorem findC_eq {ps : List (Int × Int)} {t : Int} (h : ∀ x ∈ ps, 0 < x.2) : ∀ s, 0 ≤ s → s < t → t < 18446744073709551616 → s + sumP ps < 18446744073709551616 → findC (t - s) ps = findP t s ps := by
  induction ps with
  | nil => intro s _ _ _ _; rfl
  | cons x ps ih =>
    intro s h0 h1 h2 h3
    have hx := h x (by simp)
    have hp : ∀ y ∈ ps, 0 < y.2 := fun y hy => h y (by simp [hy])
    rw [sumP_cons] at h3
    have hs := sumP_nonneg hp
    rw [findC_def, findP, Int.emod_eq_of_lt (by omega : 0 ≤ s + x.2) (by omega)]
    by_cases h4 : t ≤ s + x.2
    · rw [if_pos (by omega), if_pos (by omega)]
    · rw [if_neg (by omega), if_neg (by omega), Int.emod_eq_of_lt (by omega) (by omega), show t - s - x.2 = t - (s + x.2) by omega]
      exact ih hp _ (by omega) (by omega) h2 (by omega)
theorem findV_eq {ps : List (Int × Int)} {t : Int} (h : ∀ x ∈ ps, 0 < x.2) (ht0 : 0 ≤ t) (ht1 : t < 18446744073709551616) (hs : sumP ps ≤ 9223372036854775807) : findV t ps = findP t 0 ps := by
  unfold findV
  by_cases h0 : t = 0
  · subst h0
    rw [if_pos rfl, findP_zero]
  · rw [if_neg h0]
    have := findC_eq (t := t) h 0 (by omega) (by omega) ht1 (by omega)
    rwa [Int.sub_zero] at this

theorem belowC_eq {ps : List (Int × Int)} {q : Int} (h : Gd ps) : ∀ s, 0 ≤ s → s + sumP ps < 18446744073709551616 → belowC q s ps = s + sumP (ps.filter fun x => decide (x.1 ≤ q)) := by
  induction ps with
  | nil => intro s _ _; show s = s + 0; omega
  | cons x ps ih =>
    intro s h0 h1
    have hx := h.pos x (by simp)
    rw [sumP_cons] at h1
    have hs := sumP_nonneg h.tail.pos
    rw [belowC_def]
    by_cases hq : q < x.1
    · rw [if_pos hq, List.filter_eq_nil_iff.2, sumP_nil]
      · omega
      · intro y hy
        simp only [decide_eq_true_eq]
        rcases List.mem_cons.1 hy with rfl | hy
        · omega
        · have := h.head y hy; omega
    · rw [if_neg hq, Int.emod_eq_of_lt (by omega) (by omega), ih h.tail _ (by omega) (by omega), List.filter_cons_of_pos (by simp; omega), sumP_cons]
      omega
/-- How many up to an index. -/
def upto (ps : List (Int × Int)) (q : Int) : Int := sumP (ps.filter fun x => decide (x.1 ≤ q))
theorem belowC_upto {ps : List (Int × Int)} {q : Int} (h : Gd ps) (hs : sumP ps ≤ 9223372036854775807) : belowC q 0 ps = upto ps q := by
  rw [belowC_eq h 0 (by omega) (by omega)]
  unfold upto; omega
theorem upto_le {ps : List (Int × Int)} (q : Int) (h : Gd ps) : 0 ≤ upto ps q ∧ upto ps q ≤ sumP ps := sumP_filter_le h.pos _

theorem findP_some {t : Int} : ∀ {ps : List (Int × Int)} {s i : Int}, Gd ps → 0 ≤ s → s < t → s + sumP ps < 18446744073709551616 → findP t s ps = some i → t ≤ s + upto ps i ∧ s + upto ps i - cnt ps i < t ∧ ∃ x ∈ ps, x.1 = i
  | [], s, i, _, _, _, _, h => by cases h
  | x :: ps, s, i, hg, h0, h1, h2, h => by
    have hx := hg.pos x (by simp)
    have hs := sumP_nonneg hg.tail.pos
    rw [sumP_cons] at h2
    rw [findP, Int.emod_eq_of_lt (by omega : 0 ≤ s + x.2) (by omega)] at h
    by_cases h4 : t ≤ s + x.2
    · rw [if_pos (by omega)] at h
      cases h
      have hu : upto (x :: ps) x.1 = x.2 := by
        unfold upto
        rw [List.filter_cons_of_pos (by simp), List.filter_eq_nil_iff.2, sumP_cons, sumP_nil, Int.add_zero]
        intro y hy
        have := hg.head y hy
        simp only [decide_eq_true_eq]; omega
      rw [hu, hg.cnt_head]
      exact ⟨h4, by omega, x, by simp, rfl⟩
    · rw [if_neg (by omega)] at h
      obtain ⟨a1, a2, y, hy, rfl⟩ := findP_some hg.tail (by omega) (by omega) (by omega) h
      have hu : upto (x :: ps) y.1 = x.2 + upto ps y.1 := by
        unfold upto
        rw [List.filter_cons_of_pos (by have := hg.head y hy; simp; omega), sumP_cons]
      have hc : cnt (x :: ps) y.1 = cnt ps y.1 := by
        rw [cnt_cons, if_neg (by have := hg.head y hy; omega)]; omega
      rw [hu, hc]
      exact ⟨by omega, by omega, y, by simp [hy], rfl⟩

theorem cnt_le_upto {ps : List (Int × Int)} (h : ∀ x ∈ ps, 0 < x.2) (q : Int) : cnt ps q ≤ upto ps q := by
  have : ps.filter (fun x => decide (x.1 = q)) = (ps.filter fun x => decide (x.1 ≤ q)).filter fun x => decide (x.1 = q) := by
    rw [List.filter_filter]
    refine List.filter_congr fun x _ => ?_
    by_cases e : x.1 = q
    · simp [e]
    · simp [e]
  unfold cnt upto
  rw [this]
  exact (sumP_filter_le (fun x hx => h x (List.mem_filter.1 hx).1) _).2
theorem rowAdd_nil {q c : Int} (h : 0 < c) (h' : c < 18446744073709551616) : rowAdd [] q c = [(q, c)] := by
  rw [rowAdd_eq Gd.nil h (by rw [cnt_nil]; omega), cnt_nil, Int.zero_add]; rfl
theorem span_one (x : Int × Int) : span [x] = 0 := by unfold span; simp
theorem rowRoom_nil {q c : Int} (h : 0 < c) (h' : c ≤ 9223372036854775807) : rowRoom [] q c := ⟨by rw [sumP_nil]; omega, by rw [rowAdd_nil h (by omega), span_one]; omega⟩
theorem rowRoom_two {f c d : Int} (hc : 0 < c) (hc' : c ≤ 1099511627776) (hd : 0 ≤ d) : rowRoom [(f, c)] (f + d) 1 ↔ d ≤ 4095 := by
  have hg : Gd [(f, c)] := ⟨List.pairwise_singleton _ _, by simp; exact hc⟩
  have hcn : ∀ i, cnt [(f, c)] i = if f = i then c else 0 := fun i => by rw [cnt_cons, cnt_nil, Int.add_zero]
  have hs : cnt [(f, c)] (f + d) + 1 < 18446744073709551616 := by rw [hcn]; split <;> omega
  have hsum : sumP [(f, c)] = c := by rw [sumP_cons, sumP_nil, Int.add_zero]
  unfold rowRoom
  rw [hsum, span_iff (hg.rowAdd (by omega) hs) (rowAdd_ne hg (by omega) hs)]
  constructor
  · rintro ⟨_, h⟩
    have := h f (f + d) (by rw [cnt_rowAdd hg (by omega) hs, hcn, if_pos rfl]; split <;> omega) (by rw [cnt_rowAdd hg (by omega) hs, if_pos rfl]; have := cnt_nonneg hg.pos (f + d); omega)
    omega
  · intro h
    refine ⟨by omega, fun i j hi hj => ?_⟩
    rw [cnt_rowAdd hg (by omega) hs, hcn] at hi hj
    have hi' : i = f ∨ i = f + d := by
      by_cases e : f = i
      · exact .inl e.symm
      · rw [if_neg e] at hi
        by_cases e2 : i = f + d
        · exact .inr e2
        · rw [if_neg e2] at hi; omega
    have hj' : j = f ∨ j = f + d := by
      by_cases e : f = j
      · exact .inl e.symm
      · rw [if_neg e] at hj
        by_cases e2 : j = f + d
        · exact .inr e2
        · rw [if_neg e2] at hj; omega
    omega
end Go.Proofs.Ytogidoohgfmbfaa

