/- Plain laws of rows of pairs and of counts side by side; no program in sight. -/
import Derived.Test.YtondkkhagbcadaaGreatApp
namespace Go.Proofs.YtondkkhagbcadaaGreat

/-- How many of an index. -/
def cnt (ps : List (Int × Int)) (i : Int) : Int := sumP (ps.filter fun x => decide (x.1 = i))
/-- A row: indexes that rise; counts that are some. -/
structure Gd (ps : List (Int × Int)) : Prop where
  srt : ps.Pairwise fun x y => x.1 < y.1
  pos : ∀ x ∈ ps, 0 < x.2

theorem sumP_nil : sumP [] = 0 := rfl
theorem sumP_cons (x : Int × Int) (ps : List (Int × Int)) : sumP (x :: ps) = x.2 + sumP ps := by simp [sumP]
theorem sumP_append (ps qs : List (Int × Int)) : sumP (ps ++ qs) = sumP ps + sumP qs := by simp [sumP]
theorem cnt_nil (i : Int) : cnt [] i = 0 := rfl
theorem cnt_cons (x : Int × Int) (ps : List (Int × Int)) (i : Int) : cnt (x :: ps) i = (if x.1 = i then x.2 else 0) + cnt ps i := by
  unfold cnt
  by_cases h : x.1 = i
  · simp [h, sumP_cons]
  · simp [h]
theorem cnt_append (ps qs : List (Int × Int)) (i : Int) : cnt (ps ++ qs) i = cnt ps i + cnt qs i := by simp [cnt, sumP_append]
theorem cnt_nonneg {ps : List (Int × Int)} (h : ∀ x ∈ ps, 0 < x.2) (i : Int) : 0 ≤ cnt ps i := by
  induction ps with
  | nil => exact Int.le_refl _
  | cons x ps ih =>
    rw [cnt_cons]
    have := ih fun y hy => h y (by simp [hy])
    have := h x (by simp)
    split <;> omega
theorem cnt_le_sumP {ps : List (Int × Int)} (h : ∀ x ∈ ps, 0 < x.2) (i : Int) : cnt ps i ≤ sumP ps := by
  induction ps with
  | nil => exact Int.le_refl _
  | cons x ps ih =>
    rw [cnt_cons, sumP_cons]
    have := ih fun y hy => h y (by simp [hy])
    have := h x (by simp)
    split <;> omega
theorem sumP_nonneg {ps : List (Int × Int)} (h : ∀ x ∈ ps, 0 < x.2) : 0 ≤ sumP ps := Int.le_trans (cnt_nonneg h 0) (cnt_le_sumP h 0)
theorem cnt_zero {ps : List (Int × Int)} {i : Int} (h : ∀ x ∈ ps, x.1 ≠ i) : cnt ps i = 0 := by
  induction ps with
  | nil => rfl
  | cons x ps ih =>
    rw [cnt_cons, if_neg (h x (by simp)), ih fun y hy => h y (by simp [hy])]
    rfl
theorem cnt_pos_mem {ps : List (Int × Int)} {i : Int} (h : 0 < cnt ps i) : ∃ x ∈ ps, x.1 = i := by
  induction ps with
  | nil => rw [cnt_nil] at h; omega
  | cons x ps ih =>
    by_cases hx : x.1 = i
    · exact ⟨x, by simp, hx⟩
    · rw [cnt_cons, if_neg hx] at h
      obtain ⟨y, hy, e⟩ := ih (by omega)
      exact ⟨y, by simp [hy], e⟩
theorem cnt_mem_pos {ps : List (Int × Int)} (h : ∀ x ∈ ps, 0 < x.2) {x : Int × Int} (hx : x ∈ ps) : 0 < cnt ps x.1 := by
  induction ps with
  | nil => simp at hx
  | cons y ps ih =>
    rw [cnt_cons]
    have h' : ∀ x ∈ ps, 0 < x.2 := fun z hz => h z (by simp [hz])
    have := cnt_nonneg h' x.1
    rcases List.mem_cons.1 hx with rfl | hx
    · rw [if_pos rfl]; have := h x (by simp); omega
    · have := ih h' hx
      have := h y (by simp)
      split <;> omega
theorem cnt_filter (p : Int → Bool) (ps : List (Int × Int)) (i : Int) : cnt (ps.filter fun x => p x.1) i = if p i then cnt ps i else 0 := by
  induction ps with
  | nil => simp [cnt_nil]
  | cons x ps ih =>
    by_cases h : p x.1 = true
    · rw [List.filter_cons_of_pos (by simpa using h), cnt_cons, cnt_cons, ih]
      by_cases hx : x.1 = i
      · subst hx; simp [h]
      · simp [hx]
    · rw [List.filter_cons_of_neg (by simpa using h), cnt_cons, ih]
      by_cases hx : x.1 = i
      · subst hx; simp [h]
      · simp [hx]

theorem Gd.tail {x : Int × Int} {ps : List (Int × Int)} (h : Gd (x :: ps)) : Gd ps := ⟨h.srt.of_cons, fun y hy => h.pos y (by simp [hy])⟩
theorem Gd.head {x : Int × Int} {ps : List (Int × Int)} (h : Gd (x :: ps)) : ∀ y ∈ ps, x.1 < y.1 := (List.pairwise_cons.1 h.srt).1
theorem Gd.cnt_head {x : Int × Int} {ps : List (Int × Int)} (h : Gd (x :: ps)) : cnt (x :: ps) x.1 = x.2 := by
  rw [cnt_cons, if_pos rfl, cnt_zero fun y hy => by have := h.head y hy; omega]; omega
theorem Gd.cnt_under {x : Int × Int} {ps : List (Int × Int)} (h : Gd (x :: ps)) {i : Int} (hi : i < x.1) : cnt (x :: ps) i = 0 :=
  cnt_zero fun y hy => by
    rcases List.mem_cons.1 hy with rfl | hy
    · omega
    · have := h.head y hy; omega
theorem Gd.nil : Gd [] := ⟨List.Pairwise.nil, by simp⟩

/-- Two rows that have as many of each index are one. -/
theorem Gd.ext : ∀ {ps qs : List (Int × Int)}, Gd ps → Gd qs → (∀ i, cnt ps i = cnt qs i) → ps = qs
  | [], [], _, _, _ => rfl
  | [], y :: qs, _, h, e => by have := e y.1; rw [h.cnt_head, cnt_nil] at this; have := h.pos y (by simp); omega
  | x :: ps, [], h, _, e => by have := e x.1; rw [h.cnt_head, cnt_nil] at this; have := h.pos x (by simp); omega
  | x :: ps, y :: qs, h, k, e => by
    have px := h.pos x (by simp)
    have py := k.pos y (by simp)
    have e1 : x.1 = y.1 := by
      rcases Int.lt_trichotomy x.1 y.1 with hl | he | hl
      · have := e x.1; rw [h.cnt_head, k.cnt_under hl] at this; omega
      · exact he
      · have := e y.1; rw [k.cnt_head, h.cnt_under hl] at this; omega
    have e2 : x.2 = y.2 := by have := e x.1; rw [h.cnt_head, e1, k.cnt_head] at this; exact this
    have e3 : ps = qs := Gd.ext h.tail k.tail fun i => by
      have := e i
      rw [cnt_cons, cnt_cons, e1, e2] at this
      omega
    rw [e3, show x = y from Prod.ext e1 e2]

theorem sumP_split (ps : List (Int × Int)) (q : Int) : sumP ps = sumP (ps.filter fun x => decide (x.1 < q)) + cnt ps q + sumP (ps.filter fun x => decide (q < x.1)) := by
  induction ps with
  | nil => rfl
  | cons x ps ih =>
    rw [sumP_cons, cnt_cons, ih]
    rcases Int.lt_trichotomy x.1 q with h | h | h
    · simp [List.filter_cons, h, show ¬ x.1 = q by omega, show ¬ q < x.1 by omega, sumP_cons]; omega
    · simp [List.filter_cons, h, sumP_cons]; omega
    · simp [List.filter_cons, h, show ¬ x.1 = q by omega, show ¬ x.1 < q by omega, sumP_cons]; omega

theorem rowAdd_eq {ps : List (Int × Int)} {q c : Int} (h : Gd ps) (hc : 0 < c) (hs : cnt ps q + c < 18446744073709551616) :
    rowAdd ps q c = ps.filter (fun x => decide (x.1 < q)) ++ [(q, cnt ps q + c)] ++ ps.filter (fun x => decide (q < x.1)) := by
  have h0 := cnt_nonneg h.pos q
  unfold rowAdd
  rw [show sumP (ps.filter fun x => decide (x.1 = q)) = cnt ps q from rfl, Int.emod_eq_of_lt (by omega) hs, if_pos (by omega)]
theorem cnt_rowAdd {ps : List (Int × Int)} {q c : Int} (h : Gd ps) (hc : 0 < c) (hs : cnt ps q + c < 18446744073709551616) (i : Int) : cnt (rowAdd ps q c) i = cnt ps i + if i = q then c else 0 := by
  rw [rowAdd_eq h hc hs, cnt_append, cnt_append, cnt_filter (fun y => decide (y < q)), cnt_filter (fun y => decide (q < y)), cnt_cons, cnt_nil]
  dsimp only
  rcases Int.lt_trichotomy i q with hi | hi | hi
  · simp [hi, show ¬ q < i by omega, show ¬ q = i by omega, show ¬ i = q by omega]
  · subst hi; simp
  · simp [hi, show ¬ i < q by omega, show ¬ q = i by omega, show ¬ i = q by omega]
theorem sumP_rowAdd {ps : List (Int × Int)} {q c : Int} (h : Gd ps) (hc : 0 < c) (hs : cnt ps q + c < 18446744073709551616) : sumP (rowAdd ps q c) = sumP ps + c := by
  rw [rowAdd_eq h hc hs, sumP_append, sumP_append, sumP_cons, sumP_nil]
  have := sumP_split ps q
  dsimp only
  omega
theorem Gd.rowAdd {ps : List (Int × Int)} {q c : Int} (h : Gd ps) (hc : 0 < c) (hs : cnt ps q + c < 18446744073709551616) : Gd (rowAdd ps q c) := by
  have h0 := cnt_nonneg h.pos q
  rw [rowAdd_eq h hc hs]
  refine ⟨?_, ?_⟩
  · rw [List.pairwise_append, List.pairwise_append]
    refine ⟨⟨h.srt.filter _, by simp, ?_⟩, h.srt.filter _, ?_⟩
    · intro x hx y hy
      simp only [List.mem_filter, decide_eq_true_eq, List.mem_singleton] at hx hy
      subst hy
      exact hx.2
    · intro x hx y hy
      simp only [List.mem_append, List.mem_filter, decide_eq_true_eq, List.mem_singleton] at hx hy
      rcases hx with hx | rfl
      · have := hx.2; have := hy.2; omega
      · exact hy.2
  · intro x hx
    simp only [List.mem_append, List.mem_filter, List.mem_singleton] at hx
    rcases hx with (hx | rfl) | hx
    · exact h.pos x hx.1
    · show 0 < cnt ps q + c; omega
    · exact h.pos x hx.1
theorem rowAdd_ne {ps : List (Int × Int)} {q c : Int} (h : Gd ps) (hc : 0 < c) (hs : cnt ps q + c < 18446744073709551616) : rowAdd ps q c ≠ [] := by
  rw [rowAdd_eq h hc hs]; simp
theorem rowAdd_len {ps : List (Int × Int)} {q c : Int} : (rowAdd ps q c).length ≤ ps.length * 2 + 1 := by
  unfold rowAdd
  have h1 := List.length_filter_le (fun x : Int × Int => decide (x.1 < q)) ps
  have h2 := List.length_filter_le (fun x : Int × Int => decide (q < x.1)) ps
  rw [List.length_append, List.length_append]
  split <;> simp only [List.length_cons, List.length_nil] <;> omega
theorem okP_rowAdd {ps : List (Int × Int)} {q c : Int} (h : okP ps) (hq : -9223372036854775808 ≤ q ∧ q ≤ 9223372036854775807) : okP (rowAdd ps q c) := by
  intro x hx
  unfold rowAdd at hx
  simp only [List.mem_append, List.mem_filter] at hx
  rcases hx with (hx | hx) | hx
  · exact h x hx.1
  · split at hx
    · simp only [List.mem_singleton] at hx
      subst hx
      exact ⟨hq, by dsimp only; omega⟩
    · simp at hx
  · exact h x hx.1

/-- From the first index to the last one. -/
def span (ps : List (Int × Int)) : Int := (ps.getD (ps.length - 1) (0, 0)).1 - (ps.getD 0 (0, 0)).1

theorem Gd.le {ps : List (Int × Int)} (h : Gd ps) {i j : Nat} (hij : i ≤ j) (hj : j < ps.length) : (ps.getD i (0, 0)).1 ≤ (ps.getD j (0, 0)).1 := by
  rw [List.getD_eq_getElem?_getD, List.getD_eq_getElem?_getD, List.getElem?_eq_getElem (by omega), List.getElem?_eq_getElem hj]
  by_cases e : i = j
  · subst e; exact Int.le_refl _
  · exact Int.le_of_lt (List.pairwise_iff_getElem.1 h.srt i j (by omega) hj (by omega))
theorem getD_mem' {ps : List (Int × Int)} {i : Nat} (hi : i < ps.length) : ps.getD i (0, 0) ∈ ps := by
  rw [List.getD_eq_getElem?_getD, List.getElem?_eq_getElem hi]
  exact List.getElem_mem hi
theorem span_iff {ps : List (Int × Int)} (h : Gd ps) (hn : ps ≠ []) (k : Int) : span ps ≤ k ↔ ∀ i j, 0 < cnt ps i → 0 < cnt ps j → j - i ≤ k := by
  have hl := List.length_pos_iff.2 hn
  constructor
  · intro hs i j hi hj
    obtain ⟨x, hx, rfl⟩ := cnt_pos_mem hi
    obtain ⟨y, hy, rfl⟩ := cnt_pos_mem hj
    obtain ⟨a, ha, rfl⟩ := List.getElem_of_mem hx
    obtain ⟨b, hb, rfl⟩ := List.getElem_of_mem hy
    have h1 := h.le (i := 0) (j := a) (by omega) ha
    have h2 := h.le (i := b) (j := ps.length - 1) (by omega) (by omega)
    unfold span at hs
    rw [@List.getD_eq_getElem?_getD _ ps a, List.getElem?_eq_getElem ha] at h1
    rw [@List.getD_eq_getElem?_getD _ ps b, List.getElem?_eq_getElem hb] at h2
    dsimp only [Option.getD_some] at h1 h2
    omega
  · intro hs
    exact hs _ _ (cnt_mem_pos h.pos (getD_mem' hl)) (cnt_mem_pos h.pos (getD_mem' (by omega)))

theorem sumP_filter_le {ps : List (Int × Int)} (h : ∀ x ∈ ps, 0 < x.2) (p : Int × Int → Bool) : 0 ≤ sumP (ps.filter p) ∧ sumP (ps.filter p) ≤ sumP ps := by
  induction ps with
  | nil => exact ⟨Int.le_refl _, Int.le_refl _⟩
  | cons x ps ih =>
    have := ih fun y hy => h y (by simp [hy])
    have := h x (by simp)
    rw [List.filter_cons, sumP_cons]
    split
    · rw [sumP_cons]; omega
    · omega

theorem findP_zero (ps : List (Int × Int)) : ∀ s, findP 0 s ps = none := by
  induction ps with
  | nil => intro s; rfl
  | cons x ps ih => intro s; rw [findP, if_neg (by omega)]; exact ih _
/-- How many there are up to an index. -/
def upto (ps : List (Int × Int)) (q : Int) : Int := sumP (ps.filter fun x => decide (x.1 ≤ q))
theorem upto_le {ps : List (Int × Int)} (q : Int) (h : Gd ps) : 0 ≤ upto ps q ∧ upto ps q ≤ sumP ps := sumP_filter_le h.pos _

theorem findP_some {t : Int} : ∀ {ps : List (Int × Int)} {s i : Int}, Gd ps → 0 ≤ s → s < t → s + sumP ps < 18446744073709551616 → findP t s ps = some i → t ≤ s + upto ps i ∧ s + upto ps i - cnt ps i < t ∧ ∃ x ∈ ps, x.1 = i
  | [], s, i, _, _, _, _, h => by cases h
  | x :: ps, s, i, hg, h0, h1, h2, h => by
    have hx := hg.pos x (by simp)
    have hs := sumP_nonneg hg.tail.pos
    rw [sumP_cons] at h2
    rw [findP, Int.emod_eq_of_lt (by omega : 0 ≤ s + x.2) (by omega)] at h
    by_cases h4 : t ≤ s + x.2
    · rw [if_pos (by omega)] at h
      cases h
      have hu : upto (x :: ps) x.1 = x.2 := by
        unfold upto
        rw [List.filter_cons_of_pos (by simp), List.filter_eq_nil_iff.2, sumP_cons, sumP_nil, Int.add_zero]
        intro y hy
        have := hg.head y hy
        simp only [decide_eq_true_eq]; omega
      rw [hu, hg.cnt_head]
      exact ⟨h4, by omega, x, by simp, rfl⟩
    · rw [if_neg (by omega)] at h
      obtain ⟨a1, a2, y, hy, rfl⟩ := findP_some hg.tail (by omega) (by omega) (by omega) h
      have hu : upto (x :: ps) y.1 = x.2 + upto ps y.1 := by
        unfold upto
        rw [List.filter_cons_of_pos (by have := hg.head y hy; simp; omega), sumP_cons]
      have hc : cnt (x :: ps) y.1 = cnt ps y.1 := by
        rw [cnt_cons, if_neg (by have := hg.head y hy; omega)]; omega
      rw [hu, hc]
      exact ⟨by omega, by omega, y, by simp [hy], rfl⟩

theorem cnt_le_upto {ps : List (Int × Int)} (h : ∀ x ∈ ps, 0 < x.2) (q : Int) : cnt ps q ≤ upto ps q := by
  have : ps.filter (fun x => decide (x.1 = q)) = (ps.filter fun x => decide (x.1 ≤ q)).filter fun x => decide (x.1 = q) := by
    rw [List.filter_filter]
    refine List.filter_congr fun x _ => ?_
    by_cases e : x.1 = q
    · simp [e]
    · simp [e]
  unfold cnt upto
  rw [this]
  exact (sumP_filter_le (fun x hx => h x (List.mem_filter.1 hx).1) _).2
theorem rowAdd_nil {q c : Int} (h : 0 < c) (h' : c < 18446744073709551616) : rowAdd [] q c = [(q, c)] := by
  rw [rowAdd_eq Gd.nil h (by rw [cnt_nil]; omega), cnt_nil, Int.zero_add]; rfl
end Go.Proofs.YtondkkhagbcadaaGreat
