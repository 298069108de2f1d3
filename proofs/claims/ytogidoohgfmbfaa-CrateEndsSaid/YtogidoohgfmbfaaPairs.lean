/- Plain laws of rows of pairs and of counts side by side; no program in sight. -/
import Derived.Test.YtogidoohgfmbfaaCrateAdd
import Derived.Test.YtogidoohgfmbfaaApp
namespace Go.Proofs.Ytogidoohgfmbfaa

/-- How many of an index. -/
def cnt (ps : List (Int × Int)) (i : Int) : Int := sumP (ps.filter fun x => decide (x.1 = i))
/-- A row: indexes that rise; counts that are some. -/
structure Gd (ps : List (Int × Int)) : Prop where
  srt : ps.Pairwise fun x y => x.1 < y.1
  pos : ∀ x ∈ ps, 0 < x.2

theorem sumP_nil : sumP [] = 0 := rfl
theorem sumP_cons (x : Int × Int) (ps : List (Int × Int)) : sumP (x :: ps) = x.2 + sumP ps := by simp [sumP]
theorem sumP_append (ps qs : List (Int × Int)) : sumP (ps ++ qs) = sumP ps + sumP qs := by simp [sumP]
theorem cnt_nil (i : Int) : cnt [] i = 0 := rfl
theorem cnt_cons (x : Int × Int) (ps : List (Int × Int)) (i : Int) : cnt (x :: ps) i = (if x.1 = i then x.2 else 0) + cnt ps i := by
  unfold cnt
  by_cases h : x.1 = i
  · simp [h, sumP_cons]
  · simp [h]
theorem cnt_append (ps qs : List (Int × Int)) (i : Int) : cnt (ps ++ qs) i = cnt ps i + cnt qs i := by simp [cnt, sumP_append]
theorem cnt_nonneg {ps : List (Int × Int)} (h : ∀ x ∈ ps, 0 < x.2) (i : Int) : 0 ≤ cnt ps i := by
  induction ps with
  | nil => exact Int.le_refl _
  | cons x ps ih =>
    rw [cnt_cons]
    have := ih fun y hy => h y (by simp [hy])
    have := h x (by simp)
    split <;> omega
theorem cnt_le_sumP {ps : List (Int × Int)} (h : ∀ x ∈ ps, 0 < x.2) (i : Int) : cnt ps i ≤ sumP ps := by
  induction ps with
  | nil => exact Int.le_refl _
  | cons x ps ih =>
    rw [cnt_cons, sumP_cons]
    have := ih fun y hy => h y (by simp [hy])
    have := h x (by simp)
    split <;> omega
theorem sumP_nonneg {ps : List (Int × Int)} (h : ∀ x ∈ ps, 0 < x.2) : 0 ≤ sumP ps := Int.le_trans (cnt_nonneg h 0) (cnt_le_sumP h 0)
theorem cnt_zero {ps : List (Int × Int)} {i : Int} (h : ∀ x ∈ ps, x.1 ≠ i) : cnt ps i = 0 := by
  induction ps with
  | nil => rfl
  | cons x ps ih =>
    rw [cnt_cons, if_neg (h x (by simp)), ih fun y hy => h y (by simp [hy])]
    rfl
theorem cnt_pos_mem {ps : List (Int × Int)} {i : Int} (h : 0 < cnt ps i) : ∃ x ∈ ps, x.1 = i := by
  induction ps with
  | nil => rw [cnt_nil] at h; omega
  | cons x ps ih =>
    by_cases hx : x.1 = i
    · exact ⟨x, by simp, hx⟩
    · rw [cnt_cons, if_neg hx] at h
      obtain ⟨y, hy, e⟩ := ih (by omega)
      exact ⟨y, by simp [hy], e⟩
theorem cnt_mem_pos {ps : List (Int × Int)} (h : ∀ x ∈ ps, 0 < x.2) {x : Int × Int} (hx : x ∈ ps) : 0 < cnt ps x.1 := by
  induction ps with
  | nil => simp at hx
  | cons y ps ih =>
    rw [cnt_cons]
    have h' : ∀ x ∈ ps, 0 < x.2 := fun z hz => h z (by simp [hz])
    have := cnt_nonneg h' x.1
    rcases List.mem_cons.1 hx with rfl | hx
    · rw [if_pos rfl]; have := h x (by simp); omega
    · have := ih h' hx
      have := h y (by simp)
      split <;> omega
theorem cnt_filter (p : Int → Bool) (ps : List (Int × Int)) (i : Int) : cnt (ps.filter fun x => p x.1) i = if p i then cnt ps i else 0 := by
  induction ps with
  | nil => simp [cnt_nil]
  | cons x ps ih =>
    by_cases h : p x.1 = true
    · rw [List.filter_cons_of_pos (by simpa using h), cnt_cons, cnt_cons, ih]
      by_cases hx : x.1 = i
      · subst hx; simp [h]
      · simp [hx]
    · rw [List.filter_cons_of_neg (by simpa using h), cnt_cons, ih]
      by_cases hx : x.1 = i
      · subst hx; simp [h]
      · simp [hx]

theorem Gd.tail {x : Int × Int} {ps : List (Int × Int)} (h : Gd (x :: ps)) : Gd ps := ⟨h.srt.of_cons, fun y hy => h.pos y (by simp [hy])⟩
theorem Gd.head {x : Int × Int} {ps : List (Int × Int)} (h : Gd (x :: ps)) : ∀ y ∈ ps, x.1 < y.1 := (List.pairwise_cons.1 h.srt).1
theorem Gd.cnt_head {x : Int × Int} {ps : List (Int × Int)} (h : Gd (x :: ps)) : cnt (x :: ps) x.1 = x.2 := by
  rw [cnt_cons, if_pos rfl, cnt_zero fun y hy => by have := h.head y hy; omega]; omega
theorem Gd.cnt_under {x : Int × Int} {ps : List (Int × Int)} (h : Gd (x :: ps)) {i : Int} (hi : i < x.1) : cnt (x :: ps) i = 0 :=
  cnt_zero fun y hy => by
    rcases List.mem_cons.1 hy with rfl | hy
    · omega
    · have := h.head y hy; omega
theorem Gd.nil : Gd [] := ⟨List.Pairwise.nil, by simp⟩

/-- Two rows that have as many of each index are one. -/
theorem Gd.ext : ∀ {ps qs : List (Int × Int)}, Gd ps → Gd qs → (∀ i, cnt ps i = cnt qs i) → ps = qs
  | [], [], _, _, _ => rfl
  | [], y :: qs, _, h, e => by have := e y.1; rw [h.cnt_head, cnt_nil] at this; have := h.pos y (by simp); omega
  | x :: ps, [], h, _, e => by have := e x.1; rw [h.cnt_head, cnt_nil] at this; have := h.pos x (by simp); omega
  | x :: ps, y :: qs, h, k, e => by
    have px := h.pos x (by simp)
    have py := k.pos y (by simp)
    have e1 : x.1 = y.1 := by
      rcases Int.lt_trichotomy x.1 y.1 with hl | he | hl
      · have := e x.1; rw [h.cnt_head, k.cnt_under hl] at this; omega
      · exact he
      · have := e y.1; rw [k.cnt_head, h.cnt_under hl] at this; omega
    have e2 : x.2 = y.2 := by have := e x.1; rw [h.cnt_head, e1, k.cnt_head] at this; exact this
    have e3 : ps = qs := Gd.ext h.tail k.tail fun i => by
      have := e i
      rw [cnt_cons, cnt_cons, e1, e2] at this
      omega
    rw [e3, show x = y from Prod.ext e1 e2]

theorem sumP_split (ps : List (Int × Int)) (q : Int) : sumP ps = sumP (ps.filter fun x => decide (x.1 < q)) + cnt ps q + sumP (ps.filter fun x => decide (q < x.1)) := by
  induction ps with
  | nil => rfl
  | cons x ps ih =>
    rw [sumP_cons, cnt_cons, ih]
    rcases Int.lt_trichotomy x.1 q with h | h | h
    · simp [List.filter_cons, h, show ¬ x.1 = q by omega, show ¬ q < x.1 by omega, sumP_cons]; omega
    · simp [List.filter_cons, h, sumP_cons]; omega
    · simp [List.filter_cons, h, show ¬ x.1 = q by omega, show ¬ x.1 < q by omega, sumP_cons]; omega

theorem rowAdd_eq {ps : List (Int × Int)} {q c : Int} (h : Gd ps) (hc : 0 < c) (hs : cnt ps q + c < 18446744073709551616) :
    rowAdd ps q c = ps.filter (fun x => decide (x.1 < q)) ++ [(q, cnt ps q + c)] ++ ps.filter (fun x => decide (q < x.1)) := by
  have h0 := cnt_nonneg h.pos q
  unfold rowAdd
  rw [show sumP (ps.filter fun x => decide (x.1 = q)) = cnt ps q from rfl, Int.emod_eq_of_lt (by omega) hs, if_pos (by omega)]
theorem cnt_rowAdd {ps : List (Int × Int)} {q c : Int} (h : Gd ps) (hc : 0 < c) (hs : cnt ps q + c < 18446744073709551616) (i : Int) : cnt (rowAdd ps q c) i = cnt ps i + if i = q then c else 0 := by
  rw [rowAdd_eq h hc hs, cnt_append, cnt_append, cnt_filter (fun y => decide (y < q)), cnt_filter (fun y => decide (q < y)), cnt_cons, cnt_nil]
  dsimp only
  rcases Int.lt_trichotomy i q with hi | hi | hi
  · simp [hi, show ¬ q < i by omega, show ¬ q = i by omega, show ¬ i = q by omega]
  · subst hi; simp
  · simp [hi, show ¬ i < q by omega, show ¬ q = i by omega, show ¬ i = q by omega]
theorem sumP_rowAdd {ps : List (Int × Int)} {q c : Int} (h : Gd ps) (hc : 0 < c) (hs : cnt ps q + c < 18446744073709551616) : sumP (rowAdd ps q c) = sumP ps + c := by
  rw [rowAdd_eq h hc hs, sumP_append, sumP_append, sumP_cons, sumP_nil]
  have := sumP_split ps q
  dsimp only
  omega
theorem Gd.rowAdd {ps : List (Int × Int)} {q c : Int} (h : Gd ps) (hc : 0 < c) (hs : cnt ps q + c < 18446744073709551616) : Gd (rowAdd ps q c) := by
  have h0 := cnt_nonneg h.pos q
  rw [rowAdd_eq h hc hs]
  refine ⟨?_, ?_⟩
  · rw [List.pairwise_append, List.pairwise_append]
    refine ⟨⟨h.srt.filter _, by simp, ?_⟩, h.srt.filter _, ?_⟩
    · intro x hx y hy
      simp only [List.mem_filter, decide_eq_true_eq, List.mem_singleton] at hx hy
      subst hy
      exact hx.2
    · intro x hx y hy
      simp only [List.mem_append, List.mem_filter, decide_eq_true_eq, List.mem_singleton] at hx hy
      rcases hx with hx | rfl
      · have := hx.2; have := hy.2; omega
      · exact hy.2
  · intro x hx
    simp only [List.mem_append, List.mem_filter, List.mem_singleton] at hx
    rcases hx with (hx | rfl) | hx
    · exact h.pos x hx.1
    · show 0 < cnt ps q + c; omega
    · exact h.pos x hx.1
theorem rowAdd_ne {ps : List (Int × Int)} {q c : Int} (h : Gd ps) (hc : 0 < c) (hs : cnt ps q + c < 18446744073709551616) : rowAdd ps q c ≠ [] := by
  rw [rowAdd_eq h hc hs]; simp
theorem rowAdd_len {ps : List (Int × Int)} {q c : Int} : (rowAdd ps q c).length ≤ ps.length * 2 + 1 := by
  unfold rowAdd
  have h1 := List.length_filter_le (fun x : Int × Int => decide (x.1 < q)) ps
  have h2 := List.length_filter_le (fun x : Int × Int => decide (q < x.1)) ps
  rw [List.length_append, List.length_append]
  split <;> simp only [List.length_cons, List.length_nil] <;> omega
theorem okP_rowAdd {ps : List (Int × Int)} {q c : Int} (h : okP ps) (hq : -9223372036854775808 ≤ q ∧ q ≤ 9223372036854775807) : okP (rowAdd ps q c) := by
  intro x hx
  unfold rowAdd at hx
  simp only [List.mem_append, List.mem_filter] at hx
  rcases hx with (hx | hx) | hx
  · exact h x hx.1
  · split at hx
    · simp only [List.mem_singleton] at hx
      subst hx
      exact ⟨hq, by dsimp only; omega⟩
    · simp at hx
  · exact h x hx.1

/-- From the first index to the last one. -/
def span (ps : List (Int × Int)) : Int := (ps.getD (ps.length - 1) (0, 0)).1 - (ps.getD 0 (0, 0)).1

theorem Gd.le {ps : List (Int × Int)} (h : Gd ps) {i j : Nat} (hij : i ≤ j) (hj : j < ps.length) : (ps.getD i (0, 0)).1 ≤ (ps.getD j (0, 0)).1 := by
  rw [List.getD_eq_getElem?_getD, List.getD_eq_getElem?_getD, List.getElem?_eq_getElem (by omega), List.getElem?_eq_getElem hj]
  by_cases e : i = j
  · subst e; exact Int.le_refl _
  · exact Int.le_of_lt (List.pairwise_iff_getElem.1 h.srt i j (by omega) hj (by omega))
theorem getD_mem' {ps : List (Int × Int)} {i : Nat} (hi : i < ps.length) : ps.getD i (0, 0) ∈ ps := by
  rw [List.getD_eq_getElem?_getD, List.getElem?_eq_getElem hi]
  exact List.getElem_mem hi
theorem span_iff {ps : List (Int × Int)} (h : Gd ps) (hn : ps ≠ []) (k : Int) : span ps ≤ k ↔ ∀ i j, 0 < cnt ps i → 0 < cnt ps j → j - i ≤ k := by
  have hl := List.length_pos_iff.2 hn
  constructor
  · intro hs i j hi hj
    obtain ⟨x, hx, rfl⟩ := cnt_pos_mem hi
    obtain ⟨y, hy, rfl⟩ := cnt_pos_mem hj
    obtain ⟨a, ha, rfl⟩ := List.getElem_of_mem hx
    obtain ⟨b, hb, rfl⟩ := List.getElem_of_mem hy
    have h1 := h.le (i := 0) (j := a) (by omega) ha
    have h2 := h.le (i := b) (j := ps.length - 1) (by omega) (by omega)
    unfold span at hs
    rw [@List.getD_eq_getElem?_getD _ ps a, List.getElem?_eq_getElem ha] at h1
    rw [@List.getD_eq_getElem?_getD _ ps b, List.getElem?_eq_getElem hb] at h2
    dsimp only [Option.getD_some] at h1 h2
    omega
  · intro hs
    exact hs _ _ (cnt_mem_pos h.pos (getD_mem' hl)) (cnt_mem_pos h.pos (getD_mem' (by omega)))

/-- The counts that are some, with their indexes. -/
def pairsC : Int → List Int → List (Int × Int)
  | _, [] => []
  | f, c :: cs => if 0 < c then (f, c) :: pairsC (f + 1) cs else pairsC (f + 1) cs

theorem pairsC_mem {cs : List Int} : ∀ {f : Int} {x : Int × Int}, x ∈ pairsC f cs → f ≤ x.1 ∧ x.1 < f + cs.length ∧ 0 < x.2 ∧ x.2 ∈ cs := by
  induction cs with
  | nil => intro f x h; simp [pairsC] at h
  | cons c cs ih =>
    intro f x h
    simp only [pairsC] at h
    simp only [List.length_cons, List.mem_cons]
    split at h
    · rcases List.mem_cons.1 h with rfl | h
      · exact ⟨by dsimp only; omega, by dsimp only; omega, by dsimp only; omega, .inl rfl⟩
      · have := ih h
        exact ⟨by omega, by omega, this.2.2.1, .inr this.2.2.2⟩
    · have := ih h
      exact ⟨by omega, by omega, this.2.2.1, .inr this.2.2.2⟩
theorem gd_pairsC (cs : List Int) : ∀ f, Gd (pairsC f cs) := by
  induction cs with
  | nil => intro f; exact Gd.nil
  | cons c cs ih =>
    intro f
    simp only [pairsC]
    split
    · exact ⟨List.pairwise_cons.2 ⟨fun y hy => by have := pairsC_mem hy; dsimp only; omega, (ih _).srt⟩, fun x hx => by
        rcases List.mem_cons.1 hx with rfl | hx
        · assumption
        · exact (ih _).pos x hx⟩
    · exact ih _
theorem pairsC_length (cs : List Int) : ∀ f, (pairsC f cs).length ≤ cs.length := by
  induction cs with
  | nil => intro f; exact Nat.le_refl _
  | cons c cs ih =>
    intro f
    have := ih (f + 1)
    simp only [pairsC, List.length_cons]
    split
    · simp only [List.length_cons]; omega
    · omega
theorem sumP_pairsC (cs : List Int) : ∀ f, (∀ c ∈ cs, 0 ≤ c) → sumP (pairsC f cs) = cs.sum := by
  induction cs with
  | nil => intro f _; rfl
  | cons c cs ih =>
    intro f h
    have := ih (f + 1) fun c hc => h c (by simp [hc])
    have := h c (by simp)
    simp only [pairsC, List.sum_cons]
    split
    · rw [sumP_cons]; dsimp only; omega
    · omega
theorem crAt_cons (f c : Int) (cs : List Int) (i : Int) : crAt f (c :: cs) i = if i = f then c else crAt (f + 1) cs i := by
  unfold crAt
  simp only [List.length_cons]
  by_cases h : i = f
  · subst h
    rw [if_pos (by omega), if_pos rfl, show (i - i).toNat = 0 by omega]
    rfl
  · rw [if_neg h]
    by_cases h2 : f ≤ i ∧ i < f + (cs.length + 1 : Nat)
    · rw [if_pos (by omega), if_pos (by omega), show (i - f).toNat = (i - (f + 1)).toNat + 1 by omega]
      rfl
    · rw [if_neg (by omega), if_neg (by omega)]
theorem crAt_nil (f i : Int) : crAt f [] i = 0 := by
  unfold crAt
  split <;> rfl
theorem cnt_pairsC (cs : List Int) : ∀ f, (∀ c ∈ cs, 0 ≤ c) → ∀ i, cnt (pairsC f cs) i = crAt f cs i := by
  induction cs with
  | nil => intro f _ i; rw [crAt_nil]; rfl
  | cons c cs ih =>
    intro f h i
    have hi := ih (f + 1) (fun c hc => h c (by simp [hc])) i
    have := h c (by simp)
    rw [crAt_cons]
    simp only [pairsC]
    split
    · rw [cnt_cons]
      dsimp only
      by_cases e : f = i
      · subst e
        rw [if_pos rfl, if_pos rfl, cnt_zero fun x hx => by have := pairsC_mem hx; omega]
        omega
      · rw [if_neg e, if_neg (by omega)]; omega
    · by_cases e : i = f
      · subst e
        rw [if_pos rfl, cnt_zero fun x hx => by have := pairsC_mem hx; omega]
        omega
      · rw [if_neg e, hi]

theorem getD_pad (a b : Nat) (cs : List Int) (k : Nat) : (List.replicate a (0 : Int) ++ cs ++ List.replicate b 0).getD k 0 = if a ≤ k then cs.getD (k - a) 0 else 0 := by
  simp only [List.getD_eq_getElem?_getD, List.getElem?_append, List.length_append, List.length_replicate, List.getElem?_replicate]
  by_cases h : k < a
  · rw [if_pos (by omega), if_pos (by omega), if_pos (by omega), if_neg (by omega)]; rfl
  · by_cases h2 : k < a + cs.length
    · rw [if_pos (by omega), if_neg (by omega), if_pos (by omega)]
    · rw [if_neg (by omega), List.getElem?_eq_none (l := cs) (by omega)]
      split <;> split <;> rfl

theorem crAt_out {f i : Int} {cs : List Int} (h : ¬ (f ≤ i ∧ i < f + cs.length)) : crAt f cs i = 0 := if_neg h
theorem crAt_eq {f i : Int} {cs : List Int} (h : f ≤ i) : crAt f cs i = cs.getD (i - f).toNat 0 := by
  unfold crAt
  split
  · rfl
  · rw [List.getD_eq_getElem?_getD, List.getElem?_eq_none (by omega)]; rfl
theorem crAt_row (f q : Int) (cs : List Int) (i : Int) : crAt (crF f q cs) (crRow f q cs) i = crAt f cs i := by
  unfold crF crRow
  by_cases hn : cs = []
  · subst hn
    rw [if_pos rfl, if_pos rfl, crAt_nil, crAt_cons, crAt_nil]
    split <;> rfl
  · rw [if_neg hn, if_neg hn]
    have hl : crLow f q ≤ f := by unfold crLow; omega
    by_cases h : crLow f q ≤ i
    · rw [crAt_eq h]
      unfold crExt
      rw [getD_pad]
      by_cases h2 : f ≤ i
      · rw [if_pos (by omega), crAt_eq h2, show (i - crLow f q).toNat - (f - crLow f q).toNat = (i - f).toNat by omega]
      · rw [if_neg (by omega), crAt_out (by omega)]
    · rw [crAt_out (by omega), crAt_out (by omega)]
theorem crAt_add (f q c : Int) (cs : List Int) (i : Int) : crAt (crF f q cs) (crAdd f q c cs) i = crAt f cs i + if i = q then c else 0 := by
  obtain ⟨h1, h2⟩ := crF_le f q cs
  rw [← crAt_row f q cs i]
  unfold crAdd
  generalize crF f q cs = F at *
  generalize crRow f q cs = xs at *
  by_cases h : F ≤ i
  · rw [crAt_eq h, crAt_eq h, List.getD_eq_getElem?_getD, List.getElem?_set]
    by_cases e : i = q
    · subst e
      rw [if_pos rfl, if_pos (by omega), if_pos rfl]
      rfl
    · rw [if_neg (by omega), if_neg e, List.getD_eq_getElem?_getD]; omega
  · rw [crAt_out (by omega), crAt_out (by omega), if_neg (by omega)]; rfl

/-- A crate that additions have made. -/
structure CrInv (f : Int) (cs : List Int) (tot : Int) : Prop where
  ok : CrOk f cs tot
  sum : cs.sum = tot
  first : cs ≠ [] → 0 < cs.getD 0 0
  last : cs ≠ [] → 0 < cs.getD (cs.length - 1) 0

theorem CrInv.nil : CrInv 0 [] 0 := ⟨⟨by omega, by simp, by omega, by simp, by simp, by omega, by omega⟩, rfl, fun h => absurd rfl h, fun h => absurd rfl h⟩
theorem CrInv.pos {f tot : Int} {cs : List Int} (h : CrInv f cs tot) : ∀ c ∈ cs, 0 ≤ c := fun c hc => (h.ok.pos c hc).1
theorem CrInv.sumP {f tot : Int} {cs : List Int} (h : CrInv f cs tot) : sumP (pairsC f cs) = tot := (sumP_pairsC cs f h.pos).trans h.sum
theorem CrInv.cnt {f tot : Int} {cs : List Int} (h : CrInv f cs tot) (i : Int) : cnt (pairsC f cs) i = crAt f cs i := cnt_pairsC cs f h.pos i
theorem CrInv.okP {f tot : Int} {cs : List Int} (h : CrInv f cs tot) : okP (pairsC f cs) := fun x hx => by
  have h1 := pairsC_mem hx
  have h2 := h.ok.pos _ h1.2.2.2
  have := h.ok.lo
  have := h.ok.hi
  have := h.ok.tot1
  exact ⟨⟨by omega, by omega⟩, by omega, by omega⟩
theorem CrInv.cnt_le {f tot : Int} {cs : List Int} (h : CrInv f cs tot) (i : Int) : Go.Proofs.Ytogidoohgfmbfaa.cnt (pairsC f cs) i ≤ tot := by
  have := cnt_le_sumP (gd_pairsC cs f).pos i
  rw [h.sumP] at this
  exact this

/-- The row has room. -/
def rowRoom (ps : List (Int × Int)) (q c : Int) : Prop := c ≤ 9223372036854775807 - sumP ps ∧ span (rowAdd ps q c) ≤ 4095

theorem crRoom_iff {f tot q c : Int} {cs : List Int} (h : CrInv f cs tot) (hc : 0 < c) : crRoom f q c tot cs ↔ rowRoom (pairsC f cs) q c := by
  unfold crRoom rowRoom
  rw [h.sumP]
  by_cases ht : tot + c ≤ 9223372036854775807
  · have hg := gd_pairsC cs f
    have hcl := h.cnt_le q
    rw [span_iff (hg.rowAdd (q := q) hc (by omega)) (rowAdd_ne hg hc (by omega))]
    have hca : ∀ i, cnt (rowAdd (pairsC f cs) q c) i = crAt f cs i + if i = q then c else 0 := fun i => by rw [cnt_rowAdd hg hc (by omega), h.cnt]
    constructor
    · rintro ⟨_, h2⟩
      refine ⟨by omega, fun i j hi hj => ?_⟩
      rw [hca] at hi hj
      have key : ∀ i, 0 < crAt f cs i + (if i = q then c else 0) → i = q ∨ (f ≤ i ∧ i < f + cs.length) := by
        intro i hi
        by_cases e : i = q
        · exact .inl e
        · rw [if_neg e] at hi
          by_cases h3 : f ≤ i ∧ i < f + cs.length
          · exact .inr h3
          · rw [crAt_out h3] at hi; omega
      have ki := key i hi
      have kj := key j hj
      by_cases hn : cs = []
      · subst hn
        simp only [List.length_nil] at ki kj
        omega
      · have := h2 hn
        unfold crHigh crLow at this
        omega
    · rintro ⟨_, h2⟩
      refine ⟨ht, fun hn => ?_⟩
      have hl := List.length_pos_iff.2 hn
      have hq : 0 < cnt (rowAdd (pairsC f cs) q c) q := by
        rw [hca, if_pos rfl]
        have := cnt_nonneg hg.pos q
        rw [h.cnt] at this
        omega
      have hf : 0 < cnt (rowAdd (pairsC f cs) q c) f := by
        rw [hca, crAt_eq (Int.le_refl _), show (f - f).toNat = 0 by omega]
        have := h.first hn
        split <;> omega
      have hh : 0 < cnt (rowAdd (pairsC f cs) q c) (f + cs.length - 1) := by
        rw [hca, crAt_eq (by omega), show (f + cs.length - 1 - f).toNat = cs.length - 1 by omega]
        have := h.last hn
        split <;> omega
      have h1 := h2 _ _ hq hh
      have h3 := h2 _ _ hf hq
      have h4 := h2 _ _ hf hh
      unfold crHigh crLow
      omega
  · constructor
    · rintro ⟨h1, _⟩; omega
    · rintro ⟨h1, _⟩; omega

theorem crAdd_length (f q c : Int) (cs : List Int) : (crAdd f q c cs).length = (crRow f q cs).length := by unfold crAdd; rw [List.length_set]
theorem crAdd_mem {f q c : Int} {cs : List Int} {d : Int} (h : d ∈ crAdd f q c cs) : ∃ i, d = crAt f cs i + if i = q then c else 0 := by
  obtain ⟨k, hk, rfl⟩ := List.getElem_of_mem h
  refine ⟨crF f q cs + k, ?_⟩
  rw [← crAt_add, crAt_eq (by omega), show (crF f q cs + k - crF f q cs).toNat = k by omega, List.getD_eq_getElem?_getD, List.getElem?_eq_getElem hk]
  rfl
theorem crRow_nil (f q : Int) : crRow f q [] = [0] := if_pos rfl
theorem crF_nil (f q : Int) : crF f q [] = q := if_pos rfl

theorem CrInv.pairs {f tot q c : Int} {cs : List Int} (h : CrInv f cs tot) (hc : 0 < c) (hr : crRoom f q c tot cs) : pairsC (crF f q cs) (crAdd f q c cs) = rowAdd (pairsC f cs) q c := by
  have hg := gd_pairsC cs f
  have hcl := h.cnt_le q
  have ht := hr.1
  have := h.ok.tot1
  refine Gd.ext (gd_pairsC _ _) (hg.rowAdd hc (by omega)) fun i => ?_
  rw [cnt_rowAdd hg hc (by omega), h.cnt, ← crAt_add, cnt_pairsC]
  intro d hd
  obtain ⟨i, rfl⟩ := crAdd_mem hd
  have := cnt_nonneg hg.pos i
  rw [h.cnt] at this
  split <;> omega
theorem CrInv.add {f tot q c : Int} {cs : List Int} (h : CrInv f cs tot) (hc : 0 < c) (hr : crRoom f q c tot cs) (hq0 : -9223372036854775808 ≤ q) (hq1 : q ≤ 9223372036854775807) : CrInv (crF f q cs) (crAdd f q c cs) (tot + c) := by
  have hg := gd_pairsC cs f
  have hcl := h.cnt_le q
  have ht := hr.1
  have o1 := h.ok.lo
  have o2 := h.ok.hi
  have o3 := h.ok.top
  have o6 := h.ok.tot0
  have o7 := h.ok.tot1
  have hpos : ∀ d ∈ crAdd f q c cs, 0 ≤ d ∧ d ≤ tot + c := by
    intro d hd
    obtain ⟨i, rfl⟩ := crAdd_mem hd
    have h1 := cnt_nonneg hg.pos i
    have h2 := h.cnt_le i
    rw [h.cnt] at h1 h2
    split <;> omega
  have hlen : ((crAdd f q c cs).length : Int) = if cs = [] then 1 else crHigh f cs.length q - crLow f q + 1 := by rw [crAdd_length, crRow_length]
  have hF : crF f q cs = if cs = [] then q else crLow f q := rfl
  have hsum : (crAdd f q c cs).sum = tot + c := by
    rw [← sumP_pairsC _ (crF f q cs) fun d hd => (hpos d hd).1, h.pairs hc hr, sumP_rowAdd hg hc (by omega), h.sumP]
  have hat : ∀ i, crF f q cs ≤ i → (crAdd f q c cs).getD (i - crF f q cs).toNat 0 = crAt f cs i + if i = q then c else 0 := fun i hi => by rw [← crAt_eq hi, crAt_add]
  have hq : 0 < crAt f cs q + c := by
    have := cnt_nonneg hg.pos q
    rw [h.cnt] at this
    omega
  have hmp : ∀ i, 0 < crAt f cs i → 0 < crAt f cs i + if i = q then c else 0 := fun i hi => by split <;> omega
  refine ⟨⟨?_, ?_, ?_, ?_, hpos, by omega, ht⟩, hsum, fun _ => ?_, fun _ => ?_⟩
  · rw [hF]; unfold crLow; split <;> omega
  · rw [hF, hlen]; unfold crLow crHigh; split
    · omega
    · have := List.length_pos_iff.2 (by assumption); omega
  · rw [hF]; unfold crLow; split <;> omega
  · have := hlen
    by_cases hn : cs = []
    · rw [if_pos hn] at this; omega
    · rw [if_neg hn] at this; have := hr.2 hn; omega
  · have e := hat (crF f q cs) (Int.le_refl _)
    rw [show (crF f q cs - crF f q cs).toNat = 0 by omega] at e
    rw [e, hF]
    by_cases hn : cs = []
    · rw [if_pos hn, if_pos rfl]; exact hq
    · rw [if_neg hn]
      rcases (show crLow f q = q ∨ crLow f q = f by unfold crLow; omega) with e | e
      · rw [e, if_pos rfl]; exact hq
      · rw [e]
        refine hmp _ ?_
        rw [crAt_eq (Int.le_refl _), show (f - f).toNat = 0 by omega]
        exact h.first hn
  · by_cases hn : cs = []
    · subst hn
      have e := hat q (by rw [crF_nil]; omega)
      rw [crF_nil, show (q - q).toNat = 0 by omega] at e
      rw [if_pos rfl] at hlen
      rw [show (crAdd f q c []).length - 1 = 0 by omega, e, if_pos rfl]
      exact hq
    · rw [if_neg hn] at hlen
      have hl := List.length_pos_iff.2 hn
      have hF' : crF f q cs = crLow f q := if_neg hn
      have hlo : crLow f q ≤ crHigh f cs.length q := by unfold crLow crHigh; omega
      have e := hat (crHigh f cs.length q) (by omega)
      rw [show (crHigh f cs.length q - crF f q cs).toNat = (crAdd f q c cs).length - 1 by omega] at e
      rw [e]
      rcases (show crHigh f cs.length q = q ∨ crHigh f cs.length q = f + cs.length - 1 by unfold crHigh; omega) with e | e
      · rw [e, if_pos rfl]; exact hq
      · rw [e]
        refine hmp _ ?_
        rw [crAt_eq (by omega), show (f + cs.length - 1 - f).toNat = cs.length - 1 by omega]
        exact h.last hn
end Go.Proofs.Ytogidoohgfmbfaa

