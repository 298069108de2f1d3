/- Plain laws: a text reads alike by share and by the document. -/
import Derived.Test.YtadnnpjnmfddmaaRead
namespace Go.Proofs.Ytadnnpjnmfddmaa

/-- A number's digits: may they go on so? -/
def okN (dig : Nat) (n : Int) : List Nat → Bool
  | [] => true
  | c :: l => decide (48 ≤ c ∧ c ≤ 57 ∧ dig < 18 ∧ (dig = 0 ∨ 0 < n)) && okN (dig + 1) ((10 * n + ((c : Int) - 48)) % 18446744073709551616) l
def valN (n : Int) : List Nat → Int
  | [] => n
  | c :: l => valN ((10 * n + ((c : Int) - 48)) % 18446744073709551616) l
def isDig (c : Nat) : Bool := decide (48 ≤ c ∧ c ≤ 57)

/-- The number that digits are, as the document reads it. -/
def numD (n : Int) : List Nat → Option Int
  | [] => some n
  | c :: l => if c < 48 ∨ 57 < c then none else numD ((10 * n + ((c : Int) - 48)) % 18446744073709551616) l
def numberF (l : List Nat) : Int × Bool :=
  if l.length < 1 ∨ 18 < l.length ∨ (1 < l.length ∧ l.getD 0 0 = 48) then (0, false) else match numD 0 l with
    | some n => (n, true)
    | none => (0, false)

/-- Where the first stroke stands. -/
def idx47 : List Nat → Option Nat
  | [] => none
  | c :: l => if c = 47 then some 0 else (idx47 l).map (· + 1)
def refPair (l : List Nat) : (Int × Int) × Bool := match idx47 l with
  | none => ((0, 0), false)
  | some i => (((numberF (l.take i)).1, (numberF (l.drop (i + 1))).1), (numberF (l.take i)).2 && (numberF (l.drop (i + 1))).2)
def refP2 (l : List Nat) : (Int × Int) × Bool := if 0 < l.length ∧ l.getD (l.length - 1) 0 = 37 then (((numberF (l.take (l.length - 1))).1, 100), (numberF (l.take (l.length - 1))).2) else refPair l
def refEnd (r : (Int × Int) × Bool) : (Int × Int) × Bool := if r.2 = false ∨ goodF r.1.1 r.1.2 = false then ((0, 0), false) else (r.1, true)

theorem readF_one (n0 : Int) : ∀ (l : List Nat) (n1 : Int) (dig : Nat), readF n0 n1 1 dig l = if okN dig n1 l = true then some (n0, valN n1 l, 1, dig + l.length) else none := by
  intro l
  induction l with
  | nil => intro n1 dig; rfl
  | cons c l ih =>
    intro n1 dig
    rw [readF, okN]
    simp only [Nat.one_ne_zero, if_false, false_and, and_false, List.length_cons]
    by_cases h : 48 ≤ c ∧ c ≤ 57 ∧ dig < 18 ∧ (dig = 0 ∨ 0 < n1)
    · rw [if_pos h, ih, decide_eq_true h, Bool.true_and, valN, show dig + 1 + l.length = dig + (l.length + 1) by omega]
    · rw [if_neg h, decide_eq_false h, Bool.false_and]
      simp

/-- Behind the digits of the first number. -/
def restF (n0 : Int) (dig : Nat) : List Nat → Option (Int × Int × Nat × Nat)
  | [] => some (n0, 0, 0, dig)
  | c :: l => if c = 47 ∧ 0 < dig then readF n0 0 1 0 l else if c = 37 ∧ 0 < dig ∧ l = [] then some (n0, 100, 1, dig) else none
theorem readF_zero : ∀ (u rest : List Nat) (n0 : Int) (dig : Nat), (∀ c ∈ u, isDig c = true) → (∀ c l, rest = c :: l → isDig c = false) →
    readF n0 0 0 dig (u ++ rest) = if okN dig n0 u = true then restF (valN n0 u) (dig + u.length) rest else none := by
  intro u
  induction u with
  | nil =>
    intro rest n0 dig _ hr
    rw [List.nil_append, okN, if_pos rfl, valN, List.length_nil, Nat.add_zero]
    cases rest with
    | nil => rfl
    | cons c l =>
      have h := hr c l rfl
      unfold isDig at h
      rw [decide_eq_false_iff_not] at h
      rw [readF, restF, if_neg (fun x => h ⟨x.1, x.2.1⟩)]
      simp only [true_and]
      by_cases h1 : c = 47 ∧ 0 < dig
      · rw [if_pos h1, if_pos h1]
      · rw [if_neg h1, if_neg h1]
        by_cases h2 : c = 37 ∧ 0 < dig ∧ l = []
        · rw [if_pos h2, if_pos h2, h2.2.2]; rfl
        · rw [if_neg h2, if_neg h2]
  | cons c u ih =>
    intro rest n0 dig hu hr
    have hc := hu c (by simp)
    unfold isDig at hc
    rw [decide_eq_true_eq] at hc
    rw [List.cons_append, readF, okN]
    simp only [if_true, List.length_cons]
    by_cases h : 48 ≤ c ∧ c ≤ 57 ∧ dig < 18 ∧ (dig = 0 ∨ 0 < n0)
    · rw [if_pos h, ih _ _ _ (fun d hd => hu d (by simp [hd])) hr, decide_eq_true h, Bool.true_and, valN, show dig + 1 + u.length = dig + (u.length + 1) by omega]
    · rw [if_neg h, decide_eq_false h, Bool.false_and, if_neg (by omega), if_neg (by omega)]
      simp

theorem numD_eq : ∀ (l : List Nat) (n : Int), numD n l = if l.all isDig = true then some (valN n l) else none := by
  intro l
  induction l with
  | nil => intro n; rfl
  | cons c l ih =>
    intro n
    rw [numD, valN, List.all_cons]
    by_cases h : c < 48 ∨ 57 < c
    · rw [if_pos h, show isDig c = false by unfold isDig; rw [decide_eq_false_iff_not]; omega, Bool.false_and]; rfl
    · rw [if_neg h, ih, show isDig c = true by unfold isDig; rw [decide_eq_true_eq]; omega, Bool.true_and]

theorem okN_pos : ∀ (l : List Nat) (n : Int) (dig : Nat), 1 ≤ dig → 0 < n → n < 10 ^ dig → dig ≤ 18 → (okN dig n l = true ↔ l.all isDig = true ∧ dig + l.length ≤ 18) := by
  intro l
  induction l with
  | nil => intro n dig _ _ _ h; simp [okN, h]
  | cons c l ih =>
    intro n dig h1 h2 h3 h4
    rw [okN, List.all_cons, Bool.and_eq_true, Bool.and_eq_true, decide_eq_true_eq, List.length_cons]
    by_cases hc : 48 ≤ c ∧ c ≤ 57
    · rw [show isDig c = true by unfold isDig; exact decide_eq_true hc]
      by_cases hd : dig < 18
      · have hp : (10 : Int) ^ (dig + 1) = 10 * 10 ^ dig := by rw [Int.pow_succ, Int.mul_comm]
        have hb : (10 : Int) ^ (dig + 1) ≤ 10 ^ 18 := by
          have : (10 : Nat) ^ (dig + 1) ≤ 10 ^ 18 := Nat.pow_le_pow_right (by omega) (by omega)
          exact_mod_cast this
        have hm : (10 * n + ((c : Int) - 48)) % 18446744073709551616 = 10 * n + ((c : Int) - 48) := Int.emod_eq_of_lt (by omega) (by omega)
        rw [hm, ih _ (dig + 1) (by omega) (by omega) (by omega) (by omega)]
        constructor
        · rintro ⟨_, a, b⟩; exact ⟨⟨rfl, a⟩, by omega⟩
        · rintro ⟨⟨_, a⟩, b⟩; exact ⟨⟨hc.1, hc.2, hd, .inr h2⟩, a, by omega⟩
      · constructor
        · rintro ⟨a, _⟩; omega
        · rintro ⟨_, b⟩; omega
    · rw [show isDig c = false by unfold isDig; exact decide_eq_false hc]
      constructor
      · rintro ⟨a, _⟩; omega
      · rintro ⟨⟨a, _⟩, _⟩; cases a
theorem okN_zero1 (l : List Nat) : okN 1 0 l = true ↔ l = [] := by
  cases l with
  | nil => simp [okN]
  | cons c l => simp [okN]
/-- What the document's number asks is what share's digits ask. -/
theorem numberF_eq (l : List Nat) : numberF l = if l ≠ [] ∧ okN 0 0 l = true then (valN 0 l, true) else (0, false) := by
  unfold numberF
  rw [numD_eq]
  cases l with
  | nil => simp
  | cons c l =>
    simp only [List.length_cons, List.getD_cons_zero, ne_eq, reduceCtorEq, not_false_eq_true, true_and]
    rw [okN, List.all_cons]
    by_cases hc : 48 ≤ c ∧ c ≤ 57
    · rw [show isDig c = true by unfold isDig; exact decide_eq_true hc]
      rw [decide_eq_true (show 48 ≤ c ∧ c ≤ 57 ∧ 0 < 18 ∧ ((0 : Nat) = 0 ∨ (0 : Int) < 0) from ⟨hc.1, hc.2, by omega, .inl rfl⟩), Bool.true_and, Bool.true_and]
      have hm : (10 * 0 + ((c : Int) - 48)) % 18446744073709551616 = (c : Int) - 48 := by omega
      rw [Nat.zero_add, hm]
      by_cases h48 : c = 48
      · subst h48
        have := okN_zero1 l
        by_cases hl : l = []
        · subst hl; simp [okN]
        · have hlen := List.length_pos_iff.2 hl
          rw [if_pos (by omega), if_neg (by rw [show ((48 : Nat) : Int) - 48 = 0 by omega, this]; exact hl)]
      · have hk := okN_pos l ((c : Int) - 48) 1 (by omega) (by omega) (by omega) (by omega)
        by_cases hlen : 18 < l.length + 1
        · rw [if_pos (by omega), if_neg (by rw [hk]; omega)]
        · rw [if_neg (by omega)]
          by_cases ha : l.all isDig = true
          · rw [if_pos ha, if_pos (hk.2 ⟨ha, by omega⟩)]
          · rw [if_neg ha, if_neg (fun h => ha (hk.1 h).1)]
    · rw [show isDig c = false by unfold isDig; exact decide_eq_false hc, Bool.false_and]
      rw [decide_eq_false (show ¬ (48 ≤ c ∧ c ≤ 57 ∧ 0 < 18 ∧ ((0 : Nat) = 0 ∨ (0 : Int) < 0)) from fun h => hc ⟨h.1, h.2.1⟩), Bool.false_and]
      split <;> simp

theorem okN_all {l : List Nat} : ∀ {dig : Nat} {n : Int}, okN dig n l = true → l.all isDig = true := by
  induction l with
  | nil => intro _ _ _; rfl
  | cons c l ih =>
    intro dig n h
    rw [okN, Bool.and_eq_true, decide_eq_true_eq] at h
    rw [List.all_cons, ih h.2, show isDig c = true by unfold isDig; exact decide_eq_true ⟨h.1.1, h.1.2.1⟩]
    rfl

theorem numberF_bad {l : List Nat} {c : Nat} (hm : c ∈ l) (hc : isDig c = false) : numberF l = (0, false) := by
  rw [numberF_eq, if_neg]
  rintro ⟨_, h⟩
  have := List.all_eq_true.1 (okN_all h) c hm
  rw [hc] at this
  cases this
theorem refEnd_false {p : Int × Int} {b : Bool} (h : b = false) : refEnd (p, b) = ((0, 0), false) := by
  subst h
  unfold refEnd
  rw [if_pos (.inl rfl)]
theorem idx47_some : ∀ {l : List Nat} {i : Nat}, idx47 l = some i → l[i]? = some 47 ∧ ∀ j, j < i → l[j]? ≠ some 47 := by
  intro l
  induction l with
  | nil => intro i h; cases h
  | cons c l ih =>
    intro i h
    rw [idx47] at h
    by_cases hc : c = 47
    · rw [if_pos hc] at h
      cases h
      exact ⟨by simp [hc], fun j hj => by omega⟩
    · rw [if_neg hc] at h
      cases hi : idx47 l with
      | none => rw [hi] at h; cases h
      | some k =>
        rw [hi] at h
        cases h
        obtain ⟨h1, h2⟩ := ih hi
        refine ⟨by simpa using h1, fun j hj => ?_⟩
        replace hj : j < k + 1 := hj
        cases j with
        | zero => simpa using hc
        | succ j => simpa using h2 j (by omega)
theorem idx47_digits : ∀ {u : List Nat}, (∀ c ∈ u, c ≠ 47) → ∀ l, idx47 (u ++ l) = (idx47 l).map (· + u.length) := by
  intro u
  induction u with
  | nil => intro _ l; simp
  | cons c u ih =>
    intro h l
    rw [List.cons_append, idx47, if_neg (h c (by simp)), ih (fun d hd => h d (by simp [hd]))]
    cases idx47 l with
    | none => rfl
    | some k => simp; omega

theorem isDig_iff {c : Nat} : isDig c = true ↔ 48 ≤ c ∧ c ≤ 57 := by unfold isDig; exact decide_eq_true_iff

/-- Both read alike. -/
theorem read_eq (l : List Nat) : readEnd (readF 0 0 0 0 l) = refEnd (refP2 l) := by
  obtain ⟨u, rest, rfl, hu, hr⟩ : ∃ u rest, l = u ++ rest ∧ (∀ c ∈ u, isDig c = true) ∧ (∀ c l', rest = c :: l' → isDig c = false) := by
    refine ⟨l.takeWhile isDig, l.dropWhile isDig, (List.takeWhile_append_dropWhile).symm, fun c hc => ?_, fun c l' h => ?_⟩
    · have := List.all_takeWhile (l := l) (p := isDig)
      exact List.all_eq_true.1 this c hc
    · have := List.head?_dropWhile_not isDig l
      rw [h] at this
      simpa using this
  rw [readF_zero u rest 0 0 hu hr, Nat.zero_add]
  have hu47 : ∀ c ∈ u, c ≠ 47 := fun c hc => by have := isDig_iff.1 (hu c hc); omega
  have hNu := numberF_eq u
  cases rest with
  | nil =>
    rw [List.append_nil]
    have hl : readEnd (if okN 0 0 u = true then restF (valN 0 u) u.length [] else none) = ((0, 0), false) := by
      split
      · simp [restF, readEnd]
      · rfl
    rw [hl]
    have hlast : ¬ (0 < u.length ∧ u.getD (u.length - 1) 0 = 37) := by
      rintro ⟨h1, h2⟩
      have hm : u.getD (u.length - 1) 0 ∈ u := by rw [List.getD_eq_getElem?_getD, List.getElem?_eq_getElem (by omega)]; exact List.getElem_mem _
      have := isDig_iff.1 (hu _ hm)
      omega
    have hi : idx47 u = none := by
      have := idx47_digits hu47 []
      rw [List.append_nil] at this
      rw [this]; rfl
    unfold refP2 refPair
    rw [if_neg hlast, hi]
    exact (refEnd_false rfl).symm
  | cons c v =>
    have hc := hr c v rfl
    have hlen : (u ++ c :: v).length = u.length + v.length + 1 := by simp; omega
    -- the last byte
    have hlastv : (u ++ c :: v).getD ((u ++ c :: v).length - 1) 0 = if v = [] then c else v.getD (v.length - 1) 0 := by
      rw [List.getD_eq_getElem?_getD, hlen, List.getElem?_append_right (by omega)]
      by_cases hv : v = []
      · subst hv; simp
      · have := List.length_pos_iff.2 hv
        rw [if_neg hv, show u.length + v.length + 1 - 1 - u.length = (v.length - 1) + 1 by omega, List.getElem?_cons_succ, ← List.getD_eq_getElem?_getD]
    by_cases h47 : c = 47
    · subst h47
      by_cases hp : v ≠ [] ∧ v.getD (v.length - 1) 0 = 37
      · -- a sign for hundredths behind a stroke
        obtain ⟨hv, h37⟩ := hp
        have hvl := List.length_pos_iff.2 hv
        have hm : 37 ∈ v := by
          rw [← h37, List.getD_eq_getElem?_getD, List.getElem?_eq_getElem (by omega)]; exact List.getElem_mem _
        have hr1 : refEnd (refP2 (u ++ 47 :: v)) = ((0, 0), false) := by
          unfold refP2
          rw [if_pos ⟨by omega, by rw [hlastv, if_neg hv]; exact h37⟩]
          refine refEnd_false ?_
          rw [numberF_bad (c := 47) ?_ (by decide)]
          rw [hlen, List.mem_iff_getElem?]
          refine ⟨u.length, ?_⟩
          rw [List.getElem?_take, if_pos (by omega), List.getElem?_append_right (by omega)]
          simp
        rw [hr1]
        split
        · rw [restF]
          split
          · rw [readF_one, if_neg (fun h => by have := List.all_eq_true.1 (okN_all h) 37 hm; revert this; decide)]
            rfl
          · rw [if_neg (by omega)]; rfl
        · rfl
      · have hr1 : refP2 (u ++ 47 :: v) = refPair (u ++ 47 :: v) := by
          unfold refP2
          rw [if_neg]
          rintro ⟨_, h⟩
          rw [hlastv] at h
          by_cases hv : v = []
          · rw [if_pos hv] at h; omega
          · rw [if_neg hv] at h; exact hp ⟨hv, h⟩
        have hi : idx47 (u ++ 47 :: v) = some u.length := by
          rw [idx47_digits hu47]
          simp [idx47]
        rw [hr1]
        unfold refPair
        rw [hi]
        simp only [List.take_left', show (u ++ 47 :: v).drop (u.length + 1) = v by rw [List.drop_append]; simp]
        have hNv := numberF_eq v
        rw [hNu, hNv]
        by_cases ou : okN 0 0 u = true
        · rw [if_pos ou, restF]
          by_cases du : 0 < u.length
          · have hune : u ≠ [] := List.length_pos_iff.1 du
            rw [if_pos ⟨rfl, du⟩, readF_one, if_pos (show u ≠ [] ∧ okN 0 0 u = true from ⟨hune, ou⟩)]
            by_cases ov : okN 0 0 v = true
            · rw [if_pos ov]
              by_cases hv : v = []
              · subst hv
                rw [if_neg (by simp)]
                simp [readEnd, refEnd]
              · have := List.length_pos_iff.2 hv
                rw [if_pos ⟨hv, ov⟩]
                unfold readEnd refEnd
                simp only [Nat.zero_add, Nat.one_ne_zero, false_or, Bool.and_self, Bool.true_eq_false]
                by_cases hg : goodF (valN 0 u) (valN 0 v) = false
                · rw [if_pos (.inr hg), if_pos hg]
                · rw [if_neg (fun h => h.elim (fun h => by omega) hg), if_neg hg]
            · rw [if_neg ov, if_neg (fun h => ov h.2), Bool.and_false]
              exact (refEnd_false rfl).symm
          · have hu0 : u = [] := List.eq_nil_of_length_eq_zero (by omega)
            subst hu0
            rw [if_neg (by simp), if_neg (by simp)]
            rw [if_neg (by simp)]
            simp [readEnd, refEnd]
        · rw [if_neg ou, if_neg (fun h => ou h.2), Bool.false_and]
          exact (refEnd_false rfl).symm
    · by_cases hP : c = 37 ∧ v = []
      · obtain ⟨rfl, rfl⟩ := hP
        have hr1 : refP2 (u ++ [37]) = (((numberF u).1, 100), (numberF u).2) := by
          unfold refP2
          rw [if_pos ⟨by omega, by rw [hlastv, if_pos rfl]⟩, hlen]
          simp
        rw [hr1, hNu]
        by_cases ou : okN 0 0 u = true
        · rw [if_pos ou, restF, if_neg (by omega)]
          by_cases du : 0 < u.length
          · have hune : u ≠ [] := List.length_pos_iff.1 du
            rw [if_pos ⟨rfl, du, rfl⟩, if_pos ⟨hune, ou⟩]
            unfold readEnd refEnd
            simp only [Nat.one_ne_zero, false_or, Bool.true_eq_false]
            by_cases hg : goodF (valN 0 u) 100 = false
            · rw [if_pos (.inr hg), if_pos hg]
            · rw [if_neg (fun h => h.elim (fun h => by omega) hg), if_neg hg]
          · have hu0 : u = [] := List.eq_nil_of_length_eq_zero (by omega)
            subst hu0
            simp [readEnd, refEnd]
        · rw [if_neg ou, if_neg (fun h => ou h.2)]
          exact (refEnd_false rfl).symm
      · have hl : readEnd (if okN 0 0 u = true then restF (valN 0 u) u.length (c :: v) else none) = ((0, 0), false) := by
          split
          · rw [restF, if_neg (fun h => h47 h.1), if_neg (fun h => hP ⟨h.1, h.2.2⟩)]; rfl
          · rfl
        rw [hl]
        refine Eq.symm ?_
        have hin : ∀ k, u.length < k → c ∈ (u ++ c :: v).take k := fun k hk => by
          rw [List.mem_iff_getElem?]
          refine ⟨u.length, ?_⟩
          rw [List.getElem?_take, if_pos hk, List.getElem?_append_right (by omega)]
          simp
        unfold refP2
        by_cases hq : 0 < (u ++ c :: v).length ∧ (u ++ c :: v).getD ((u ++ c :: v).length - 1) 0 = 37
        · rw [if_pos hq]
          refine refEnd_false ?_
          have h2 := hq.2
          rw [hlastv] at h2
          by_cases hv : v = []
          · rw [if_pos hv] at h2; exact absurd ⟨h2, hv⟩ hP
          · have := List.length_pos_iff.2 hv
            rw [numberF_bad (hin _ (by omega)) hc]
        · rw [if_neg hq]
          unfold refPair
          cases hi : idx47 (u ++ c :: v) with
          | none => exact refEnd_false rfl
          | some i =>
            dsimp only
            refine refEnd_false ?_
            obtain ⟨h1, h2⟩ := idx47_some hi
            have hiu : u.length < i := by
              rcases Nat.lt_or_ge u.length i with h | h
              · exact h
              · exfalso
                rcases Nat.lt_or_ge i u.length with h3 | h3
                · rw [List.getElem?_append_left h3] at h1
                  exact hu47 _ (List.mem_of_getElem? h1) rfl
                · obtain rfl : i = u.length := by omega
                  rw [List.getElem?_append_right (by omega)] at h1
                  simp at h1
                  exact h47 h1
            rw [numberF_bad (hin i hiu) hc]
            rfl
end Go.Proofs.Ytadnnpjnmfddmaa

