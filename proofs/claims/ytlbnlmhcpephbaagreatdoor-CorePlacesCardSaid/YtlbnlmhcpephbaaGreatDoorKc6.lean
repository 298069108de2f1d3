/- Texts of this claim, joined, indents halved: RowV, Ref12, Bins13, PartD. -/
import Derived.Test.YtlbnlmhcpephbaaGreatDoorProg
import Derived.Test.YtlbnlmhcpephbaaGreatDoorKc5
namespace Go.Proofs.YtlbnlmhcpephbaaGreatDoor
theorem sumP_rowAdd_p {ps : List (Int × Int)} {q c : Int} (p : Int → Bool) (h : Gd ps) (hc : 0 < c) (hs : cnt ps q + c < 18446744073709551616) :
  sumP ((rowAdd ps q c).filter fun x => p x.1) = sumP (ps.filter fun x => p x.1) + if p q then c else 0 := by
 have e : sumP (ps.filter fun x => p x.1) = sumP ((ps.filter fun x => decide (x.1 < q)).filter fun x => p x.1) + (if p q then cnt ps q else 0) + sumP ((ps.filter fun x => decide (q < x.1)).filter fun x => p x.1) := by
  rw [sumP_split (ps.filter fun x => p x.1) q, cnt_filter p ps q, List.filter_filter, List.filter_filter, List.filter_filter, List.filter_filter]
  congr 2
  ·congr 1; refine List.filter_congr fun x _ => ?_; rw [Bool.and_comm]
  ·refine List.filter_congr fun x _ => ?_; rw [Bool.and_comm]
 rw [rowAdd_eq h hc hs, e]
 simp only [List.filter_append, sumP_append, List.filter_cons, List.filter_nil]
 cases p q <;> simp [sumP_cons, sumP_nil] <;> omega
theorem sumP_addAll_p (p : Int → Bool) : ∀ {l ps : List (Int × Int)}, Gd ps → (∀ x ∈ l, 0 < x.2) → sumP ps + sumP l < 18446744073709551616 →
    sumP ((addAll ps l).filter fun x => p x.1) = sumP (ps.filter fun x => p x.1) + sumP (l.filter fun x => p x.1)
  | [], ps, _, _, _ => by show _ = _ + sumP []; rw [sumP_nil, Int.add_zero]; rfl
  | x :: l, ps, h, hp, hs => by
    have h1 := hp x (by simp)
    rw [sumP_cons] at hs
    have h3 := sumP_nonneg (ps := l) fun y hy => hp y (by simp [hy])
    have h2 : cnt ps x.1 + x.2 < 18446744073709551616 := by have := cnt_le_sumP h.pos x.1; omega
    show sumP ((addAll (rowAdd ps x.1 x.2) l).filter _) = _
    rw [sumP_addAll_p p (h.rowAdd h1 h2) (fun y hy => hp y (by simp [hy])) (by rw [sumP_rowAdd h h1 h2]; omega), sumP_rowAdd_p p h h1 h2, List.filter_cons]
    cases p x.1 <;> simp [sumP_cons] <;> omega
def sgn (below : Bool) (x : Int) : Bool := decide (x ≠ 0) && (decide (x < 0) == below)
theorem sgn_true (x : Int) : sgn true x = decide (x < 0) := by
 unfold sgn; by_cases h : x < 0
 ·have : x ≠ 0 := by omega
  simp [h, this]
 ·simp [h]
theorem sgn_false (x : Int) : sgn false x = decide (0 < x) := by
 unfold sgn; by_cases h : 0 < x
 ·have h1 : x ≠ 0 := by omega
  have h2 : ¬ x < 0 := by omega
  simp [h, h1, h2]
 ·by_cases h2 : x = 0
  ·simp [h2]
  ·have : x < 0 := by omega
   simp [h, this]
def selV (part : Nat → Int) (below : Bool) (l : List (Int × Int)) : List (Int × Int) := (l.filter fun v => sgn below v.1).map fun v => (part v.1.natAbs, v.2)
def rowV (part : Nat → Int) (below : Bool) (l : List (Int × Int)) : List (Int × Int) := addAll [] (selV part below l)
section
variable {part : Nat → Int} {below : Bool} {l : List (Int × Int)}
theorem rowV_snoc (v : Int × Int) : rowV part below (l ++ [v]) = if sgn below v.1 then rowAdd (rowV part below l) (part v.1.natAbs) v.2 else rowV part below l := by
 unfold rowV selV
 rw [List.filter_append, List.map_append, addAll_append]
 cases h : sgn below v.1 <;> simp [h, addAll]
theorem selV_pos (hp : ∀ v ∈ l, 0 < v.2) : ∀ x ∈ selV part below l, 0 < x.2 := fun x hx => by
 unfold selV at hx
 obtain ⟨v, hv, rfl⟩ := List.mem_map.1 hx
 exact hp v (List.mem_filter.1 hv).1
theorem selV_sum_p (p : Int → Bool) : ∀ l : List (Int × Int), sumP ((selV part below l).filter fun x => p x.1) = sumP (l.filter fun v => sgn below v.1 && p (part v.1.natAbs))
  | [] => rfl
  | v :: l => by
    have ih := selV_sum_p p l
    unfold selV at ih ⊢
    cases h : sgn below v.1
    · rw [List.filter_cons_of_neg (by simp [h]), ih, List.filter_cons_of_neg (by simp [h])]
    · rw [List.filter_cons_of_pos (by simp [h]), List.map_cons]
      cases hp : p (part v.1.natAbs)
      · rw [List.filter_cons_of_neg (by simp [hp]), ih, List.filter_cons_of_neg (by simp [hp])]
      · rw [List.filter_cons_of_pos (by simp [hp]), sumP_cons, ih, List.filter_cons_of_pos (by simp [h, hp]), sumP_cons]
theorem selV_sum_le (hp : ∀ v ∈ l, 0 < v.2) : 0 ≤ sumP (selV part below l) ∧ sumP (selV part below l) ≤ sumP l := by
 have h := selV_sum_p (part := part) (below := below) (fun _ => true) l
 rw [List.filter_eq_self.2 (fun _ _ => rfl)] at h
 rw [h]
 exact sumP_filter_le hp _
theorem rowV_gd (hp : ∀ v ∈ l, 0 < v.2) (hs : sumP l < 18446744073709551616) : Gd (rowV part below l) :=
 (addAll_spec Gd.nil (selV_pos hp) (by rw [sumP_nil]; have := (selV_sum_le (part := part) (below := below) hp).2; omega)).1
theorem rowV_sum_p (p : Int → Bool) (hp : ∀ v ∈ l, 0 < v.2) (hs : sumP l < 18446744073709551616) : sumP ((rowV part below l).filter fun y => p y.1) = sumP (l.filter fun v => sgn below v.1 && p (part v.1.natAbs)) := by
 unfold rowV
 rw [sumP_addAll_p p Gd.nil (selV_pos hp) (by rw [sumP_nil]; have := (selV_sum_le (part := part) (below := below) hp).2; omega), selV_sum_p]
 show sumP [] + _ = _
 rw [sumP_nil, Int.zero_add]
theorem rowV_sum (hp : ∀ v ∈ l, 0 < v.2) (hs : sumP l < 18446744073709551616) : sumP (rowV part below l) = sumP (l.filter fun v => sgn below v.1) := by
 have := rowV_sum_p (part := part) (below := below) (fun _ => true) hp hs
 rw [List.filter_eq_self.2 (fun _ _ => rfl)] at this
 rw [this]
 congr 1
 exact List.filter_congr fun v _ => by simp
theorem rowV_upto (i : Int) (hp : ∀ v ∈ l, 0 < v.2) (hs : sumP l < 18446744073709551616) : upto (rowV part below l) i = sumP (l.filter fun v => sgn below v.1 && decide (part v.1.natAbs ≤ i)) := rowV_sum_p (fun j => decide (j ≤ i)) hp hs
theorem rowV_cnt (i : Int) (hp : ∀ v ∈ l, 0 < v.2) (hs : sumP l < 18446744073709551616) : cnt (rowV part below l) i = sumP (l.filter fun v => sgn below v.1 && decide (part v.1.natAbs = i)) := rowV_sum_p (fun j => decide (j = i)) hp hs
theorem rowV_len : (rowV part below l).length ≤ l.length := by
  have h1 : ∀ (l ps : List (Int × Int)), (addAll ps l).length ≤ ps.length + l.length := by
    intro l
    induction l with
    | nil => intro ps; exact Nat.le_refl _
    | cons x l ih =>
      intro ps
      have h2 : (rowAdd ps x.1 x.2).length ≤ ps.length + 1 := by
        unfold rowAdd
        have h1 : ∀ (l : List (Int × Int)), (l.filter fun y => decide (y.1 < x.1)).length + (l.filter fun y => decide (x.1 < y.1)).length ≤ l.length := by
          intro l
          induction l with
          | nil => simp
          | cons y l ih =>
            rw [List.filter_cons, List.filter_cons, List.length_cons]
            by_cases ha : y.1 < x.1
            · have hb : ¬ x.1 < y.1 := by omega
              simp only [ha, hb, decide_true, decide_false, if_true, Bool.false_eq_true, if_false, List.length_cons]; omega
            · by_cases hb : x.1 < y.1
              · simp only [ha, hb, decide_true, decide_false, if_true, Bool.false_eq_true, if_false, List.length_cons]; omega
              · simp only [ha, hb, decide_false, Bool.false_eq_true, if_false]; omega
        have h3 := h1 ps
        rw [List.length_append, List.length_append]
        split <;> simp only [List.length_cons, List.length_nil] <;> omega
      have := ih (rowAdd ps x.1 x.2)
      show (addAll (rowAdd ps x.1 x.2) l).length ≤ _
      rw [List.length_cons]
      omega
  have h2 := h1 (selV part below l) []
  unfold rowV
  refine Nat.le_trans h2 ?_
  unfold selV
  rw [List.length_nil, List.length_map, Nat.zero_add]
  exact List.length_filter_le _ _
end
def lessV (l : List (Int × Int)) (x : Int) : Int := sumP (l.filter fun v => decide (v.1 < x))
def sameV (l : List (Int × Int)) (x : Int) : Int := sumP (l.filter fun v => decide (v.1 = x))
def exactV (l : List (Int × Int)) (t : Int) : Option Int := (l.find? fun v => decide (lessV l v.1 < t ∧ t ≤ lessV l v.1 + sameV l v.1)).map fun v => v.1
theorem filter_sum_add {p q r : Int × Int → Bool} : ∀ {l : List (Int × Int)}, (∀ v ∈ l, r v = (p v || q v) ∧ (p v = true → q v = false)) → sumP (l.filter r) = sumP (l.filter p) + sumP (l.filter q)
  | [], _ => rfl
  | v :: l, h => by
    have ih := filter_sum_add (l := l) fun y hy => h y (by simp [hy])
    obtain ⟨h1, h2⟩ := h v (by simp)
    rw [List.filter_cons, List.filter_cons, List.filter_cons, h1]
    cases hp : p v <;> cases hq : q v <;> simp [hp, hq, sumP_cons, ih] at h2 ⊢ <;> omega
theorem filter_sum_mono {p q : Int × Int → Bool} {l : List (Int × Int)} (hp : ∀ v ∈ l, 0 < v.2) (h : ∀ v ∈ l, p v = true → q v = true) : sumP (l.filter p) ≤ sumP (l.filter q) := by
 have e := filter_sum_add (l := l) (p := p) (q := fun v => q v && !p v) (r := q) fun v hv => by
  have := h v hv
  cases hp : p v <;> cases hq : q v <;> simp_all
 have := (sumP_filter_le hp fun v => q v && !p v).1
 omega
theorem upV_split (l : List (Int × Int)) (x : Int) : upV l x = lessV l x + sameV l x :=
 filter_sum_add fun v _ => by
  constructor
  ·by_cases h : v.1 < x
   ·have : v.1 ≤ x := by omega
    simp [h, this]
   ·by_cases h2 : v.1 = x
    ·simp [h2]
    ·have : ¬ v.1 ≤ x := by omega
     simp [h, h2, this]
  ·simp only [decide_eq_true_eq, decide_eq_false_iff_not]; omega
structure IsExact (l : List (Int × Int)) (t x : Int) : Prop where
 mem : ∃ v ∈ l, v.1 = x
 lo : lessV l x < t
 hi : t ≤ lessV l x + sameV l x
theorem IsExact.uniq {l : List (Int × Int)} {t x y : Int} (hp : ∀ v ∈ l, 0 < v.2) (h : IsExact l t x) (k : IsExact l t y) : x = y := by
 have key : ∀ {x y : Int}, IsExact l t x → IsExact l t y → ¬ x < y := fun {x y} h k hlt => by
  have h1 := h.hi
  have h2 := k.lo
  rw [← upV_split] at h1
  have := filter_sum_mono (p := fun v => decide (v.1 ≤ x)) (q := fun v => decide (v.1 < y)) hp fun v _ hv => by
   simp only [decide_eq_true_eq] at hv ⊢; omega
  unfold upV at h1
  unfold lessV at h2
  omega
 have h1 := key h k
 have h2 := key k h
 omega
theorem exactV_is {l : List (Int × Int)} {t x : Int} (h : exactV l t = some x) : IsExact l t x := by
 unfold exactV at h
 rw [Option.map_eq_some_iff] at h
 obtain ⟨v, hv, rfl⟩ := h
 have h1 := List.find?_some hv
 have h2 := List.mem_of_find?_eq_some hv
 simp only [decide_eq_true_eq] at h1
 exact ⟨⟨v, h2, rfl⟩, h1.1, h1.2⟩
theorem exactV_of {l : List (Int × Int)} {t x : Int} (hp : ∀ v ∈ l, 0 < v.2) (h : IsExact l t x) : exactV l t = some x := by
  obtain ⟨v, hv, rfl⟩ := h.mem
  cases he : exactV l t with
  | none =>
    unfold exactV at he
    rw [Option.map_eq_none_iff, List.find?_eq_none] at he
    have := he v hv
    simp only [decide_eq_true_eq] at this
    exact absurd ⟨h.lo, h.hi⟩ this
  | some y => rw [(exactV_is he).uniq hp h]
theorem least_of {P : Int → Prop} [DecidablePred P] : ∀ {l : List (Int × Int)}, (∃ v ∈ l, P v.1) → ∃ v ∈ l, P v.1 ∧ ∀ u ∈ l, P u.1 → v.1 ≤ u.1
  | [], h => by obtain ⟨v, hv, _⟩ := h; simp at hv
  | x :: l, h => by
    by_cases hl : ∃ v ∈ l, P v.1
    · obtain ⟨v, hv, h1, h2⟩ := least_of hl
      by_cases hx : P x.1 ∧ x.1 ≤ v.1
      · refine ⟨x, by simp, hx.1, fun u hu hpu => ?_⟩
        rcases List.mem_cons.1 hu with rfl | hu
        · exact Int.le_refl _
        · exact Int.le_trans hx.2 (h2 u hu hpu)
      · refine ⟨v, by simp [hv], h1, fun u hu hpu => ?_⟩
        rcases List.mem_cons.1 hu with rfl | hu
        · have : ¬ u.1 ≤ v.1 := fun h => hx ⟨hpu, h⟩
          omega
        · exact h2 u hu hpu
    · obtain ⟨v, hv, h1⟩ := h
      rcases List.mem_cons.1 hv with rfl | hv
      · refine ⟨v, by simp, h1, fun u hu hpu => ?_⟩
        rcases List.mem_cons.1 hu with rfl | hu
        · exact Int.le_refl _
        · exact absurd ⟨u, hu, hpu⟩ hl
      · exact absurd ⟨v, hv, h1⟩ hl
theorem most_of : ∀ {l : List (Int × Int)}, l ≠ [] → ∃ v ∈ l, ∀ u ∈ l, u.1 ≤ v.1
  | [], h => absurd rfl h
  | [x], _ => ⟨x, by simp, fun u hu => by rw [List.mem_singleton] at hu; subst hu; exact Int.le_refl _⟩
  | x :: y :: l, _ => by
    obtain ⟨v, hv, h⟩ := most_of (l := y :: l) (by simp)
    by_cases hx : x.1 ≤ v.1
    · refine ⟨v, by simp [hv], fun u hu => ?_⟩
      rcases List.mem_cons.1 hu with rfl | hu
      · exact hx
      · exact h u hu
    · refine ⟨x, by simp, fun u hu => ?_⟩
      rcases List.mem_cons.1 hu with rfl | hu
      · exact Int.le_refl _
      · have := h u hu; omega
theorem exactV_some {l : List (Int × Int)} {t : Int} (hp : ∀ v ∈ l, 0 < v.2) (h1 : 1 ≤ t) (h2 : t ≤ sumP l) : ∃ x, exactV l t = some x ∧ IsExact l t x := by
 have hne : l ≠ [] := fun e => by rw [e, sumP_nil] at h2; omega
 obtain ⟨z, hz, hzm⟩ := most_of hne
 have hex : ∃ v ∈ l, t ≤ upV l v.1 := ⟨z, hz, by
  unfold upV
  rw [List.filter_eq_self.2 fun u hu => by simpa using hzm u hu]
  exact h2⟩
 obtain ⟨v, hv, hP, hmin⟩ := least_of (P := fun x => t ≤ upV l x) hex
 have hI : IsExact l t v.1 := by
  refine ⟨⟨v, hv, rfl⟩, ?_, by rw [← upV_split]; exact hP⟩
  rcases Int.lt_or_le (lessV l v.1) t with h | h
  ·exact h
  ·exfalso
   have hne2 : l.filter (fun u => decide (u.1 < v.1)) ≠ [] := fun e => by unfold lessV at h; rw [e, sumP_nil] at h; omega
   obtain ⟨u, hu, hum⟩ := most_of hne2
   obtain ⟨hul, hlt⟩ := List.mem_filter.1 hu
   simp only [decide_eq_true_eq] at hlt
   have : t ≤ upV l u.1 := by
    refine Int.le_trans h ?_
    exact filter_sum_mono hp fun y hy hlt2 => by
     have := hum y (List.mem_filter.2 ⟨hy, hlt2⟩)
     simpa using this
   have := hmin u hul this
   omega
 exact ⟨v.1, exactV_of hp hI, hI⟩
theorem findP_uniq {t : Int} : ∀ {ps : List (Int × Int)} {s i : Int}, Gd ps → 0 ≤ s → s < t → s + sumP ps < 18446744073709551616 → (∃ x ∈ ps, x.1 = i) → t ≤ s + upto ps i → s + upto ps i - cnt ps i < t → findP t s ps = some i
  | [], s, i, _, _, _, _, h, _, _ => by obtain ⟨x, hx, _⟩ := h; simp at hx
  | x :: ps, s, i, hg, h0, h1, h2, ⟨y, hy, hyi⟩, h3, h4 => by
    have hx := hg.pos x (by simp)
    have hs := sumP_nonneg hg.tail.pos
    rw [sumP_cons] at h2
    rw [findP, Int.emod_eq_of_lt (by omega : 0 ≤ s + x.2) (by omega)]
    rcases List.mem_cons.1 hy with rfl | hy
    · subst hyi
      have hu : upto (y :: ps) y.1 = y.2 := by
        unfold upto
        rw [List.filter_cons_of_pos (by simp), List.filter_eq_nil_iff.2, sumP_cons, sumP_nil, Int.add_zero]
        intro z hz
        have := hg.head z hz
        simp only [decide_eq_true_eq]; omega
      rw [hu] at h3
      rw [if_pos (by omega)]
    · have hlt := hg.head y hy
      have hu : upto (x :: ps) i = x.2 + upto ps i := by
        unfold upto
        rw [List.filter_cons_of_pos (by simp; omega), sumP_cons]
      have hc : cnt (x :: ps) i = cnt ps i := by
        rw [cnt_cons, if_neg (by omega)]; omega
      rw [hu] at h3 h4
      rw [hc] at h4
      have hle := cnt_le_upto hg.tail.pos i
      rw [if_neg (by omega)]
      exact findP_uniq hg.tail (by omega) (by omega) (by omega) ⟨y, hy, hyi⟩ (by omega) (by omega)
def PartMono (part : Nat → Int) : Prop := ∀ a b : Nat, 0 < a → a ≤ b → b ≤ 9223372036854775808 → part a ≤ part b
def negV (l : List (Int × Int)) : Int := sumP (l.filter fun v => decide (v.1 < 0))
def posV (l : List (Int × Int)) : Int := sumP (l.filter fun v => decide (0 < v.1))
def zeroV (l : List (Int × Int)) : Int := sumP (l.filter fun v => decide (v.1 = 0))
theorem sum_three (l : List (Int × Int)) : sumP l = negV l + zeroV l + posV l := by
 have h1 := filter_sum_add (l := l) (p := fun v => decide (v.1 ≤ 0)) (q := fun v => decide (0 < v.1)) (r := fun _ => true) fun v _ => by
  by_cases h : v.1 ≤ 0
  ·have : ¬ 0 < v.1 := by omega
   simp [h, this]
  ·have : 0 < v.1 := by omega
   simp [h, this]
 have h2 := filter_sum_add (l := l) (p := fun v => decide (v.1 < 0)) (q := fun v => decide (v.1 = 0)) (r := fun v => decide (v.1 ≤ 0)) fun v _ => by
  by_cases h : v.1 < 0
  ·have h2 : v.1 ≤ 0 := by omega
   have h3 : v.1 ≠ 0 := by omega
   simp [h, h2, h3]
  ·by_cases h0 : v.1 = 0
   ·simp [h0]
   ·have : ¬ v.1 ≤ 0 := by omega
    simp [h, h0, this]
 rw [List.filter_eq_self.2 (fun _ _ => rfl)] at h1
 unfold negV zeroV posV
 omega
section
variable {part : Nat → Int} {l : List (Int × Int)} {t x : Int}
theorem negV_row (hp : ∀ v ∈ l, 0 < v.2) (hs : sumP l < 18446744073709551616) : sumP (rowV part true l) = negV l := by
 rw [rowV_sum hp hs]; unfold negV; congr 1; exact List.filter_congr fun v _ => sgn_true v.1
theorem posV_row (hp : ∀ v ∈ l, 0 < v.2) (hs : sumP l < 18446744073709551616) : sumP (rowV part false l) = posV l := by
 rw [rowV_sum hp hs]; unfold posV; congr 1; exact List.filter_congr fun v _ => sgn_false v.1
theorem rowV_mem (hp : ∀ v ∈ l, 0 < v.2) (hs : sumP l < 18446744073709551616) {below : Bool} {v : Int × Int} (hv : v ∈ l) (hb : sgn below v.1 = true) : ∃ y ∈ rowV part below l, y.1 = part v.1.natAbs := by
  refine cnt_pos_mem ?_
  rw [rowV_cnt _ hp hs]
  have h1 : v ∈ l.filter fun u => sgn below u.1 && decide (part u.1.natAbs = part v.1.natAbs) := List.mem_filter.2 ⟨hv, by simp [hb]⟩
  have h2 := hp v hv
  have h3 : ∀ {ks : List (Int × Int)}, (∀ v ∈ ks, 0 < v.2) → v ∈ ks → v.2 ≤ sumP ks := by
    intro ks
    induction ks with
    | nil => intro _ h; simp at h
    | cons a ks ih =>
      intro hk hm
      rw [sumP_cons]
      have := sumP_nonneg (ps := ks) fun y hy => hk y (by simp [hy])
      have := hk a (by simp)
      rcases List.mem_cons.1 hm with rfl | hm
      · omega
      · have := ih (fun y hy => hk y (by simp [hy])) hm; omega
  have := h3 (fun y hy => hp y (List.mem_filter.1 hy).1) h1
  omega
theorem exact_neg (hm : PartMono part) (hok : okP l) (hp : ∀ v ∈ l, 0 < v.2) (hs : sumP l < 18446744073709551616) (h : IsExact l t x) (hx : x < 0) (ht : 1 ≤ t) :
  t ≤ negV l ∧ findP (negV l - t + 1) 0 (rowV part true l) = some (part x.natAbs) := by
 have hle : lessV l x + sameV l x ≤ negV l := by
  rw [← upV_split]
  exact filter_sum_mono hp fun v _ hv => by simp only [decide_eq_true_eq] at hv ⊢; omega
 have h1 := h.lo
 have h2 := h.hi
 obtain ⟨v, hv, hvx⟩ := h.mem
 have hu : upto (rowV part true l) (part x.natAbs) = sumP (l.filter fun v => sgn true v.1 && decide (part v.1.natAbs ≤ part x.natAbs)) := rowV_upto _ hp hs
 have hc : cnt (rowV part true l) (part x.natAbs) = sumP (l.filter fun v => sgn true v.1 && decide (part v.1.natAbs = part x.natAbs)) := rowV_cnt _ hp hs
 have hsum := negV_row (part := part) hp hs
 have hbig : negV l - lessV l x ≤ upto (rowV part true l) (part x.natAbs) := by
  have e := filter_sum_add (l := l) (p := fun v => decide (v.1 < x)) (q := fun v => decide (v.1 < 0) && decide (x ≤ v.1)) (r := fun v => decide (v.1 < 0)) fun v _ => by
   by_cases h : v.1 < x
   ·have h2 : v.1 < 0 := by omega
    have h3 : ¬ x ≤ v.1 := by omega
    simp [h, h2, h3]
   ·have h3 : x ≤ v.1 := by omega
    simp [h, h3]
  have g := filter_sum_mono (p := fun v => decide (v.1 < 0) && decide (x ≤ v.1)) (q := fun v => sgn true v.1 && decide (part v.1.natAbs ≤ part x.natAbs)) hp fun v hv hh => by
   simp only [Bool.and_eq_true, decide_eq_true_eq] at hh
   rw [sgn_true]
   have := hm v.1.natAbs x.natAbs (by omega) (by omega) (by obtain ⟨u, hu, e⟩ := h.mem; have := (hok u hu).1; omega)
   simp [hh.1, this]
  unfold negV lessV
  omega
 have hsm : upto (rowV part true l) (part x.natAbs) - cnt (rowV part true l) (part x.natAbs) ≤ negV l - lessV l x - sameV l x := by
  have e := filter_sum_add (l := l) (p := fun v => sgn true v.1 && decide (part v.1.natAbs = part x.natAbs)) (q := fun v => sgn true v.1 && decide (part v.1.natAbs < part x.natAbs)) (r := fun v => sgn true v.1 && decide (part v.1.natAbs ≤ part x.natAbs)) fun v _ => by
   cases sgn true v.1
   ·simp
   ·by_cases h : part v.1.natAbs = part x.natAbs
    ·simp [h]
    ·by_cases h2 : part v.1.natAbs < part x.natAbs
     ·have h3 : part v.1.natAbs ≤ part x.natAbs := by omega
      simp [h, h2, h3]
     ·have h3 : ¬ part v.1.natAbs ≤ part x.natAbs := by omega
      simp [h, h2, h3]
  have e2 := filter_sum_add (l := l) (p := fun v => decide (v.1 ≤ x)) (q := fun v => decide (v.1 < 0) && decide (x < v.1)) (r := fun v => decide (v.1 < 0)) fun v _ => by
   by_cases h : v.1 ≤ x
   ·have h2 : v.1 < 0 := by omega
    have h3 : ¬ x < v.1 := by omega
    simp [h, h2, h3]
   ·have h3 : x < v.1 := by omega
    simp [h, h3]
  have g := filter_sum_mono (p := fun v => sgn true v.1 && decide (part v.1.natAbs < part x.natAbs)) (q := fun v => decide (v.1 < 0) && decide (x < v.1)) hp fun v hv hh => by
   rw [sgn_true] at hh
   simp only [Bool.and_eq_true, decide_eq_true_eq] at hh ⊢
   refine ⟨hh.1, ?_⟩
   rcases Int.lt_or_le x v.1 with h | h
   ·exact h
   ·have := hm x.natAbs v.1.natAbs (by omega) (by omega) (by have := (hok v hv).1; omega)
    omega
  have := upV_split l x
  unfold upV at this
  unfold negV
  omega
 refine ⟨by omega, findP_uniq (rowV_gd hp hs) (Int.le_refl _) (by omega) (by rw [hsum]; have := (sumP_filter_le hp fun v => decide (v.1 < 0)).2; unfold negV; omega) ?_ (by omega) (by omega)⟩
 rw [← hvx]
 exact rowV_mem hp hs hv (by rw [sgn_true, hvx]; simpa using hx)
theorem exact_zero (hp : ∀ v ∈ l, 0 < v.2) (h : IsExact l t 0) : negV l < t ∧ t - negV l ≤ zeroV l := by
 have h1 := h.lo
 have h2 := h.hi
 have e : lessV l 0 = negV l := rfl
 have e2 : sameV l 0 = zeroV l := rfl
 omega
theorem exact_pos (hm : PartMono part) (hok : okP l) (hp : ∀ v ∈ l, 0 < v.2) (hs : sumP l < 18446744073709551616) (h : IsExact l t x) (hx : 0 < x) :
  negV l < t ∧ zeroV l < t - negV l ∧ findP (t - negV l - zeroV l) 0 (rowV part false l) = some (part x.natAbs) := by
 have h1 := h.lo
 have h2 := h.hi
 obtain ⟨v, hv, hvx⟩ := h.mem
 have hle : negV l + zeroV l ≤ lessV l x := by
  have e := filter_sum_add (l := l) (p := fun v => decide (v.1 < 0)) (q := fun v => decide (v.1 = 0)) (r := fun v => decide (v.1 ≤ 0)) fun v _ => by
   by_cases h : v.1 < 0
   ·have h2 : v.1 ≤ 0 := by omega
    have h3 : v.1 ≠ 0 := by omega
    simp [h, h2, h3]
   ·by_cases h0 : v.1 = 0
    ·simp [h0]
    ·have : ¬ v.1 ≤ 0 := by omega
     simp [h, h0, this]
  have g := filter_sum_mono (p := fun v => decide (v.1 ≤ 0)) (q := fun v => decide (v.1 < x)) hp fun v _ hv => by simp only [decide_eq_true_eq] at hv ⊢; omega
  unfold negV zeroV lessV
  omega
 have hn0 : 0 ≤ zeroV l := (sumP_filter_le hp _).1
 have hu : upto (rowV part false l) (part x.natAbs) = sumP (l.filter fun v => sgn false v.1 && decide (part v.1.natAbs ≤ part x.natAbs)) := rowV_upto _ hp hs
 have hc : cnt (rowV part false l) (part x.natAbs) = sumP (l.filter fun v => sgn false v.1 && decide (part v.1.natAbs = part x.natAbs)) := rowV_cnt _ hp hs
 have hsum := posV_row (part := part) hp hs
 have hbig : lessV l x + sameV l x - negV l - zeroV l ≤ upto (rowV part false l) (part x.natAbs) := by
  rw [← upV_split]
  have e := filter_sum_add (l := l) (p := fun v => decide (v.1 ≤ 0)) (q := fun v => decide (0 < v.1) && decide (v.1 ≤ x)) (r := fun v => decide (v.1 ≤ x)) fun v _ => by
   by_cases h : v.1 ≤ 0
   ·have h2 : v.1 ≤ x := by omega
    have h3 : ¬ 0 < v.1 := by omega
    simp [h, h2, h3]
   ·have h3 : 0 < v.1 := by omega
    simp [h, h3]
  have e2 := filter_sum_add (l := l) (p := fun v => decide (v.1 < 0)) (q := fun v => decide (v.1 = 0)) (r := fun v => decide (v.1 ≤ 0)) fun v _ => by
   by_cases h : v.1 < 0
   ·have h2 : v.1 ≤ 0 := by omega
    have h3 : v.1 ≠ 0 := by omega
    simp [h, h2, h3]
   ·by_cases h0 : v.1 = 0
    ·simp [h0]
    ·have : ¬ v.1 ≤ 0 := by omega
     simp [h, h0, this]
  have g := filter_sum_mono (p := fun v => decide (0 < v.1) && decide (v.1 ≤ x)) (q := fun v => sgn false v.1 && decide (part v.1.natAbs ≤ part x.natAbs)) hp fun v hv hh => by
   simp only [Bool.and_eq_true, decide_eq_true_eq] at hh
   rw [sgn_false]
   have := hm v.1.natAbs x.natAbs (by omega) (by omega) (by obtain ⟨u, hu, e⟩ := h.mem; have := (hok u hu).1; omega)
   simp [hh.1, this]
  unfold upV negV zeroV
  omega
 have hsm : upto (rowV part false l) (part x.natAbs) - cnt (rowV part false l) (part x.natAbs) ≤ lessV l x - negV l - zeroV l := by
  have e := filter_sum_add (l := l) (p := fun v => sgn false v.1 && decide (part v.1.natAbs = part x.natAbs)) (q := fun v => sgn false v.1 && decide (part v.1.natAbs < part x.natAbs)) (r := fun v => sgn false v.1 && decide (part v.1.natAbs ≤ part x.natAbs)) fun v _ => by
   cases sgn false v.1
   ·simp
   ·by_cases h : part v.1.natAbs = part x.natAbs
    ·simp [h]
    ·by_cases h2 : part v.1.natAbs < part x.natAbs
     ·have h3 : part v.1.natAbs ≤ part x.natAbs := by omega
      simp [h, h2, h3]
     ·have h3 : ¬ part v.1.natAbs ≤ part x.natAbs := by omega
      simp [h, h2, h3]
  have e2 := filter_sum_add (l := l) (p := fun v => decide (v.1 ≤ 0)) (q := fun v => decide (0 < v.1) && decide (v.1 < x)) (r := fun v => decide (v.1 < x)) fun v _ => by
   by_cases h : v.1 ≤ 0
   ·have h2 : v.1 < x := by omega
    have h3 : ¬ 0 < v.1 := by omega
    simp [h, h2, h3]
   ·have h3 : 0 < v.1 := by omega
    simp [h, h3]
  have e3 := filter_sum_add (l := l) (p := fun v => decide (v.1 < 0)) (q := fun v => decide (v.1 = 0)) (r := fun v => decide (v.1 ≤ 0)) fun v _ => by
   by_cases h : v.1 < 0
   ·have h2 : v.1 ≤ 0 := by omega
    have h3 : v.1 ≠ 0 := by omega
    simp [h, h2, h3]
   ·by_cases h0 : v.1 = 0
    ·simp [h0]
    ·have : ¬ v.1 ≤ 0 := by omega
     simp [h, h0, this]
  have g := filter_sum_mono (p := fun v => sgn false v.1 && decide (part v.1.natAbs < part x.natAbs)) (q := fun v => decide (0 < v.1) && decide (v.1 < x)) hp fun v hv hh => by
   rw [sgn_false] at hh
   simp only [Bool.and_eq_true, decide_eq_true_eq] at hh ⊢
   refine ⟨hh.1, ?_⟩
   rcases Int.lt_or_le v.1 x with h | h
   ·exact h
   ·have := hm x.natAbs v.1.natAbs (by omega) (by omega) (by have := (hok v hv).1; omega)
    omega
  unfold lessV negV zeroV
  omega
 refine ⟨by omega, by omega, findP_uniq (rowV_gd hp hs) (Int.le_refl _) (by omega) (by rw [hsum]; have := (sumP_filter_le hp fun v => decide (0 < v.1)).2; unfold posV; omega) ?_ (by omega) (by omega)⟩
 rw [← hvx]
 exact rowV_mem hp hs hv (by rw [sgn_false, hvx]; simpa using hx)
end
end Go.Proofs.YtlbnlmhcpephbaaGreatDoor

namespace Go.Proofs.YtlbnlmhcpephbaaGreatDoor
open Go.RowKit
end Go.Proofs.YtlbnlmhcpephbaaGreatDoor

namespace Go.Proofs.YtlbnlmhcpephbaaGreatDoor
open Go.RowKit
theorem At.six {w : World} {b : Nat} {T : TypeId} {v0 v1 v2 v3 v4 v5 : Value} (h : At w b #[v0, v1, v2, v3, v4, v5] T) : w.cell? ⟨b, 0, none⟩ = some v0 ∧ w.cell? ⟨b, 1, none⟩ = some v1 ∧ w.cell? ⟨b, 2, none⟩ = some v2 ∧ w.cell? ⟨b, 3, none⟩ = some v3 ∧ w.cell? ⟨b, 4, none⟩ = some v4 ∧ w.cell? ⟨b, 5, none⟩ = some v5 ∧
  w.frozen? ⟨b, 0, none⟩ = false ∧ w.frozen? ⟨b, 1, none⟩ = false ∧ w.frozen? ⟨b, 2, none⟩ = false ∧ w.frozen? ⟨b, 3, none⟩ = false ∧ w.frozen? ⟨b, 4, none⟩ = false ∧ w.frozen? ⟨b, 5, none⟩ = false :=
 ⟨h.cell rfl, h.cell rfl, h.cell rfl, h.cell rfl, h.cell rfl, h.cell rfl, h.frozen 0, h.frozen 1, h.frozen 2, h.frozen 3, h.frozen 4, h.frozen 5⟩
def BinsAt (w : World) (m : Nat) (lows reps : Value) (digits side most : Int) (A : Option Addr) (len cap : Nat) : Prop := At w m #[lows, reps, .int .i64 digits, .int .i64 side, .int .i64 most, .slice A len cap] 83
def PartOk (w : World) (m : Nat) (part : Nat → Int) : Prop := ∀ (W : World), Below w.heap.size w W → ∀ a : Nat, 0 < a → a ≤ 9223372036854775808 →
 Calls Tryz.prog 17 #[.pointer (some ⟨m, 0, none⟩), .int .u64 a] W fun e W' => e = .returned (.int .i64 (part a)) ∧ Below W.heap.size W W'
def StandOk (w : World) (m : Nat) (stand : Int → Int) : Prop := ∀ (W : World), Below w.heap.size w W → ∀ x : Int, -9223372036854775808 ≤ x → x ≤ 9223372036854775807 →
 Calls Tryz.prog 402 #[.pointer (some ⟨m, 0, none⟩), .int .i64 x] W fun e W' => e = .returned (.int .i64 (stand x)) ∧ Below W.heap.size W W'
def partD (d : Int) (a : Nat) : Int := (idxN (gOf d) a : Nat)
def repM (g m : Nat) : Nat := loN g m + (hiN g m - loN g m) / 2
def standV (rep : Nat → Nat) (x : Int) : Int := if x = 0 then 0 else if 0 < x then min (rep x.natAbs : Int) 9223372036854775807 else -(rep x.natAbs : Int)
def RowR (ps : List (Int × Int)) (w : World) (e : Ending) (w' : World) : Prop := ∃ A' c', e = .returned (.slice A' ps.length c') ∧ RdP w' A' ps ∧ Below w.heap.size w w'
end Go.Proofs.YtlbnlmhcpephbaaGreatDoor

namespace Go.Proofs.YtlbnlmhcpephbaaGreatDoor
open Go.RowKit
theorem partD_mono (d : Int) : PartMono (partD d) := fun a b ha hab hb => by
 have := idx_mono (g := gOf d) ha hab
 unfold partD
 omega
theorem repI_idx {g m : Nat} (h : 0 < m) : repI g (idxN g m) = repM g m := by unfold repI repM; rw [loI_idx h, hiI_idx h]
theorem repM_le {g m : Nat} (h : 0 < m) (h2 : m ≤ 9223372036854775808) : loN g m ≤ repM g m ∧ repM g m ≤ hiN g m := by
 have := lo_le_hi (g := g) h h2
 unfold repM; omega
theorem wrap_in {z : Int} (h : 0 ≤ z ∧ z < 18446744073709551616) : IntKind.u64.wrap z = z := by simp only [IntKind.wrap_u64]; omega
theorem partD_rng {d : Int} {m : Nat} (h1 : 0 < m) (h2 : m ≤ 9223372036854775808) : 0 < partD d m ∧ partD d m ≤ 1048576 := by
 have hg := gOf_le d
 have a := idx_pos (g := gOf d) h1
 have b := idx_le_top (g := gOf d) (by omega) h1 h2
 have c := lastI hg
 unfold partD
 omega
def topD (d : Int) : Int := ((64 - gOf d) * 2 ^ gOf d : Nat)
theorem partD_top {d : Int} {m : Nat} (h1 : 0 < m) (h2 : m ≤ 9223372036854775808) : partD d m ≤ topD d := by
 have b := idx_le_top (g := gOf d) (by have := gOf_le d; omega) h1 h2
 unfold partD topD
 omega
def repD (d : Int) (i : Int) : Int := if 0 < i ∧ i ≤ topD d then (repI (gOf d) i.toNat : Nat) else 0
theorem repD_part {d : Int} {m : Nat} (h1 : 0 < m) (h2 : m ≤ 9223372036854775808) : repD d (partD d m) = (repM (gOf d) m : Nat) := by
 unfold repD
 rw [if_pos ⟨(partD_rng h1 h2).1, partD_top h1 h2⟩]
 unfold partD
 rw [Int.toNat_natCast, repI_idx h1]
theorem repI_le {d : Int} {i : Nat} (h1 : 0 < i) (h2 : (i : Int) ≤ topD d) : repI (gOf d) i ≤ 9223372036854775808 := by
 have hg := gOf_le d
 unfold topD at h2
 have := hiI_le (g := gOf d) (i := i) (by omega) h1 (by omega)
 unfold repI
 omega
end Go.Proofs.YtlbnlmhcpephbaaGreatDoor
