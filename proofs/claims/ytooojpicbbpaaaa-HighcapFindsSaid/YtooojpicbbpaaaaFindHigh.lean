/- Plain laws: where the t-th one lies, how many there are up to an index, of what is kept next to the first index; no program in sight. -/
import Derived.Test.YtooojpicbbpaaaaHighFind
import Derived.Test.YtooojpicbbpaaaaRef10
namespace Go.Proofs.Ytooojpicbbpaaaa

theorem find_near {most e t : Int} : ∀ {ps : List (Int × Int)} {s : Int}, Gd ps → keepO most e (findP t s ps) = findP t s (near sd most e ps)
  | [], s, _ => rfl
  | x :: ps, s, h => by
    by_cases hx : gap sd e x.1 < most
    · have hn : near sd most e (x :: ps) = x :: near sd most e ps := by unfold near; rw [List.filter_cons_of_pos (by rw [decide_eq_true_eq]; exact hx)]
      rw [hn]
      unfold findP
      by_cases hc : 0 < t ∧ t ≤ (s + x.2) % 18446744073709551616
      · rw [if_pos hc, if_pos hc]
        unfold keepO
        dsimp only
        rw [if_pos hx]
      · rw [if_neg hc, if_neg hc]
        exact find_near h.tail
    · have hall : ∀ y ∈ x :: ps, ¬ gap sd e y.1 < most := fun y hy => by
        have h1 : gap sd e y.1 = y.1 - e := rfl
        have h2 : gap sd e x.1 = x.1 - e := rfl
        rcases List.mem_cons.1 hy with rfl | hy
        · exact hx
        · have := h.head y hy; omega
      have hn : near sd most e (x :: ps) = [] := List.filter_eq_nil_iff.2 fun y hy => by rw [decide_eq_true_eq]; exact hall y hy
      rw [hn]
      cases hf : findP t s (x :: ps) with
      | none => rfl
      | some i =>
        obtain ⟨y, hy, e1⟩ := findP_mem hf
        unfold keepO
        dsimp only
        rw [if_neg (by rw [← e1]; exact hall y hy)]
        rfl
theorem lowFind_doc {most t : Int} {all : List (Int × Int)} (h : Gd all) (_ : sumP all < 18446744073709551616) (_ : 0 ≤ t) :
    lowFind (sumP all - sumP (keptP sd most all)) (keptP sd most all) t = docFind most all t := by
  unfold lowFind docFind
  rw [← kept_near sd most all, find_near h]

theorem sumP_filter_not (p : Int × Int → Bool) : ∀ (l : List (Int × Int)), sumP l = sumP (l.filter p) + sumP (l.filter fun x => !p x)
  | [] => rfl
  | x :: l => by
    have := sumP_filter_not p l
    rw [List.filter_cons, List.filter_cons, sumP_cons]
    cases hp : p x with
    | true => simp only [if_true, Bool.not_true, Bool.false_eq_true, if_false, sumP_cons]; omega
    | false => simp only [if_true, Bool.not_false, Bool.false_eq_true, if_false, sumP_cons]; omega
theorem lowBelow_doc {most q : Int} {all : List (Int × Int)} (h : Gd all) (hm : 1 ≤ most) :
    let lb := lowBelow most (sumP all - sumP (keptP sd most all)) (keptP sd most all) q
    lb.1 ≤ upto all q ∧ upto all q ≤ lb.2 ∧ (lb.1 = lb.2 ∨ 0 < sumP all - sumP (keptP sd most all)) := by
  by_cases hn : all = []
  · subst hn
    intro lb
    have : lb = (0, 0) := rfl
    rw [this]
    exact ⟨Int.le_refl _, Int.le_refl _, .inl rfl⟩
  · obtain ⟨k1, k2⟩ := kept_end (s := sd) (most := most) h hm hn
    have hfar := sumP_filter_not (fun x => decide (gap sd (endP sd all) x.1 < most)) all
    rw [show sumP (all.filter fun x => decide (gap sd (endP sd all) x.1 < most)) = sumP (keptP sd most all) from rfl] at hfar
    have h1 := sumP_filter_not (fun x => decide (gap sd (endP sd all) x.1 < most)) (all.filter fun x => decide (x.1 ≤ q))
    have h2 : sumP ((all.filter fun x => decide (x.1 ≤ q)).filter fun x => decide (gap sd (endP sd all) x.1 < most)) = upto (keptP sd most all) q := by
      unfold upto keptP
      rw [List.filter_filter, List.filter_filter]
      exact congrArg sumP (List.filter_congr fun x _ => Bool.and_comm _ _)
    rw [h2, show sumP (all.filter fun x => decide (x.1 ≤ q)) = upto all q from rfl] at h1
    have hsw : (all.filter fun x => decide (x.1 ≤ q)).filter (fun x => !decide (gap sd (endP sd all) x.1 < most)) = (all.filter fun x => !decide (gap sd (endP sd all) x.1 < most)).filter fun x => decide (x.1 ≤ q) := by
      rw [List.filter_filter, List.filter_filter]
      exact List.filter_congr fun x _ => Bool.and_comm _ _
    rw [hsw] at h1
    have hb := sumP_filter_le (ps := all.filter fun x => !decide (gap sd (endP sd all) x.1 < most)) (fun x hx => h.pos x (List.mem_filter.1 hx).1) (fun x => decide (x.1 ≤ q))
    dsimp only
    unfold lowBelow
    rw [k2]
    by_cases hg : most ≤ q - endP sd all
    · rw [if_pos ⟨ne_len.2 k1, hg⟩]
      dsimp only
      refine ⟨by omega, by omega, ?_⟩
      by_cases h0 : 0 < sumP all - sumP (keptP sd most all)
      · exact .inr h0
      · exact .inl (by omega)
    · rw [if_neg (fun k => hg k.2)]
      dsimp only
      have hz : (all.filter fun x => !decide (gap sd (endP sd all) x.1 < most)).filter (fun x => decide (x.1 ≤ q)) = [] := List.filter_eq_nil_iff.2 fun x hx => by
        have h3 := (List.mem_filter.1 hx).2
        have h4 : gap sd (endP sd all) x.1 = x.1 - endP sd all := rfl
        simp only [Bool.not_eq_true', decide_eq_false_iff_not] at h3
        rw [decide_eq_true_eq]
        omega
      rw [hz, sumP_nil] at h1
      exact ⟨by omega, by omega, .inl rfl⟩
theorem find_one {ps : List (Int × Int)} (h : Gd ps) (hs : sumP ps < 18446744073709551616) (hn : ps ≠ []) : (findP 1 0 ps).isSome = true := by
  cases ps with
  | nil => exact absurd rfl hn
  | cons x ps =>
    have h1 := h.pos x (by simp)
    have h2 := sumP_nonneg h.tail.pos
    rw [sumP_cons] at hs
    unfold findP
    rw [Int.emod_eq_of_lt (by omega : 0 ≤ 0 + x.2) (by omega), if_pos (by omega)]
    rfl
end Go.Proofs.Ytooojpicbbpaaaa

