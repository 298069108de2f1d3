/- Plain laws: where the t-th one lies, how many there are up to an index, of what is kept next to the last index; no program in sight. -/
import Derived.Test.YtpgfnpcdajnpbaaLowFind
import Derived.Test.YtpgfnpcdajnpbaaRef09
namespace Go.Proofs.Ytpgfnpcdajnpbaa

theorem findP_shift {t d : Int} : ∀ {ps : List (Int × Int)} {s : Int}, (∀ x ∈ ps, 0 < x.2) → 0 ≤ s → 0 ≤ d → s + d + sumP ps < 18446744073709551616 → 0 < t - d → findP (t - d) s ps = findP t (s + d) ps
  | [], _, _, _, _, _, _ => rfl
  | x :: ps, s, hp, hs, hd, hb, ht => by
    have h1 := hp x (by simp)
    have h2 := sumP_nonneg (ps := ps) fun y hy => hp y (by simp [hy])
    rw [sumP_cons] at hb
    unfold findP
    rw [Int.emod_eq_of_lt (by omega : 0 ≤ s + x.2) (by omega), Int.emod_eq_of_lt (by omega : 0 ≤ s + d + x.2) (by omega)]
    by_cases h : t - d ≤ s + x.2
    · rw [if_pos ⟨ht, h⟩, if_pos ⟨by omega, by omega⟩]
    · rw [if_neg (fun k => h k.2), if_neg (fun k => h (by omega)), findP_shift (fun y hy => hp y (by simp [hy])) (by omega) hd (by omega) ht]
      rw [show s + x.2 + d = s + d + x.2 by omega]
theorem near_cons_far {s : Bool} {most e : Int} {x : Int × Int} {ps : List (Int × Int)} (h : ¬ gap s e x.1 < most) : near s most e (x :: ps) = near s most e ps := by
  unfold near; rw [List.filter_cons_of_neg (by rw [decide_eq_true_eq]; exact h)]
theorem find_near {most e t : Int} : ∀ {ps : List (Int × Int)} {s : Int}, Gd ps → 0 ≤ s → s < t → s + sumP ps < 18446744073709551616 →
    keepO most e (findP t s ps) = if t ≤ s + (sumP ps - sumP (near sd most e ps)) then none else findP t (s + (sumP ps - sumP (near sd most e ps))) (near sd most e ps)
  | [], s, _, _, ht, _ => by
    rw [near_nil, sumP_nil]
    unfold findP
    rw [ite_self]
    rfl
  | x :: ps, s, h, h0, ht, hb => by
    have h1 := h.pos x (by simp)
    have h2 := sumP_nonneg h.tail.pos
    by_cases hx : gap sd e x.1 < most
    · have hn : near sd most e (x :: ps) = x :: ps := near_all h hx
      rw [hn, Int.sub_self, Int.add_zero, if_neg (by omega)]
      cases hf : findP t s (x :: ps) with
      | none => rfl
      | some i =>
        obtain ⟨y, hy, e1⟩ := findP_mem hf
        rw [← hn] at hy
        unfold keepO
        dsimp only
        rw [if_pos]
        rw [← e1]
        exact of_decide_eq_true (List.mem_filter.1 hy).2
    · have hsm := near_sum (s := sd) (most := most) (e := e) h.tail
      rw [near_cons_far hx, sumP_cons] at *
      unfold findP
      rw [Int.emod_eq_of_lt (by omega : 0 ≤ s + x.2) (by omega)]
      by_cases hle : t ≤ s + x.2
      · rw [if_pos ⟨by omega, hle⟩, if_pos (by omega)]
        unfold keepO
        dsimp only
        rw [if_neg hx]
      · rw [if_neg (fun k => hle k.2), find_near h.tail (by omega) (by omega) (by omega)]
        rw [show s + x.2 + (sumP ps - sumP (near sd most e ps)) = s + (x.2 + sumP ps - sumP (near sd most e ps)) by omega]
        cases hn : near sd most e ps with
        | nil => simp [findP]
        | cons y l => rfl
theorem lowFind_doc {most t : Int} {all : List (Int × Int)} (h : Gd all) (hs : sumP all < 18446744073709551616) (ht : 0 ≤ t) :
    lowFind (sumP all - sumP (keptP sd most all)) (keptP sd most all) t = docFind most all t := by
  have hsm := near_sum (s := sd) (most := most) (e := endP sd all) h
  have hg := near_gd (s := sd) (most := most) (e := endP sd all) h
  unfold lowFind docFind
  rw [← kept_near sd most all]
  by_cases h0 : t = 0
  · subst h0
    rw [findP_zero, if_pos (by omega)]
    rfl
  · rw [find_near h (by omega) (by omega) (by omega), Int.zero_add]
    by_cases hl : t ≤ sumP all - sumP (near sd most (endP sd all) all)
    · rw [if_pos hl, if_pos hl]
    · rw [if_neg hl, if_neg hl, findP_shift hg.pos (by omega) (by omega) (by omega) (by omega), Int.zero_add]

theorem sumP_filter_not (p : Int × Int → Bool) : ∀ (l : List (Int × Int)), sumP l = sumP (l.filter p) + sumP (l.filter fun x => !p x)
  | [] => rfl
  | x :: l => by
    have := sumP_filter_not p l
    rw [List.filter_cons, List.filter_cons, sumP_cons]
    cases hp : p x with
    | true => simp only [if_true, Bool.not_true, Bool.false_eq_true, if_false, sumP_cons]; omega
    | false => simp only [if_true, Bool.not_false, Bool.false_eq_true, if_false, sumP_cons]; omega
theorem sumP_filter_mono {p q : Int × Int → Bool} : ∀ {l : List (Int × Int)}, (∀ x ∈ l, 0 < x.2) → (∀ x ∈ l, p x = true → q x = true) → sumP (l.filter p) ≤ sumP (l.filter q)
  | [], _, _ => Int.le_refl _
  | x :: l, hp, h => by
    have h1 := hp x (by simp)
    have h2 := sumP_filter_mono (p := p) (q := q) (l := l) (fun y hy => hp y (by simp [hy])) fun y hy => h y (by simp [hy])
    have h3 := h x (by simp)
    rw [List.filter_cons, List.filter_cons]
    by_cases a : p x = true
    · rw [if_pos a, if_pos (h3 a), sumP_cons, sumP_cons]; omega
    · rw [if_neg a]
      split
      · rw [sumP_cons]; omega
      · exact h2
theorem lowBelow_doc {most q : Int} {all : List (Int × Int)} (h : Gd all) (hm : 1 ≤ most) :
    let lb := lowBelow most (sumP all - sumP (keptP sd most all)) (keptP sd most all) q
    lb.1 ≤ upto all q ∧ upto all q ≤ lb.2 ∧ (lb.1 = lb.2 ∨ 0 < sumP all - sumP (keptP sd most all)) := by
  have hsm := near_sum (s := sd) (most := most) (e := endP sd all) h
  rw [kept_near] at hsm
  have hu := upto_le q h
  by_cases hn : all = []
  · subst hn
    intro lb
    have : lb = (0, 0) := rfl
    rw [this]
    exact ⟨Int.le_refl _, Int.le_refl _, .inl rfl⟩
  · obtain ⟨k1, k2⟩ := kept_end (s := sd) (most := most) h hm hn
    have hfar := sumP_filter_not (fun x => decide (gap sd (endP sd all) x.1 < most)) all
    rw [show sumP (all.filter fun x => decide (gap sd (endP sd all) x.1 < most)) = sumP (keptP sd most all) from rfl] at hfar
    dsimp only
    unfold lowBelow
    rw [k2]
    by_cases hg : most < endP sd all - q
    · rw [if_pos ⟨ne_len.2 k1, hg⟩]
      dsimp only
      have : upto all q ≤ sumP (all.filter fun x => !decide (gap sd (endP sd all) x.1 < most)) := sumP_filter_mono h.pos fun x _ hx => by
        rw [decide_eq_true_eq] at hx
        have : gap sd (endP sd all) x.1 = endP sd all - x.1 := rfl
        simp; omega
      exact ⟨hu.1, by omega, by by_cases h0 : 0 < sumP all - sumP (keptP sd most all)
                                · exact .inr h0
                                · exact .inl (by omega)⟩
    · rw [if_neg (fun k => hg k.2)]
      dsimp only
      have h1 := sumP_filter_not (fun x => decide (gap sd (endP sd all) x.1 < most)) (all.filter fun x => decide (x.1 ≤ q))
      have h2 : sumP ((all.filter fun x => decide (x.1 ≤ q)).filter fun x => decide (gap sd (endP sd all) x.1 < most)) = upto (keptP sd most all) q := by
        unfold upto keptP
        rw [List.filter_filter, List.filter_filter]
        exact congrArg sumP (List.filter_congr fun x _ => Bool.and_comm _ _)
      have h3 : (all.filter fun x => decide (x.1 ≤ q)).filter (fun x => !decide (gap sd (endP sd all) x.1 < most)) = all.filter fun x => !decide (gap sd (endP sd all) x.1 < most) := by
        rw [List.filter_filter]
        refine List.filter_congr fun x _ => ?_
        by_cases hx : gap sd (endP sd all) x.1 < most
        · simp [hx]
        · have : gap sd (endP sd all) x.1 = endP sd all - x.1 := rfl
          have hxq : x.1 ≤ q := by omega
          simp [hx, hxq]
      rw [h2, h3] at h1
      rw [show sumP (all.filter fun x => decide (x.1 ≤ q)) = upto all q from rfl] at h1
      exact ⟨by omega, by omega, .inl rfl⟩
theorem find_one {ps : List (Int × Int)} (h : Gd ps) (hs : sumP ps < 18446744073709551616) (hn : ps ≠ []) : (findP 1 0 ps).isSome = true := by
  cases ps with
  | nil => exact absurd rfl hn
  | cons x ps =>
    have h1 := h.pos x (by simp)
    have h2 := sumP_nonneg h.tail.pos
    rw [sumP_cons] at hs
    unfold findP
    rw [Int.emod_eq_of_lt (by omega : 0 ≤ 0 + x.2) (by omega), if_pos (by omega)]
    rfl
end Go.Proofs.Ytpgfnpcdajnpbaa

