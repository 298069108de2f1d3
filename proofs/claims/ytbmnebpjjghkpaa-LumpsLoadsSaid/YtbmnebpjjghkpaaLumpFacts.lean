/- Plain laws of lumps: their ends, ranks and quantiles are those of all values. -/
import Derived.Test.YtbmnebpjjghkpaaAlive22
namespace Go.Proofs.Ytbmnebpjjghkpaa

/-- The least of all values is the least of all lumps; so with the greatest. -/
structure EndsI (l : List (Int × Int)) (ls : List Lu) : Prop where
  lo1 : ∀ v ∈ l, ∃ y ∈ ls, y.2.1 ≤ v.1
  lo2 : ∀ y ∈ ls, ∃ v ∈ l, v.1 ≤ y.2.1
  hi1 : ∀ v ∈ l, ∃ y ∈ ls, v.1 ≤ y.2.2
  hi2 : ∀ y ∈ ls, ∃ v ∈ l, y.2.2 ≤ v.1
theorem EndsI.nil : EndsI [] [] := ⟨by simp, by simp, by simp, by simp⟩
theorem EndsI.snoc {l : List (Int × Int)} {ls : List Lu} {v : Int × Int} (h : EndsI l ls) (n : Int) : EndsI (l ++ [v]) (laid ls (n, v.1, v.1)) := by
  have hn : ∃ y ∈ laid ls (n, v.1, v.1), lsame y (n, v.1, v.1) := mem_laid'
  refine ⟨fun x hx => ?_, fun y hy => ?_, fun x hx => ?_, fun y hy => ?_⟩
  · rcases List.mem_append.1 hx with hx | hx
    · obtain ⟨y, hy, hle⟩ := h.lo1 x hx
      obtain ⟨z, hz, hs⟩ := mem_laid (l := (n, v.1, v.1)) y hy
      exact ⟨z, hz, by rw [hs.1]; exact hle⟩
    · rw [List.mem_singleton] at hx; subst hx
      obtain ⟨y, hy, hs⟩ := hn
      exact ⟨y, hy, by rw [hs.1]; exact Int.le_refl _⟩
  · rcases laid_mem hy with hs | hy
    · exact ⟨v, by simp, by rw [hs.1]; exact Int.le_refl _⟩
    · obtain ⟨x, hx, hle⟩ := h.lo2 y hy
      exact ⟨x, by simp [hx], hle⟩
  · rcases List.mem_append.1 hx with hx | hx
    · obtain ⟨y, hy, hle⟩ := h.hi1 x hx
      obtain ⟨z, hz, hs⟩ := mem_laid (l := (n, v.1, v.1)) y hy
      exact ⟨z, hz, by rw [hs.2]; exact hle⟩
    · rw [List.mem_singleton] at hx; subst hx
      obtain ⟨y, hy, hs⟩ := hn
      exact ⟨y, hy, by rw [hs.2]; exact Int.le_refl _⟩
  · rcases laid_mem hy with hs | hy
    · exact ⟨v, by simp, by rw [hs.2]; exact Int.le_refl _⟩
    · obtain ⟨x, hx, hle⟩ := h.hi2 y hy
      exact ⟨x, by simp [hx], hle⟩
theorem laidAll_mem : ∀ {os ls : List Lu} {y : Lu}, y ∈ laidAll ls os → ∃ x ∈ ls ++ os, lsame y x
  | [], ls, y, h => ⟨y, by simpa [laidAll] using h, rfl, rfl⟩
  | o :: os, ls, y, h => by
    obtain ⟨x, hx, hs⟩ := laidAll_mem (os := os) (ls := laid ls o) (y := y) h
    rcases List.mem_append.1 hx with hx | hx
    · rcases laid_mem hx with h2 | h2
      · exact ⟨o, by simp, hs.1.trans h2.1, hs.2.trans h2.2⟩
      · exact ⟨x, by simp [h2], hs⟩
    · exact ⟨x, by simp [hx], hs⟩
theorem mem_laidAll : ∀ {os ls : List Lu} {x : Lu}, x ∈ ls ++ os → ∃ y ∈ laidAll ls os, lsame y x
  | [], ls, x, h => ⟨x, by simpa [laidAll] using h, rfl, rfl⟩
  | o :: os, ls, x, h => by
    have key : ∃ z ∈ laid ls o ++ os, lsame z x := by
      rcases List.mem_append.1 h with h | h
      · obtain ⟨z, hz, hs⟩ := mem_laid (l := o) x h
        exact ⟨z, by simp [hz], hs⟩
      · rcases List.mem_cons.1 h with rfl | h
        · obtain ⟨z, hz, hs⟩ := mem_laid' (ls := ls) (l := x)
          exact ⟨z, by simp [hz], hs⟩
        · exact ⟨x, by simp [h], rfl, rfl⟩
    obtain ⟨z, hz, hs⟩ := key
    obtain ⟨y, hy, ht⟩ := mem_laidAll (os := os) (ls := laid ls o) hz
    exact ⟨y, hy, ht.1.trans hs.1, ht.2.trans hs.2⟩
theorem EndsI.join {l l' : List (Int × Int)} {ls os : List Lu} (h : EndsI l ls) (k : EndsI l' os) : EndsI (l ++ l') (laidAll ls os) := by
  refine ⟨fun x hx => ?_, fun y hy => ?_, fun x hx => ?_, fun y hy => ?_⟩
  · have : ∃ y ∈ ls ++ os, y.2.1 ≤ x.1 := by
      rcases List.mem_append.1 hx with hx | hx
      · obtain ⟨y, hy, e⟩ := h.lo1 x hx; exact ⟨y, by simp [hy], e⟩
      · obtain ⟨y, hy, e⟩ := k.lo1 x hx; exact ⟨y, by simp [hy], e⟩
    obtain ⟨y, hy, e⟩ := this
    obtain ⟨z, hz, hs⟩ := mem_laidAll hy
    exact ⟨z, hz, by rw [hs.1]; exact e⟩
  · obtain ⟨x, hx, hs⟩ := laidAll_mem hy
    rw [hs.1]
    rcases List.mem_append.1 hx with hx | hx
    · obtain ⟨v, hv, e⟩ := h.lo2 x hx; exact ⟨v, by simp [hv], e⟩
    · obtain ⟨v, hv, e⟩ := k.lo2 x hx; exact ⟨v, by simp [hv], e⟩
  · have : ∃ y ∈ ls ++ os, x.1 ≤ y.2.2 := by
      rcases List.mem_append.1 hx with hx | hx
      · obtain ⟨y, hy, e⟩ := h.hi1 x hx; exact ⟨y, by simp [hy], e⟩
      · obtain ⟨y, hy, e⟩ := k.hi1 x hx; exact ⟨y, by simp [hy], e⟩
    obtain ⟨y, hy, e⟩ := this
    obtain ⟨z, hz, hs⟩ := mem_laidAll hy
    exact ⟨z, hz, by rw [hs.2]; exact e⟩
  · obtain ⟨x, hx, hs⟩ := laidAll_mem hy
    rw [hs.2]
    rcases List.mem_append.1 hx with hx | hx
    · obtain ⟨v, hv, e⟩ := h.hi2 x hx; exact ⟨v, by simp [hv], e⟩
    · obtain ⟨v, hv, e⟩ := k.hi2 x hx; exact ⟨v, by simp [hv], e⟩
theorem out2_or {ls : List Lu} {i : Nat} (h : i + 1 < ls.length) {x : Lu} (hx : x ∈ ls) : x ∈ out2 ls i ∨ x = lget ls i ∨ x = lget ls (i + 1) := by
  rw [split2 h] at hx
  unfold out2
  simp only [List.mem_append, List.mem_cons] at hx ⊢
  rcases hx with hx | hx | hx | hx
  · exact .inl (.inl hx)
  · exact .inr (.inl hx)
  · exact .inr (.inr hx)
  · exact .inl (.inr hx)
theorem EndsI.press1 {l : List (Int × Int)} {ls : List Lu} (h : EndsI l ls) (hg : GdL ls) (hl : 2 ≤ ls.length) : EndsI l (press1 ls) := by
  have hp := pick_lt hl
  obtain ⟨p, hpe⟩ : ∃ p, pick ls = p := ⟨_, rfl⟩
  have hlt := gdl_lt hg (i := p) (j := p + 1) (by omega) (by omega)
  have m1 : lget ls p ∈ ls := mem_lget (by omega)
  have m2 : lget ls (p + 1) ∈ ls := mem_lget (by omega)
  unfold Go.Proofs.Ytbmnebpjjghkpaa.press1
  rw [hpe] at hp ⊢
  have hle : (lget ls p).2.1 ≤ (lget ls (p + 1)).2.1 := by unfold lless at hlt; omega
  have hb : ∃ y ∈ laid (out2 ls p) (both ls p), lsame y (both ls p) := mem_laid'
  refine ⟨fun x hx => ?_, fun y hy => ?_, fun x hx => ?_, fun y hy => ?_⟩
  · obtain ⟨y, hy, e⟩ := h.lo1 x hx
    rcases out2_or hp hy with h1 | h1 | h1
    · obtain ⟨z, hz, hs⟩ := mem_laid (l := both ls p) y h1
      exact ⟨z, hz, by rw [hs.1]; exact e⟩
    · obtain ⟨z, hz, hs⟩ := hb
      refine ⟨z, hz, ?_⟩
      rw [hs.1]; unfold both; dsimp only; rw [← h1]; exact e
    · obtain ⟨z, hz, hs⟩ := hb
      refine ⟨z, hz, ?_⟩
      rw [hs.1]; unfold both; dsimp only; rw [h1] at e; omega
  · rcases laid_mem hy with hs | hy
    · rw [hs.1]; unfold both; dsimp only
      exact h.lo2 _ m1
    · exact h.lo2 y ((out2_sub ls p).subset hy)
  · obtain ⟨y, hy, e⟩ := h.hi1 x hx
    rcases out2_or hp hy with h1 | h1 | h1
    · obtain ⟨z, hz, hs⟩ := mem_laid (l := both ls p) y h1
      exact ⟨z, hz, by rw [hs.2]; exact e⟩
    · obtain ⟨z, hz, hs⟩ := hb
      refine ⟨z, hz, ?_⟩
      rw [hs.2]; unfold both; dsimp only; rw [h1] at e; omega
    · obtain ⟨z, hz, hs⟩ := hb
      refine ⟨z, hz, ?_⟩
      rw [hs.2]; unfold both; dsimp only; rw [h1] at e; omega
  · rcases laid_mem hy with hs | hy
    · rw [hs.2]; unfold both; dsimp only
      rcases (show max (lget ls p).2.2 (lget ls (p + 1)).2.2 = (lget ls p).2.2 ∨ max (lget ls p).2.2 (lget ls (p + 1)).2.2 = (lget ls (p + 1)).2.2 by omega) with e | e
      · rw [e]; exact h.hi2 _ m1
      · rw [e]; exact h.hi2 _ m2
    · exact h.hi2 y ((out2_sub ls p).subset hy)
theorem EndsI.press {most : Int} {l : List (Int × Int)} {ls : List Lu} (h : EndsI l ls) (hg : GdL ls) (hm : 1 ≤ most) : EndsI l (press most ls) :=
  (press_ind (P := fun ks => GdL ks ∧ EndsI l ks) hm (fun ks hk hl => ⟨press1_gd hk.1 (by omega), hk.2.press1 hk.1 (by omega)⟩) (Nat.le_refl _) ⟨hg, h⟩).1.2

theorem lowV_spec : ∀ (l : List (Int × Int)) (a : Int), lowV a l ≤ a ∧ (∀ v ∈ l, lowV a l ≤ v.1) ∧ (lowV a l = a ∨ ∃ v ∈ l, v.1 = lowV a l)
  | [], a => ⟨Int.le_refl _, by simp, .inl rfl⟩
  | x :: l, a => by
    obtain ⟨h1, h2, h3⟩ := lowV_spec l (min a x.1)
    have e : lowV a (x :: l) = lowV (min a x.1) l := rfl
    rw [e]
    refine ⟨by omega, fun v hv => ?_, ?_⟩
    · rcases List.mem_cons.1 hv with rfl | hv
      · omega
      · exact h2 v hv
    · rcases h3 with h3 | ⟨v, hv, h3⟩
      · rcases (show min a x.1 = a ∨ min a x.1 = x.1 by omega) with h | h
        · exact .inl (h3.trans h)
        · exact .inr ⟨x, by simp, by rw [h3, h]⟩
      · exact .inr ⟨v, by simp [hv], h3⟩
theorem highV_spec : ∀ (l : List (Int × Int)) (a : Int), a ≤ highV a l ∧ (∀ v ∈ l, v.1 ≤ highV a l) ∧ (highV a l = a ∨ ∃ v ∈ l, v.1 = highV a l)
  | [], a => ⟨Int.le_refl _, by simp, .inl rfl⟩
  | x :: l, a => by
    obtain ⟨h1, h2, h3⟩ := highV_spec l (max a x.1)
    have e : highV a (x :: l) = highV (max a x.1) l := rfl
    rw [e]
    refine ⟨by omega, fun v hv => ?_, ?_⟩
    · rcases List.mem_cons.1 hv with rfl | hv
      · omega
      · exact h2 v hv
    · rcases h3 with h3 | ⟨v, hv, h3⟩
      · rcases (show max a x.1 = a ∨ max a x.1 = x.1 by omega) with h | h
        · exact .inl (h3.trans h)
        · exact .inr ⟨x, by simp, by rw [h3, h]⟩
      · exact .inr ⟨v, by simp [hv], h3⟩
theorem topL_spec : ∀ (ls : List Lu) (a : Int), a ≤ topL a ls ∧ (∀ v ∈ ls, v.2.2 ≤ topL a ls) ∧ (topL a ls = a ∨ ∃ v ∈ ls, v.2.2 = topL a ls)
  | [], a => ⟨Int.le_refl _, by simp, .inl rfl⟩
  | x :: l, a => by
    obtain ⟨h1, h2, h3⟩ := topL_spec l (max a x.2.2)
    have e : topL a (x :: l) = topL (max a x.2.2) l := rfl
    rw [e]
    refine ⟨by omega, fun v hv => ?_, ?_⟩
    · rcases List.mem_cons.1 hv with rfl | hv
      · omega
      · exact h2 v hv
    · rcases h3 with h3 | ⟨v, hv, h3⟩
      · rcases (show max a x.2.2 = a ∨ max a x.2.2 = x.2.2 by omega) with h | h
        · exact .inl (h3.trans h)
        · exact .inr ⟨x, by simp, by rw [h3, h]⟩
      · exact .inr ⟨v, by simp [hv], h3⟩
theorem head_mem {l : List (Int × Int)} (h : l ≠ []) : l.headD (0, 0) ∈ l := by
  cases l with
  | nil => exact absurd rfl h
  | cons x l => simp
theorem EndsI.ne {l : List (Int × Int)} {ls : List Lu} (h : EndsI l ls) : l = [] ↔ ls = [] := by
  constructor
  · rintro rfl
    cases ls with
    | nil => rfl
    | cons y ls => obtain ⟨v, hv, _⟩ := h.lo2 y (by simp); simp at hv
  · rintro rfl
    cases l with
    | nil => rfl
    | cons y ls => obtain ⟨v, hv, _⟩ := h.lo1 y (by simp); simp at hv
/-- The first lump's least value is the least one. -/
theorem EndsI.low {l : List (Int × Int)} {ls : List Lu} (h : EndsI l ls) (hg : GdL ls) (h0 : l ≠ []) : (lget ls 0).2.1 = lowV (l.headD (0, 0)).1 l ∧ (lget ls 0) ∈ ls := by
  have hl : ls ≠ [] := fun e => h0 (h.ne.2 e)
  have hlen := List.length_pos_iff.2 hl
  obtain ⟨h1, h2, h3⟩ := lowV_spec l (l.headD (0, 0)).1
  have hm := mem_lget hlen
  have hmin : ∀ y ∈ ls, (lget ls 0).2.1 ≤ y.2.1 := fun y hy => by
    obtain ⟨i, hi, rfl⟩ := List.getElem_of_mem hy
    rcases Nat.eq_zero_or_pos i with rfl | hp
    · rw [lget_eq hi]; exact Int.le_refl _
    · have := gdl_lt hg hp hi
      rw [lget_eq hi] at this
      unfold lless at this
      omega
  refine ⟨?_, hm⟩
  obtain ⟨v, hv, e⟩ := h.lo2 _ hm
  have h4 := h2 v hv
  have h5 : ∃ v ∈ l, v.1 = lowV (l.headD (0, 0)).1 l := by
    rcases h3 with h3 | h3
    · exact ⟨_, head_mem h0, h3.symm⟩
    · exact h3
  obtain ⟨u, hu, eu⟩ := h5
  obtain ⟨y, hy, ey⟩ := h.lo1 u hu
  have := hmin y hy
  omega
theorem EndsI.high {l : List (Int × Int)} {ls : List Lu} (h : EndsI l ls) (h0 : l ≠ []) : topL (lget ls 0).2.2 ls = highV (l.headD (0, 0)).1 l := by
  have hl : ls ≠ [] := fun e => h0 (h.ne.2 e)
  have hlen := List.length_pos_iff.2 hl
  obtain ⟨h1, h2, h3⟩ := highV_spec l (l.headD (0, 0)).1
  obtain ⟨k1, k2, k3⟩ := topL_spec ls (lget ls 0).2.2
  have hm := mem_lget hlen
  have h5 : ∃ v ∈ l, v.1 = highV (l.headD (0, 0)).1 l := by
    rcases h3 with h3 | h3
    · exact ⟨_, head_mem h0, h3.symm⟩
    · exact h3
  have k5 : ∃ v ∈ ls, v.2.2 = topL (lget ls 0).2.2 ls := by
    rcases k3 with k3 | k3
    · exact ⟨_, hm, k3.symm⟩
    · exact k3
  obtain ⟨u, hu, eu⟩ := h5
  obtain ⟨x, hx, ex⟩ := k5
  obtain ⟨y, hy, ey⟩ := h.hi1 u hu
  obtain ⟨v, hv, ev⟩ := h.hi2 x hx
  have := h2 v hv
  have := k2 y hy
  omega

/-- Ranks are no more, and no less, than of all values. -/
structure RankI (l : List (Int × Int)) (ls : List Lu) : Prop where
  lo : ∀ x, rankLo ls x ≤ upV l x
  hi : ∀ x, upV l x ≤ rankHi ls x
theorem RankI.nil : RankI [] [] := ⟨fun x => by simp [rankLo, upV, sumI, sumP], fun x => by simp [rankHi, upV, sumI, sumP]⟩
theorem upV_append (l l' : List (Int × Int)) (x : Int) : upV (l ++ l') x = upV l x + upV l' x := by unfold upV sumP; rw [List.filter_append, List.map_append, List.sum_append]
theorem upV_one (v : Int × Int) (x : Int) : upV [v] x = if v.1 ≤ x then v.2 else 0 := by
  unfold upV sumP
  by_cases h : v.1 ≤ x <;> simp [h]
theorem rankLo_laid (ls : List Lu) (l : Lu) (x : Int) : rankLo (laid ls l) x = rankLo ls x + if l.2.2 ≤ x then l.1 else 0 := by
  unfold rankLo
  rw [sumI_laid _ (fun a b h => by rw [h.2])]
  by_cases h : l.2.2 ≤ x <;> simp [h]
theorem rankHi_laid (ls : List Lu) (l : Lu) (x : Int) : rankHi (laid ls l) x = rankHi ls x + if l.2.1 ≤ x then l.1 else 0 := by
  unfold rankHi
  rw [sumI_laid _ (fun a b h => by rw [h.1])]
  by_cases h : l.2.1 ≤ x <;> simp [h]
theorem RankI.snoc {l : List (Int × Int)} {ls : List Lu} (h : RankI l ls) (v : Int × Int) : RankI (l ++ [v]) (laid ls (v.2, v.1, v.1)) :=
  ⟨fun x => by rw [rankLo_laid, upV_append, upV_one]; have := h.lo x; dsimp only; omega, fun x => by rw [rankHi_laid, upV_append, upV_one]; have := h.hi x; dsimp only; omega⟩
theorem rankLo_cons (l : Lu) (ls : List Lu) (x : Int) : rankLo (l :: ls) x = (if l.2.2 ≤ x then l.1 else 0) + rankLo ls x := by
  unfold rankLo; rw [sumI_cons]; by_cases h : l.2.2 ≤ x <;> simp [h]
theorem rankHi_cons (l : Lu) (ls : List Lu) (x : Int) : rankHi (l :: ls) x = (if l.2.1 ≤ x then l.1 else 0) + rankHi ls x := by
  unfold rankHi; rw [sumI_cons]; by_cases h : l.2.1 ≤ x <;> simp [h]
theorem rank_laidAll : ∀ (os ls : List Lu) (x : Int), rankLo (laidAll ls os) x = rankLo ls x + rankLo os x ∧ rankHi (laidAll ls os) x = rankHi ls x + rankHi os x
  | [], ls, x => by simp [laidAll, rankLo, rankHi, sumI]
  | o :: os, ls, x => by
    have e : laidAll ls (o :: os) = laidAll (laid ls o) os := rfl
    have := rank_laidAll os (laid ls o) x
    rw [e, this.1, this.2, rankLo_laid, rankHi_laid, rankLo_cons, rankHi_cons]
    omega
theorem RankI.join {l l' : List (Int × Int)} {ls os : List Lu} (h : RankI l ls) (k : RankI l' os) : RankI (l ++ l') (laidAll ls os) :=
  ⟨fun x => by rw [(rank_laidAll os ls x).1, upV_append]; have := h.lo x; have := k.lo x; omega, fun x => by rw [(rank_laidAll os ls x).2, upV_append]; have := h.hi x; have := k.hi x; omega⟩
theorem rank_press1 {ls : List Lu} (hg : GdL ls) (hl : 2 ≤ ls.length) (x : Int) : rankLo (press1 ls) x ≤ rankLo ls x ∧ rankHi ls x ≤ rankHi (press1 ls) x := by
  have hp := pick_lt hl
  obtain ⟨p, hpe⟩ : ∃ p, pick ls = p := ⟨_, rfl⟩
  have hlt := gdl_lt hg (i := p) (j := p + 1) (by omega) (by omega)
  have m1 := hg.pos _ (mem_lget (by omega : p < ls.length))
  have m2 := hg.pos _ (mem_lget (by omega : p + 1 < ls.length))
  unfold press1
  rw [hpe] at hp ⊢
  rw [rankLo_laid, rankHi_laid]
  unfold rankLo rankHi
  have e1 := sumI_out2 (fun l : Lu => decide (l.2.2 ≤ x)) hp
  have e2 := sumI_out2 (fun l : Lu => decide (l.2.1 ≤ x)) hp
  rw [e1, e2]
  unfold both
  dsimp only
  unfold lless at hlt
  simp only [decide_eq_true_eq]
  constructor
  · (repeat' split) <;> omega
  · (repeat' split) <;> omega
theorem RankI.press {most : Int} {l : List (Int × Int)} {ls : List Lu} (h : RankI l ls) (hg : GdL ls) (hm : 1 ≤ most) : RankI l (press most ls) :=
  (press_ind (P := fun ks => GdL ks ∧ RankI l ks) hm (fun ks hk hl => ⟨press1_gd hk.1 (by omega), fun x => Int.le_trans (rank_press1 hk.1 (by omega) x).1 (hk.2.lo x), fun x => Int.le_trans (hk.2.hi x) (rank_press1 hk.1 (by omega) x).2⟩) (Nat.le_refl _) ⟨hg, h⟩).1.2

/-- What is played is told by its lumps. -/
theorem play_told {most : Int} (hm : 2 ≤ most) : ∀ (n : Nat) (l : List (Int × Int)), l.length = n → (∀ x ∈ l, 0 < x.2) → EndsI l (playL most l) ∧ RankI l (playL most l)
  | 0, l, hl, _ => by rw [List.eq_nil_of_length_eq_zero hl]; exact ⟨EndsI.nil, RankI.nil⟩
  | n + 1, l, hl, hp => by
    have hne : l ≠ [] := fun e => by rw [e] at hl; simp at hl
    rw [← List.dropLast_concat_getLast hne] at hp ⊢
    obtain ⟨v, hv⟩ : ∃ v, l.getLast hne = v := ⟨_, rfl⟩
    rw [hv] at hp ⊢
    have h1 := play_told hm n l.dropLast (by rw [List.length_dropLast]; omega) fun x hx => hp x (by simp [hx])
    have h2 := (playK hm l.dropLast fun x hx => hp x (by simp [hx])).gd
    have hg := laid_gd (l := (v.2, v.1, v.1)) h2 (hp v (by simp)) (Int.le_refl _)
    rw [playL_snoc]
    exact ⟨(h1.1.snoc v.2).press hg (by omega), (h1.2.snoc v).press hg (by omega)⟩
theorem PlayK.told {most : Int} {l : List (Int × Int)} (h : PlayK most l) : EndsI l (playL most l) ∧ RankI l (playL most l) := play_told h.m.1 _ l rfl fun x hx => (h.c x hx).1

/-! Quantiles. -/
theorem qfold_ge (t : Int) : ∀ (ls : List Lu) (p : Int × Int), p.1 ≤ (qfold t p ls).1
  | [], p => Int.le_refl _
  | l :: ls, p => by
    show p.1 ≤ (qfold t (if p.2 < t then (max p.1 l.2.2, p.2 + l.1) else p) ls).1
    split
    · have := qfold_ge t ls (max p.1 l.2.2, p.2 + l.1); dsimp only at this; omega
    · exact qfold_ge t ls p
theorem qfold_rank (t : Int) : ∀ (ls : List Lu) (p : Int × Int), (∀ x ∈ ls, 0 < x.1) → ∀ q s, qfold t p ls = (q, s) → s - p.2 ≤ rankLo ls q
  | [], p, _, q, s, e => by
    have : p = (q, s) := e
    subst this
    simp [rankLo, sumI]
  | l :: ls, p, h, q, s, e => by
    have h0 := h l (by simp)
    have hr := (sumI_le (p := fun l => decide (l.2.2 ≤ q)) (ls := ls) fun x hx => h x (by simp [hx])).1
    have e' : qfold t (if p.2 < t then (max p.1 l.2.2, p.2 + l.1) else p) ls = (q, s) := e
    rw [rankLo_cons]
    split at e'
    · have h1 := qfold_rank t ls _ (fun x hx => h x (by simp [hx])) q s e'
      have h2 := qfold_ge t ls (max p.1 l.2.2, p.2 + l.1)
      rw [e'] at h2
      dsimp only at h1 h2
      rw [if_pos (by omega)]
      omega
    · rename_i hn
      rw [qfold_stop t p (by omega)] at e'
      subst e'
      unfold rankLo
      dsimp only
      split <;> omega
theorem qfold_reach (t : Int) : ∀ (ls : List Lu) (p : Int × Int), t ≤ p.2 + sumN ls → t ≤ (qfold t p ls).2
  | [], p, h => by rw [sumN_nil] at h; show t ≤ p.2; omega
  | l :: ls, p, h => by
    rw [sumN_cons] at h
    show t ≤ (qfold t (if p.2 < t then (max p.1 l.2.2, p.2 + l.1) else p) ls).2
    split
    · exact qfold_reach t ls _ (by dsimp only; omega)
    · rw [qfold_stop t p (by omega)]; omega
theorem qX_rank {t : Int} {ls : List Lu} (hg : GdL ls) (ht : t ≤ sumN ls) : t ≤ rankLo ls (qX t ls) := by
  have h1 := qfold_reach t ls (-9223372036854775808, 0) (by dsimp only; omega)
  have h2 := qfold_rank t ls (-9223372036854775808, 0) hg.pos (qX t ls) _ rfl
  dsimp only at h2
  have : (qfold t (-9223372036854775808, 0) ls).2 - 0 ≤ rankLo ls (qX t ls) := h2
  omega
theorem qfold_mono {t u : Int} (h : t ≤ u) : ∀ (ls : List Lu) (p : Int × Int), (qfold t p ls).1 ≤ (qfold u p ls).1
  | [], p => Int.le_refl _
  | l :: ls, p => by
    by_cases ht : p.2 < t
    · show (qfold t (if p.2 < t then _ else p) ls).1 ≤ (qfold u (if p.2 < u then _ else p) ls).1
      rw [if_pos ht, if_pos (by omega)]
      exact qfold_mono h ls _
    · rw [qfold_stop t p (by omega)]
      exact qfold_ge u (l :: ls) p
theorem qfold_le (t M : Int) : ∀ (ls : List Lu) (p : Int × Int), p.1 ≤ M → (∀ x ∈ ls, x.2.2 ≤ M) → (qfold t p ls).1 ≤ M
  | [], _, h, _ => h
  | l :: ls, p, h, hx => by
    show (qfold t (if p.2 < t then (max p.1 l.2.2, p.2 + l.1) else p) ls).1 ≤ M
    have := hx l (by simp)
    split
    · exact qfold_le t M ls _ (by dsimp only; omega) fun x h => hx x (by simp [h])
    · exact qfold_le t M ls _ h fun x h => hx x (by simp [h])
theorem qX_ge {t : Int} (ht : 1 ≤ t) {ls : List Lu} (h0 : ls ≠ []) : (lget ls 0).2.2 ≤ qX t ls := by
  cases ls with
  | nil => exact absurd rfl h0
  | cons l ls =>
    show l.2.2 ≤ (qfold t (if (0 : Int) < t then (max (-9223372036854775808) l.2.2, 0 + l.1) else _) ls).1
    rw [if_pos (by omega)]
    have := qfold_ge t ls (max (-9223372036854775808) l.2.2, 0 + l.1)
    dsimp only at this
    omega
end Go.Proofs.Ytbmnebpjjghkpaa

