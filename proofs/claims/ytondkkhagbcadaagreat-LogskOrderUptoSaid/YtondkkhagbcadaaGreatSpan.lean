/- Plain laws of spans: magnitudes by their first digits; no program in sight. -/
import Derived.Test.YtondkkhagbcadaaGreatBase
namespace Go.Proofs.YtondkkhagbcadaaGreat

/-- By how many bits a magnitude is cut, what is left of it, its span, the span's least and greatest magnitude. -/
def kN (g m : Nat) : Nat := Nat.log2 m - g
def qN (g m : Nat) : Nat := m / 2 ^ kN g m
def idxN (g m : Nat) : Nat := kN g m * 2 ^ g + qN g m
def loN (g m : Nat) : Nat := qN g m * 2 ^ kN g m
def hiN (g m : Nat) : Nat := min (loN g m + (2 ^ kN g m - 1)) 9223372036854775808

section
variable {g m a b : Nat}
theorem log2_mono (ha : 0 < a) (h : a ≤ b) : Nat.log2 a ≤ Nat.log2 b := (Nat.le_log2 (by omega)).2 (Nat.le_trans (Nat.log2_self_le (by omega)) h)
theorem kN_mono (ha : 0 < a) (h : a ≤ b) : kN g a ≤ kN g b := by have := log2_mono ha h; unfold kN; omega
theorem qN_lt (hm : 0 < m) : qN g m < 2 ^ (g + 1) := by
  unfold qN
  refine Nat.div_lt_of_lt_mul ?_
  rw [← Nat.pow_add]
  refine Nat.lt_of_lt_of_le Nat.lt_log2_self (Nat.pow_le_pow_right (by omega) ?_)
  unfold kN
  omega
theorem qN_ge (hm : 0 < m) : kN g m = 0 ∨ 2 ^ g ≤ qN g m := by
  rcases Nat.eq_zero_or_pos (kN g m) with h | h
  · exact .inl h
  · refine .inr ?_
    unfold qN
    rw [Nat.le_div_iff_mul_le (Nat.pow_pos (by omega)), ← Nat.pow_add]
    refine Nat.le_trans (Nat.pow_le_pow_right (by omega) ?_) (Nat.log2_self_le (by omega : m ≠ 0))
    unfold kN at h ⊢
    omega
theorem qN_pos (hm : 0 < m) : 0 < qN g m := by
  rcases qN_ge (g := g) hm with h | h
  · unfold qN; rw [h]; simpa using hm
  · exact Nat.lt_of_lt_of_le (Nat.pow_pos (by omega)) h
theorem two_pow_succ (g : Nat) : 2 ^ (g + 1) = 2 * 2 ^ g := by rw [Nat.pow_succ, Nat.mul_comm]
theorem hpos (g : Nat) : 0 < 2 ^ g := Nat.pow_pos (by omega)
/-- The span tells by how many bits is cut. -/
theorem idx_div (hm : 0 < m) : idxN g m / 2 ^ g - 1 = kN g m := by
  have h1 := qN_lt (g := g) hm
  have h2 := qN_ge (g := g) hm
  have h3 := hpos g
  rw [two_pow_succ] at h1
  unfold idxN
  rw [Nat.add_comm, Nat.add_mul_div_right _ _ h3]
  rcases h2 with h2 | h2
  · rw [h2]
    have : qN g m / 2 ^ g < 2 := Nat.div_lt_of_lt_mul (by omega)
    omega
  · have : qN g m / 2 ^ g = 1 := by
      have a1 : qN g m / 2 ^ g < 2 := Nat.div_lt_of_lt_mul (by omega)
      have a2 : 1 ≤ qN g m / 2 ^ g := (Nat.le_div_iff_mul_le h3).2 (by omega)
      omega
    omega
theorem idx_rest : idxN g m - kN g m * 2 ^ g = qN g m := by unfold idxN; omega
theorem idx_pos (hm : 0 < m) : 0 < idxN g m := by have := qN_pos (g := g) hm; unfold idxN; omega
theorem idx_eq_iff (ha : 0 < a) (hb : 0 < b) : idxN g a = idxN g b ↔ kN g a = kN g b ∧ qN g a = qN g b := by
  constructor
  · intro h
    have h1 : kN g a = kN g b := by rw [← idx_div ha, ← idx_div hb, h]
    refine ⟨h1, ?_⟩
    rw [← idx_rest (g := g) (m := a), ← idx_rest (g := g) (m := b), h, h1]
  · rintro ⟨h1, h2⟩
    unfold idxN
    rw [h1, h2]
theorem lo_le (g m : Nat) : loN g m ≤ m := Nat.div_mul_le_self _ _
theorem lt_hi (g m : Nat) : m < loN g m + 2 ^ kN g m := by
  unfold loN qN
  have := Nat.lt_div_mul_add (a := m) (hpos (kN g m))
  omega
theorem lo_pos (hm : 0 < m) : 0 < loN g m := Nat.mul_pos (qN_pos hm) (hpos _)
theorem idx_mono (ha : 0 < a) (h : a ≤ b) : idxN g a ≤ idxN g b := by
  have hk := kN_mono (g := g) ha h
  rcases Nat.lt_or_ge (kN g a) (kN g b) with hlt | hge
  · have h1 := qN_lt (g := g) ha
    rw [two_pow_succ] at h1
    rcases qN_ge (g := g) (m := b) (by omega) with h2 | h2
    · omega
    · have h3 : (kN g a + 1) * 2 ^ g ≤ kN g b * 2 ^ g := Nat.mul_le_mul_right _ hlt
      rw [Nat.add_mul, Nat.one_mul] at h3
      unfold idxN
      omega
  · have e : kN g a = kN g b := by omega
    have : qN g a ≤ qN g b := by unfold qN; rw [e]; exact Nat.div_le_div_right h
    unfold idxN
    rw [e]
    omega
/-- What lies between the least and the greatest one is of that span, and no other one is. -/
theorem idx_cell (ha : 0 < a) (hm : 0 < m) : idxN g a = idxN g m ↔ loN g m ≤ a ∧ a < loN g m + 2 ^ kN g m := by
  constructor
  · intro h
    obtain ⟨h1, h2⟩ := (idx_eq_iff ha hm).1 h
    have e : loN g a = loN g m := by unfold loN; rw [h1, h2]
    have := lo_le g a
    have := lt_hi g a
    rw [e] at *
    rw [h1] at this
    omega
  · rintro ⟨h1, h2⟩
    have hk : kN g a = kN g m := by
      rcases Nat.lt_or_ge a m with hlt | hge
      · have k1 := kN_mono (g := g) ha (Nat.le_of_lt hlt)
        rcases Nat.eq_zero_or_pos (kN g m) with h0 | h0
        · omega
        · rcases qN_ge (g := g) hm with h3 | h3
          · omega
          · have h4 : 2 ^ (g + kN g m) ≤ a := by
              refine Nat.le_trans ?_ h1
              unfold loN
              rw [Nat.pow_add]
              exact Nat.mul_le_mul_right _ h3
            have h5 := (Nat.le_log2 (by omega : a ≠ 0)).2 h4
            unfold kN at h5 k1 ⊢
            omega
      · have k1 := kN_mono (g := g) hm hge
        have h4 : a < 2 ^ (g + 1 + kN g m) := by
          refine Nat.lt_of_lt_of_le h2 ?_
          unfold loN
          have := qN_lt (g := g) hm
          rw [Nat.pow_add]
          calc qN g m * 2 ^ kN g m + 2 ^ kN g m = (qN g m + 1) * 2 ^ kN g m := by rw [Nat.add_mul, Nat.one_mul]
            _ ≤ 2 ^ (g + 1) * 2 ^ kN g m := Nat.mul_le_mul_right _ this
        have h5 := (Nat.log2_lt (by omega : a ≠ 0)).2 h4
        unfold kN at h5 k1 ⊢
        omega
    refine (idx_eq_iff ha hm).2 ⟨hk, ?_⟩
    unfold loN at h1 h2
    unfold qN
    rw [hk]
    have hp := hpos (kN g m)
    have a1 : qN g m ≤ a / 2 ^ kN g m := (Nat.le_div_iff_mul_le hp).2 h1
    have a2 : a / 2 ^ kN g m < qN g m + 1 := Nat.div_lt_of_lt_mul (by rw [Nat.mul_comm, Nat.add_mul, Nat.one_mul]; exact h2)
    have a3 : m / 2 ^ kN g m = qN g m := rfl
    omega

/-! Within the magnitudes. -/
theorem log2_le63 (hm : 0 < m) (h : m ≤ 9223372036854775808) : Nat.log2 m ≤ 63 := by
  have : Nat.log2 m < 64 := (Nat.log2_lt (by omega)).2 (by omega)
  omega
theorem log2_lt63 (hm : 0 < m) (h : m < 9223372036854775808) : Nat.log2 m ≤ 62 := by
  have : Nat.log2 m < 63 := (Nat.log2_lt (by omega)).2 (by omega)
  omega
theorem log2_top : Nat.log2 9223372036854775808 = 63 := by
  have h1 := log2_le63 (m := 9223372036854775808) (by omega) (Nat.le_refl _)
  have h2 := (Nat.le_log2 (n := 9223372036854775808) (k := 63) (by omega)).2 (by omega)
  omega
theorem pow63 : (2 : Nat) ^ 63 = 9223372036854775808 := by decide +kernel
theorem cell_top (hm : 0 < m) (h : m < 9223372036854775808) : loN g m + 2 ^ kN g m ≤ 9223372036854775808 := by
  have h1 := qN_lt (g := g) hm
  have h2 := log2_lt63 hm h
  rcases Nat.eq_zero_or_pos (kN g m) with h0 | h0
  · have := lo_le g m
    rw [h0]
    simp only [Nat.pow_zero]
    omega
  · have h4 : (qN g m + 1) * 2 ^ kN g m ≤ 2 ^ (g + 1) * 2 ^ kN g m := Nat.mul_le_mul_right _ h1
    rw [← Nat.pow_add, Nat.add_mul, Nat.one_mul] at h4
    have h5 : 2 ^ (g + 1 + kN g m) ≤ 2 ^ 63 := Nat.pow_le_pow_right (by omega) (by unfold kN at h0 ⊢; omega)
    rw [pow63] at h5
    unfold loN
    omega
theorem hi_below (hm : 0 < m) (h : m < 9223372036854775808) : hiN g m = loN g m + (2 ^ kN g m - 1) := by
  have := cell_top (g := g) hm h
  have := hpos (kN g m)
  unfold hiN
  omega
theorem k_top (hg : g ≤ 63) : kN g 9223372036854775808 = 63 - g := by unfold kN; rw [log2_top]
theorem q_top (hg : g ≤ 63) : qN g 9223372036854775808 = 2 ^ g := by
  unfold qN
  rw [k_top hg, ← pow63]
  rw [show (63 : Nat) = g + (63 - g) by omega, Nat.pow_add, show g + (63 - g) - g = 63 - g by omega]
  exact Nat.mul_div_cancel _ (hpos _)
theorem lo_top (hg : g ≤ 63) : loN g 9223372036854775808 = 9223372036854775808 := by
  unfold loN
  rw [q_top hg, k_top hg, ← Nat.pow_add, show g + (63 - g) = 63 by omega, pow63]
theorem hi_top (hg : g ≤ 63) : hiN g 9223372036854775808 = 9223372036854775808 := by
  have := hpos (kN g 9223372036854775808)
  unfold hiN
  rw [lo_top hg]
  omega
theorem idx_top (hg : g ≤ 63) : idxN g 9223372036854775808 = (64 - g) * 2 ^ g := by
  unfold idxN
  rw [k_top hg, q_top hg, show 64 - g = (63 - g) + 1 by omega, Nat.add_mul, Nat.one_mul]
theorem m_le_hi (hm : 0 < m) (h : m ≤ 9223372036854775808) : m ≤ hiN g m := by
  have := lt_hi g m
  unfold hiN
  omega
theorem hi_le (g m : Nat) : hiN g m ≤ 9223372036854775808 := by unfold hiN; omega
theorem lo_le_hi (hm : 0 < m) (h : m ≤ 9223372036854775808) : loN g m ≤ hiN g m := Nat.le_trans (lo_le g m) (m_le_hi hm h)
/-- A span's magnitudes, of all that there are. -/
theorem idx_range (hg : g ≤ 63) (ha : 0 < a) (ha' : a ≤ 9223372036854775808) (hm : 0 < m) (hm' : m ≤ 9223372036854775808) : idxN g a = idxN g m ↔ loN g m ≤ a ∧ a ≤ hiN g m := by
  rw [idx_cell ha hm]
  have hp := hpos (kN g m)
  rcases Nat.lt_or_ge m 9223372036854775808 with h | h
  · rw [hi_below hm h]
    omega
  · obtain rfl : m = 9223372036854775808 := by omega
    rw [hi_top hg, lo_top hg]
    omega
theorem idx_lt_iff (hg : g ≤ 63) (ha : 0 < a) (ha' : a ≤ 9223372036854775808) (hm : 0 < m) (hm' : m ≤ 9223372036854775808) : idxN g a < idxN g m ↔ a < loN g m := by
  constructor
  · intro h
    rcases Nat.lt_or_ge a (loN g m) with h1 | h1
    · exact h1
    · rcases Nat.lt_or_ge m a with h2 | h2
      · have := idx_mono (g := g) hm (Nat.le_of_lt h2); omega
      · have := (idx_range hg ha ha' hm hm').2 ⟨h1, Nat.le_trans h2 (m_le_hi hm hm')⟩; omega
  · intro h
    have h1 := idx_mono (g := g) (b := m) ha (Nat.le_trans (Nat.le_of_lt h) (lo_le g m))
    rcases Nat.lt_or_ge (idxN g a) (idxN g m) with h2 | h2
    · exact h2
    · have := (idx_range hg ha ha' hm hm').1 (by omega); omega
theorem idx_gt_iff (hg : g ≤ 63) (ha : 0 < a) (ha' : a ≤ 9223372036854775808) (hm : 0 < m) (hm' : m ≤ 9223372036854775808) : idxN g m < idxN g a ↔ hiN g m < a := by
  constructor
  · intro h
    rcases Nat.lt_or_ge (hiN g m) a with h1 | h1
    · exact h1
    · rcases Nat.lt_or_ge a m with h2 | h2
      · have := idx_mono (g := g) ha (Nat.le_of_lt h2); omega
      · have := (idx_range hg ha ha' hm hm').2 ⟨Nat.le_trans (lo_le g m) h2, h1⟩; omega
  · intro h
    have h1 := idx_mono (g := g) (a := m) (b := a) hm (Nat.le_trans (m_le_hi hm hm') (Nat.le_of_lt h))
    rcases Nat.lt_or_ge (idxN g m) (idxN g a) with h2 | h2
    · exact h2
    · have := (idx_range hg ha ha' hm hm').1 (by omega); omega

/-! From a span. -/
def kI (g i : Nat) : Nat := i / 2 ^ g - 1
def qI (g i : Nat) : Nat := i - kI g i * 2 ^ g
theorem qI_lt (g i : Nat) : qI g i < 2 ^ (g + 1) := by
  have h3 := hpos g
  have h1 := Nat.lt_div_mul_add (a := i) h3
  rw [two_pow_succ]
  unfold qI kI
  rcases Nat.eq_zero_or_pos (i / 2 ^ g) with h | h
  · rw [h] at h1 ⊢; simp only [Nat.zero_mul, Nat.zero_sub, Nat.sub_zero] at *; omega
  · have e : (i / 2 ^ g - 1) * 2 ^ g + 2 ^ g = i / 2 ^ g * 2 ^ g := by
      conv => rhs; rw [show i / 2 ^ g = (i / 2 ^ g - 1) + 1 by omega, Nat.add_mul, Nat.one_mul]
    omega
theorem qI_ge (g i : Nat) : kI g i = 0 ∨ 2 ^ g ≤ qI g i := by
  have h3 := hpos g
  have h1 := Nat.div_mul_le_self i (2 ^ g)
  unfold qI kI
  rcases Nat.lt_or_ge (i / 2 ^ g) 2 with h | h
  · exact .inl (by omega)
  · refine .inr ?_
    have e : (i / 2 ^ g - 1) * 2 ^ g + 2 ^ g = i / 2 ^ g * 2 ^ g := by
      conv => rhs; rw [show i / 2 ^ g = (i / 2 ^ g - 1) + 1 by omega, Nat.add_mul, Nat.one_mul]
    omega
theorem kI_mul (g i : Nat) : kI g i * 2 ^ g ≤ i := by
  have h1 := Nat.div_mul_le_self i (2 ^ g)
  have : (i / 2 ^ g - 1) * 2 ^ g ≤ i / 2 ^ g * 2 ^ g := Nat.mul_le_mul_right _ (Nat.sub_le _ _)
  unfold kI
  exact Nat.le_trans this h1
theorem qI_pos {i : Nat} (hi : 0 < i) : 0 < qI g i := by
  rcases qI_ge g i with h | h
  · unfold qI; rw [h]; omega
  · exact Nat.lt_of_lt_of_le (hpos g) h
/-- Each index is the span of a magnitude. -/
theorem idx_of {i : Nat} (hg : g ≤ 63) (hi : 0 < i) (ht : i ≤ (64 - g) * 2 ^ g) : 0 < qI g i * 2 ^ kI g i ∧ qI g i * 2 ^ kI g i ≤ 9223372036854775808 ∧ idxN g (qI g i * 2 ^ kI g i) = i ∧ kN g (qI g i * 2 ^ kI g i) = kI g i ∧ qN g (qI g i * 2 ^ kI g i) = qI g i := by
  have h3 := hpos g
  have hq := qI_pos (g := g) hi
  have hp := Nat.mul_pos hq (hpos (kI g i))
  have h1 := qI_lt g i
  have hk : kN g (qI g i * 2 ^ kI g i) = kI g i := by
    have u : Nat.log2 (qI g i * 2 ^ kI g i) < g + 1 + kI g i := (Nat.log2_lt (by omega)).2 (by rw [Nat.pow_add]; exact Nat.mul_lt_mul_of_pos_right h1 (hpos _))
    unfold kN
    rcases Nat.eq_zero_or_pos (kI g i) with h0 | h0
    · rw [h0] at u ⊢; omega
    · rcases qI_ge g i with h2 | h2
      · omega
      · have l : g + kI g i ≤ Nat.log2 (qI g i * 2 ^ kI g i) := (Nat.le_log2 (by omega)).2 (by rw [Nat.pow_add]; exact Nat.mul_le_mul_right _ h2)
        omega
  have hqq : qN g (qI g i * 2 ^ kI g i) = qI g i := by unfold qN; rw [hk]; exact Nat.mul_div_cancel _ (hpos _)
  refine ⟨hp, ?_, ?_, hk, hqq⟩
  · have hd : i / 2 ^ g ≤ 64 - g := Nat.div_le_of_le_mul (by rw [Nat.mul_comm]; exact ht)
    rcases Nat.lt_or_ge (kI g i) (63 - g) with h | h
    · have h4 : qI g i * 2 ^ kI g i ≤ 2 ^ (g + 1) * 2 ^ kI g i := Nat.mul_le_mul_right _ (Nat.le_of_lt h1)
      rw [← Nat.pow_add] at h4
      have h5 : 2 ^ (g + 1 + kI g i) ≤ 2 ^ 63 := Nat.pow_le_pow_right (by omega) (by omega)
      rw [pow63] at h5
      omega
    · have hke : kI g i = 63 - g := by unfold kI at h ⊢; omega
      have hqe : qI g i ≤ 2 ^ g := by
        unfold qI
        rw [hke]
        have : (64 - g) * 2 ^ g = (63 - g) * 2 ^ g + 2 ^ g := by rw [show 64 - g = (63 - g) + 1 by omega, Nat.add_mul, Nat.one_mul]
        omega
      have h4 : qI g i * 2 ^ kI g i ≤ 2 ^ g * 2 ^ kI g i := Nat.mul_le_mul_right _ hqe
      rw [← Nat.pow_add, hke, show g + (63 - g) = 63 by omega, pow63] at h4
      rw [hke]
      exact h4
  · have := kI_mul g i
    unfold idxN
    rw [hk, hqq]
    unfold qI
    omega
theorem idx_le_top (hg : g ≤ 63) (hm : 0 < m) (h : m ≤ 9223372036854775808) : idxN g m ≤ (64 - g) * 2 ^ g := by
  rw [← idx_top hg]; exact idx_mono hm h
end
end Go.Proofs.YtondkkhagbcadaaGreat
