/- Plain law of closeness: what stands for a value lies so close to it. No program in sight. -/
import Derived.Test.YtnkkdciecjhpoaaDoorHdrAsk
namespace Go.Proofs.YtnkkdciecjhpoaaDoor

/-- Digits' ten: not more than the spans of a power of two. -/
def tenD (d : Int) : Nat := if d = 1 then 10 else if d = 2 then 100 else if d = 3 then 1000 else 10000
theorem tenD_le (d : Int) : tenD d ≤ 2 ^ gOf d := by unfold tenD gOf; (repeat' split) <;> decide
theorem half_le (n : Nat) (a b : Nat) (h1 : a ≤ b) (h2 : b - a ≤ 2 * n) (hn : 0 < n) (m : Nat) (hm : a ≤ m ∧ m ≤ b) : a + (b - a) / 2 ≤ m + n ∧ m ≤ a + (b - a) / 2 + n := by omega
theorem rep_close {g m : Nat} (hm : 0 < m) (hm' : m ≤ 9223372036854775808) {t : Nat} (ht : t ≤ 2 ^ g) : (repM g m - m) * t ≤ m ∧ (m - repM g m) * t ≤ m := by
  have h1 := lo_le g m
  have h2 := m_le_hi (g := g) hm hm'
  by_cases hk : kN g m = 0
  · have e1 : loN g m = m := by unfold loN qN; rw [hk, Nat.pow_zero, Nat.div_one, Nat.mul_one]
    have e2 : hiN g m = m := by
      have : hiN g m ≤ loN g m + (2 ^ kN g m - 1) := by unfold hiN; omega
      rw [hk, Nat.pow_zero, e1] at this
      omega
    have e3 : repM g m = m := by unfold repM; rw [e1, e2]; omega
    rw [e3, Nat.sub_self, Nat.zero_mul]
    omega
  · obtain ⟨k, hkk⟩ : ∃ k, kN g m = k + 1 := ⟨kN g m - 1, by omega⟩
    have hlog : Nat.log2 m = k + 1 + g := by unfold kN at hkk; omega
    have hpow : 2 ^ (k + 1 + g) ≤ m := by rw [← hlog]; exact Nat.log2_self_le (by omega)
    have hw : hiN g m ≤ loN g m + (2 ^ (k + 1) - 1) := by rw [← hkk]; unfold hiN; omega
    have hp : 0 < 2 ^ k := Nat.pow_pos (by omega)
    have e2 : 2 ^ (k + 1) = 2 * 2 ^ k := by rw [Nat.pow_succ]; omega
    have hc := half_le (2 ^ k) (loN g m) (hiN g m) (by omega) (by omega) hp m ⟨h1, h2⟩
    have hb : 2 ^ k * t ≤ m := by
      have a1 : 2 ^ k * t ≤ 2 ^ k * 2 ^ g := Nat.mul_le_mul_left _ ht
      rw [← Nat.pow_add] at a1
      have a2 : 2 ^ (k + g) ≤ 2 ^ (k + 1 + g) := Nat.pow_le_pow_right (by omega) (by omega)
      omega
    have c1 : repM g m - m ≤ 2 ^ k := by unfold repM; omega
    have c2 : m - repM g m ≤ 2 ^ k := by unfold repM; omega
    exact ⟨Nat.le_trans (Nat.mul_le_mul_right _ c1) hb, Nat.le_trans (Nat.mul_le_mul_right _ c2) hb⟩
/-- How far apart two values are. -/
def gapZ (a b : Int) : Nat := (a - b).natAbs
theorem clamp_close {r x lo hi : Int} (h1 : lo ≤ x) (h2 : x ≤ hi) : gapZ (min (max r lo) hi) x ≤ gapZ r x := by unfold gapZ; omega
theorem stand_close {g : Nat} {x : Int} (h1 : -9223372036854775808 ≤ x) (h2 : x ≤ 9223372036854775807) {t : Nat} (ht : t ≤ 2 ^ g) : gapZ (standV (repM g) x) x * t ≤ x.natAbs := by
  unfold standV
  by_cases h0 : x = 0
  · subst h0; simp [gapZ]
  · obtain ⟨c1, c2⟩ := rep_close (g := g) (m := x.natAbs) (by omega) (by omega) ht
    have key : ∀ n : Nat, n ≤ repM g x.natAbs - x.natAbs ∨ n ≤ x.natAbs - repM g x.natAbs → n * t ≤ x.natAbs := fun n hn => by
      rcases hn with h | h
      · exact Nat.le_trans (Nat.mul_le_mul_right _ h) c1
      · exact Nat.le_trans (Nat.mul_le_mul_right _ h) c2
    rw [if_neg h0]
    by_cases hp : 0 < x
    · rw [if_pos hp]
      refine key _ ?_
      unfold gapZ
      omega
    · rw [if_neg hp]
      refine key _ ?_
      unfold gapZ
      omega
theorem quant_close {g : Nat} {x lo hi : Int} (h1 : -9223372036854775808 ≤ x) (h2 : x ≤ 9223372036854775807) (k1 : lo ≤ x) (k2 : x ≤ hi) {t : Nat} (ht : t ≤ 2 ^ g) : gapZ (min (max (standV (repM g) x) lo) hi) x * t ≤ x.natAbs :=
  Nat.le_trans (Nat.mul_le_mul_right _ (clamp_close k1 k2)) (stand_close h1 h2 ht)
end Go.Proofs.YtnkkdciecjhpoaaDoor
