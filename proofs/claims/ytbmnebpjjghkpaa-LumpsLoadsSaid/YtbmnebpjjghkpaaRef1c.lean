/- Contracts of the document's answer for layer 1: a product. -/
import Derived.Test.YtbmnebpjjghkpaaProg
import Derived.Test.YtbmnebpjjghkpaaBase
import Derived.Test.YtbmnebpjjghkpaaRef1
namespace Go.Proofs.Ytbmnebpjjghkpaa
open Go.RowKit

theorem rtimes_split (a b : Int) (ha : 0 ≤ a) (ha' : a < 18446744073709551616) (hb : 0 ≤ b) (hb' : b < 18446744073709551616) :
    ∃ p q r s : Int, a / 4294967296 * (b / 4294967296) = p ∧ a % 4294967296 * (b % 4294967296) = q ∧ a / 4294967296 * (b % 4294967296) = r ∧ a % 4294967296 * (b / 4294967296) = s ∧
      0 ≤ p ∧ p < 18446744073709551616 ∧ 0 ≤ q ∧ q < 18446744073709551616 ∧ 0 ≤ r ∧ r < 18446744073709551616 ∧ 0 ≤ s ∧ s < 18446744073709551616 ∧
      Hid (a * b = p * 18446744073709551616 + (r + s) * 4294967296 + q) ∧ Hid (a * b < 340282366920938463463374607431768211456) := by
  have k : ∀ x y : Int, 0 ≤ x → x < 4294967296 → 0 ≤ y → y < 4294967296 → 0 ≤ x * y ∧ x * y < 18446744073709551616 := by
    intro x y h1 h2 h3 h4
    refine ⟨Int.mul_nonneg h1 h3, ?_⟩
    have h5 : x * y ≤ 4294967295 * y := Int.mul_le_mul_of_nonneg_right (by omega) h3
    omega
  have a1 : 0 ≤ a / 4294967296 ∧ a / 4294967296 < 4294967296 := by omega
  have a2 : 0 ≤ a % 4294967296 ∧ a % 4294967296 < 4294967296 := by omega
  have b1 : 0 ≤ b / 4294967296 ∧ b / 4294967296 < 4294967296 := by omega
  have b2 : 0 ≤ b % 4294967296 ∧ b % 4294967296 < 4294967296 := by omega
  have ea : a = a / 4294967296 * 4294967296 + a % 4294967296 := by omega
  have eb : b = b / 4294967296 * 4294967296 + b % 4294967296 := by omega
  obtain ⟨p1, p2⟩ := k _ _ a1.1 a1.2 b1.1 b1.2
  obtain ⟨q1, q2⟩ := k _ _ a2.1 a2.2 b2.1 b2.2
  obtain ⟨r1, r2⟩ := k _ _ a1.1 a1.2 b2.1 b2.2
  obtain ⟨s1, s2⟩ := k _ _ a2.1 a2.2 b1.1 b1.2
  have e : a * b = a / 4294967296 * (b / 4294967296) * 18446744073709551616 + (a / 4294967296 * (b % 4294967296) + a % 4294967296 * (b / 4294967296)) * 4294967296 + a % 4294967296 * (b % 4294967296) := by
    generalize a / 4294967296 = x at *
    generalize a % 4294967296 = y at *
    generalize b / 4294967296 = z at *
    generalize b % 4294967296 = t at *
    subst ea eb
    rw [Int.add_mul, Int.mul_add, Int.mul_add, show x * 4294967296 * (z * 4294967296) = x * z * 18446744073709551616 by rw [Int.mul_assoc, Int.mul_left_comm 4294967296 z, ← Int.mul_assoc]; simp, show x * 4294967296 * t = x * t * 4294967296 by rw [Int.mul_right_comm], show y * (z * 4294967296) = y * z * 4294967296 by rw [Int.mul_assoc]]
    omega
  have hlt : a * b < 340282366920938463463374607431768211456 := by
    have h5 : a * b ≤ 18446744073709551615 * b := Int.mul_le_mul_of_nonneg_right (by omega) hb
    omega
  exact ⟨_, _, _, _, rfl, rfl, rfl, rfl, p1, p2, q1, q2, r1, r2, s1, s2, e, hlt⟩

set_option maxHeartbeats 1000000 in
theorem rtimes_any (a b : Int) (w : World) (ha : 0 ≤ a) (ha' : a < 18446744073709551616) (hb : 0 ≤ b) (hb' : b < 18446744073709551616) :
    Calls Try.prog 53 #[.int .u64 a, .int .u64 b] w (RetW w (a * b)) := by
  obtain ⟨p, q, r, s, hp, hq, hr, hs, p1, p2, q1, q2, r1, r2, s1, s2, HE, HL⟩ := rtimes_split a b ha ha' hb hb'
  obtain ⟨X, HX⟩ : ∃ X, Hid (a * b = X) := ⟨_, rfl⟩
  rw [HX.out]
  go_enter Try.func53, Try.ntmps53
  go_wp2
  have HF : Hid (∀ k : Nat, k ≤ 2 → p * 18446744073709551616 + q + ((if 0 < k then r else 0) + (if 1 < k then s else 0)) * 4294967296 < 340282366920938463463374607431768211456) := by
    intro k hk
    have h1 := HE.out
    have h2 := HL.out
    split <;> split <;> omega
  have HFIN : Hid (p * 18446744073709551616 + q + (r + s) * 4294967296 = X) := by
    have h1 := HE.out
    have h2 := HX.out
    show _ = _
    omega
  clear HE HL HX hp hq hr hs
  go_loopw [35] (fun i wr => ∃ k : Nat, k ≤ 2 ∧ i = .int .i64 k ∧ Below w.heap.size w wr ∧ At wr (w.heap.size + 1 + 1) #[.int .u64 r, .int .u64 s] 39 ∧ At wr w.heap.size #[.int .u64 0, .int .u64 0] 96 ∧
      ∃ hi lo : Int, 0 ≤ hi ∧ hi < 18446744073709551616 ∧ 0 ≤ lo ∧ lo < 18446744073709551616 ∧ At wr (w.heap.size + 1) #[.int .u64 hi, .int .u64 lo] 96 ∧
        Hid (hi * 18446744073709551616 + lo = p * 18446744073709551616 + q + ((if 0 < k then r else 0) + (if 1 < k then s else 0)) * 4294967296))
    (fun i _ => 2 - (intOf i).toNat)
  case atStart => exact ⟨0, by omega, rfl, (by repeat (first | with_reducible assumption | with_reducible exact Below.refl _ _ | with_reducible refine Below.drew ?_ | with_reducible refine Below.drewN ?_ _ | with_reducible refine Below.setCell ?_ (by first | omega | (simp; done) | (simp; omega)) _ | with_reducible refine Below.alloc ?_ (by first | omega | (simp; done) | (simp; omega) | (simp [World.setCell]; omega)) _)), (by repeat (first | with_reducible assumption | (with_reducible apply At.new'; (first | with_reducible rfl | (simp; done))) | with_reducible apply At.set2 | with_reducible apply At.alloc | with_reducible apply At.drew | with_reducible apply At.drewN | (with_reducible apply At.set_other; (case hne => first | (simp; done) | (simp; omega))))), (by repeat (first | with_reducible assumption | (with_reducible apply At.new'; (first | with_reducible rfl | (simp; done))) | with_reducible apply At.set2 | with_reducible apply At.alloc | with_reducible apply At.drew | with_reducible apply At.drewN | (with_reducible apply At.set_other; (case hne => first | (simp; done) | (simp; omega))))), p, q, p1, p2, q1, q2, (by repeat (first | with_reducible assumption | (with_reducible apply At.new'; (first | with_reducible rfl | (simp; done))) | with_reducible apply At.set2 | with_reducible apply At.alloc | with_reducible apply At.drew | with_reducible apply At.drewN | (with_reducible apply At.set_other; (case hne => first | (simp; done) | (simp; omega))))), by show _ = _; simp⟩
  case round =>
    obtain ⟨k, hk, rfl, hB, a3, a1, hi, lo, k1, k2, k3, k4, a2, HR⟩ := hrel
    have z1 := a3.lt
    have f1 := a1.two
    have f2 := a2.two
    have f3 := a3.two
    rcases (show k = 0 ∨ k = 1 ∨ k = 2 by omega) with rfl | rfl | rfl
    · go_wp2_with fail
      refine (radd_any _ _ _ _ _ k1 k2 k3 k4 (by omega) (by omega) (by omega) (by omega)).mono ?_
      rintro e w1 ⟨hi', lo', l1, l2, l3, l4, hX2, rfl, hb⟩
      have HX2 := Lib.hid hX2
      clear hX2
      have b1 : At w1 w.heap.size #[.int .u64 0, .int .u64 0] 96 := At.below (by repeat (first | with_reducible assumption | (with_reducible apply At.new'; (first | with_reducible rfl | (simp; done))) | with_reducible apply At.set2 | with_reducible apply At.alloc | with_reducible apply At.drew | with_reducible apply At.drewN | (with_reducible apply At.set_other; (case hne => first | (simp; done) | (simp; omega))))) hb
      have b2 : At w1 (w.heap.size + 1) #[.int .u64 hi, .int .u64 lo] 96 := At.below (by repeat (first | with_reducible assumption | (with_reducible apply At.new'; (first | with_reducible rfl | (simp; done))) | with_reducible apply At.set2 | with_reducible apply At.alloc | with_reducible apply At.drew | with_reducible apply At.drewN | (with_reducible apply At.set_other; (case hne => first | (simp; done) | (simp; omega))))) hb
      have b3 : At w1 (w.heap.size + 1 + 1) #[.int .u64 r, .int .u64 s] 39 := At.below (by repeat (first | with_reducible assumption | (with_reducible apply At.new'; (first | with_reducible rfl | (simp; done))) | with_reducible apply At.set2 | with_reducible apply At.alloc | with_reducible apply At.drew | with_reducible apply At.drewN | (with_reducible apply At.set_other; (case hne => first | (simp; done) | (simp; omega))))) hb
      have hB2 : Below w.heap.size w w1 := hB.trans (hb.mono hB.size)
      clear hb f1 f2 f3 a1 a2 a3
      have g2 := b2.two
      go_wp2
      go_roundw
      case rel =>
        refine ⟨1, by omega, rfl, (by repeat (first | with_reducible assumption | with_reducible exact Below.refl _ _ | with_reducible refine Below.drew ?_ | with_reducible refine Below.drewN ?_ _ | with_reducible refine Below.setCell ?_ (by first | omega | (simp; done) | (simp; omega)) _ | with_reducible refine Below.alloc ?_ (by first | omega | (simp; done) | (simp; omega) | (simp [World.setCell]; omega)) _)), (by repeat (first | with_reducible assumption | (with_reducible apply At.new'; (first | with_reducible rfl | (simp; done))) | with_reducible apply At.set2 | with_reducible apply At.alloc | with_reducible apply At.drew | with_reducible apply At.drewN | (with_reducible apply At.set_other; (case hne => first | (simp; done) | (simp; omega))))), (by repeat (first | with_reducible assumption | (with_reducible apply At.new'; (first | with_reducible rfl | (simp; done))) | with_reducible apply At.set2 | with_reducible apply At.alloc | with_reducible apply At.drew | with_reducible apply At.drewN | (with_reducible apply At.set_other; (case hne => first | (simp; done) | (simp; omega))))), hi', lo', l1, l2, l3, l4, (by repeat (first | with_reducible assumption | (with_reducible apply At.new'; (first | with_reducible rfl | (simp; done))) | with_reducible apply At.set2 | with_reducible apply At.alloc | with_reducible apply At.drew | with_reducible apply At.drewN | (with_reducible apply At.set_other; (case hne => first | (simp; done) | (simp; omega))))), ?_⟩
        have h1 := HF.out 1 (by omega)
        have h2 := HR.out
        have h3 := HX2.out
        show _ = _
        rw [h3]
        unfold addQ
        simp at h1 h2 ⊢
        omega
      case measure => simp [intOf]
    · go_wp2_with fail
      refine (radd_any _ _ _ _ _ k1 k2 k3 k4 (by omega) (by omega) (by omega) (by omega)).mono ?_
      rintro e w1 ⟨hi', lo', l1, l2, l3, l4, hX2, rfl, hb⟩
      have HX2 := Lib.hid hX2
      clear hX2
      have b1 : At w1 w.heap.size #[.int .u64 0, .int .u64 0] 96 := At.below (by repeat (first | with_reducible assumption | (with_reducible apply At.new'; (first | with_reducible rfl | (simp; done))) | with_reducible apply At.set2 | with_reducible apply At.alloc | with_reducible apply At.drew | with_reducible apply At.drewN | (with_reducible apply At.set_other; (case hne => first | (simp; done) | (simp; omega))))) hb
      have b2 : At w1 (w.heap.size + 1) #[.int .u64 hi, .int .u64 lo] 96 := At.below (by repeat (first | with_reducible assumption | (with_reducible apply At.new'; (first | with_reducible rfl | (simp; done))) | with_reducible apply At.set2 | with_reducible apply At.alloc | with_reducible apply At.drew | with_reducible apply At.drewN | (with_reducible apply At.set_other; (case hne => first | (simp; done) | (simp; omega))))) hb
      have b3 : At w1 (w.heap.size + 1 + 1) #[.int .u64 r, .int .u64 s] 39 := At.below (by repeat (first | with_reducible assumption | (with_reducible apply At.new'; (first | with_reducible rfl | (simp; done))) | with_reducible apply At.set2 | with_reducible apply At.alloc | with_reducible apply At.drew | with_reducible apply At.drewN | (with_reducible apply At.set_other; (case hne => first | (simp; done) | (simp; omega))))) hb
      have hB2 : Below w.heap.size w w1 := hB.trans (hb.mono hB.size)
      clear hb f1 f2 f3 a1 a2 a3
      have g2 := b2.two
      go_wp2
      go_roundw
      case rel =>
        refine ⟨2, by omega, rfl, (by repeat (first | with_reducible assumption | with_reducible exact Below.refl _ _ | with_reducible refine Below.drew ?_ | with_reducible refine Below.drewN ?_ _ | with_reducible refine Below.setCell ?_ (by first | omega | (simp; done) | (simp; omega)) _ | with_reducible refine Below.alloc ?_ (by first | omega | (simp; done) | (simp; omega) | (simp [World.setCell]; omega)) _)), (by repeat (first | with_reducible assumption | (with_reducible apply At.new'; (first | with_reducible rfl | (simp; done))) | with_reducible apply At.set2 | with_reducible apply At.alloc | with_reducible apply At.drew | with_reducible apply At.drewN | (with_reducible apply At.set_other; (case hne => first | (simp; done) | (simp; omega))))), (by repeat (first | with_reducible assumption | (with_reducible apply At.new'; (first | with_reducible rfl | (simp; done))) | with_reducible apply At.set2 | with_reducible apply At.alloc | with_reducible apply At.drew | with_reducible apply At.drewN | (with_reducible apply At.set_other; (case hne => first | (simp; done) | (simp; omega))))), hi', lo', l1, l2, l3, l4, (by repeat (first | with_reducible assumption | (with_reducible apply At.new'; (first | with_reducible rfl | (simp; done))) | with_reducible apply At.set2 | with_reducible apply At.alloc | with_reducible apply At.drew | with_reducible apply At.drewN | (with_reducible apply At.set_other; (case hne => first | (simp; done) | (simp; omega))))), ?_⟩
        have h1 := HF.out 2 (by omega)
        have h2 := HR.out
        have h3 := HX2.out
        show _ = _
        rw [h3]
        unfold addQ
        simp at h1 h2 ⊢
        omega
      case measure => simp [intOf]
    · go_wp2
      refine bodyPost_ret (by simp [results, Try.results53, go_sem, f1]; rfl) rfl ?_
      refine ⟨hi, lo, k1, k2, k3, k4, ?_, rfl, (by repeat (first | with_reducible assumption | with_reducible exact Below.refl _ _ | with_reducible refine Below.drew ?_ | with_reducible refine Below.drewN ?_ _ | with_reducible refine Below.setCell ?_ (by first | omega | (simp; done) | (simp; omega)) _ | with_reducible refine Below.alloc ?_ (by first | omega | (simp; done) | (simp; omega) | (simp [World.setCell]; omega)) _))⟩
      have h2 := HR.out
      simp at h2
      rw [h2]
      exact HFIN.out
end Go.Proofs.Ytbmnebpjjghkpaa

