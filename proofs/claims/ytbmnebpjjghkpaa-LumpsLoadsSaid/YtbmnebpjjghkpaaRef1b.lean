/- Contracts of the document's answer for layer 1: doubled, one bit, a difference, a product. -/
import Derived.Test.YtbmnebpjjghkpaaProg
import Derived.Test.YtbmnebpjjghkpaaBase
import Derived.Test.YtbmnebpjjghkpaaRef1
namespace Go.Proofs.Ytbmnebpjjghkpaa
open Go.RowKit

theorem rdouble_any (ah al : Int) (w : World) (h1 : 0 ≤ ah) (h2 : ah < 18446744073709551616) (h3 : 0 ≤ al) (h4 : al < 18446744073709551616) :
    Calls Try.prog 61 #[.agg #[.int .u64 ah, .int .u64 al]] w
      (RetWB w (addQ (ah * 18446744073709551616 + al + (ah * 18446744073709551616 + al))) (addO (ah * 18446744073709551616 + al + (ah * 18446744073709551616 + al)))) := by
  go_enter Try.func61, Try.ntmps61
  go_wp2_with fail
  refine (radd_any _ _ _ _ _ h1 h2 h3 h4 h1 h2 h3 h4).mono ?_
  rintro e w1 ⟨hi, lo, k1, k2, k3, k4, hX, rfl, hb⟩
  have HX := Lib.hid hX
  clear hX
  obtain ⟨hc, hf⟩ := bcell hb
  have hz : w.heap.size + 1 < w1.heap.size := by have := hb.size; simp at this; omega
  go_wp2
  refine bodyPost_ret (by simp [results, Try.results61, go_sem, hc, hf, hz]; rfl) rfl ?_
  refine ⟨hi, lo, k1, k2, k3, k4, HX.out, rfl, ?_⟩
  exact ((((Below.refl _ _).alloc (Nat.le_refl _) _).alloc (by simp) _).trans (hb.mono (by simp; omega))).setCell (by simp) _ |>.setCell (by simp) _

def bitOf (X i : Int) : Int := X / 2 ^ i.toNat % 2

theorem bitOf_bd (X i : Int) : 0 ≤ bitOf X i ∧ bitOf X i ≤ 1 := by unfold bitOf; omega

theorem bitOf_low (ah al i : Int) (h1 : 0 ≤ ah) (h3 : 0 ≤ al) (hi0 : 0 ≤ i) (hi1 : i < 64) : bitOf (ah * 18446744073709551616 + al) i = al / 2 ^ i.toNat % 2 := by
  unfold bitOf
  obtain ⟨n, rfl⟩ := Int.eq_ofNat_of_zero_le hi0
  simp only [Int.toNat_natCast]
  have e : (18446744073709551616 : Int) = 2 ^ (63 - n) * 2 * 2 ^ n := by
    rw [show (2 : Int) ^ (63 - n) * 2 * 2 ^ n = 2 ^ (63 - n + 1 + n) by rw [Int.pow_add, Int.pow_add]; simp]
    rw [show 63 - n + 1 + n = 64 by omega]
    rfl
  rw [e, Int.add_comm, show ah * (2 ^ (63 - n) * 2 * 2 ^ n) = (ah * 2 ^ (63 - n) * 2) * 2 ^ n by simp only [Int.mul_assoc], Int.add_mul_ediv_right _ _ (by have : (0 : Int) < 2 ^ n := Int.pow_pos (by omega); omega)]
  omega

theorem bitOf_high (ah al i : Int) (h1 : 0 ≤ ah) (h3 : 0 ≤ al) (h4 : al < 18446744073709551616) (hi0 : 64 ≤ i) : bitOf (ah * 18446744073709551616 + al) i = ah / 2 ^ (i - 64).toNat % 2 := by
  unfold bitOf
  obtain ⟨n, rfl⟩ := Int.eq_ofNat_of_zero_le (show 0 ≤ i by omega)
  have e : (2 : Int) ^ ((n : Int)).toNat = 18446744073709551616 * 2 ^ ((n : Int) - 64).toNat := by
    rw [show (18446744073709551616 : Int) = 2 ^ 64 from rfl, ← Int.pow_add]
    congr 1
    omega
  rw [e, Int.mul_comm ah, ← Int.ediv_ediv_of_nonneg (by omega), show (18446744073709551616 * ah + al) / 18446744073709551616 = ah by omega]

theorem bit_any (ah al i : Int) (w : World) (h1 : 0 ≤ ah) (h2 : ah < 18446744073709551616) (h3 : 0 ≤ al) (h4 : al < 18446744073709551616) (hi0 : 0 ≤ i) (hi1 : i ≤ 127) :
    Calls Try.prog 62 #[.agg #[.int .u64 ah, .int .u64 al], .int .i64 i] w fun e w' =>
      e = .returned (.int .u64 (bitOf (ah * 18446744073709551616 + al) i)) ∧ Below w.heap.size w w' := by
  by_cases h : i < 64
  · rw [bitOf_low ah al i h1 h3 hi0 h]
    obtain ⟨v, hv, hv0⟩ : ∃ v : Int, al / 2 ^ i.toNat = v ∧ 0 ≤ v := ⟨_, rfl, Int.ediv_nonneg h3 (Int.pow_nonneg (by omega))⟩
    rw [hv]
    go_enter Try.func62, Try.ntmps62
    go_wp2
    go_ret
    exact ⟨rfl, (Below.refl _ _).alloc (Nat.le_refl _) _⟩
  · rw [bitOf_high ah al i h1 h3 h4 (by omega)]
    obtain ⟨v, hv, hv0⟩ : ∃ v : Int, ah / 2 ^ (i - 64).toNat = v ∧ 0 ≤ v := ⟨_, rfl, Int.ediv_nonneg h1 (Int.pow_nonneg (by omega))⟩
    rw [hv]
    go_enter Try.func62, Try.ntmps62
    go_wp2
    go_ret
    exact ⟨rfl, (Below.refl _ _).alloc (Nat.le_refl _) _⟩

/-- A difference, modulo 2^128, and whether it is below 0. -/
def subQ (X Y : Int) : Int := (X - Y) % 340282366920938463463374607431768211456

theorem rsub_any (ah al bh bl : Int) (w : World) (h1 : 0 ≤ ah) (h2 : ah < 18446744073709551616) (h3 : 0 ≤ al) (h4 : al < 18446744073709551616) (h5 : 0 ≤ bh) (h6 : bh < 18446744073709551616)
   (h7 : 0 ≤ bl) (h8 : bl < 18446744073709551616) :
    Calls Try.prog 63 #[.agg #[.int .u64 ah, .int .u64 al], .agg #[.int .u64 bh, .int .u64 bl]] w
      (RetWB w (subQ (ah * 18446744073709551616 + al) (bh * 18446744073709551616 + bl)) (decide (ah * 18446744073709551616 + al < bh * 18446744073709551616 + bl))) := by
  obtain ⟨o, HO⟩ : ∃ o, Hid (decide (ah * 18446744073709551616 + al < bh * 18446744073709551616 + bl) = o) := ⟨_, rfl⟩
  obtain ⟨q, HQ⟩ : ∃ o, Hid (subQ (ah * 18446744073709551616 + al) (bh * 18446744073709551616 + bl) = o) := ⟨_, rfl⟩
  rw [HO.out, HQ.out]
  go_enter Try.func63, Try.ntmps63
  go_wp2_with fail
  refine (radd_any _ _ _ _ _ h1 h2 h3 h4 (by omega) (by omega) (by omega) (by omega)).mono ?_
  rintro e w1 ⟨hi, lo, k1, k2, k3, k4, hX, rfl, hb⟩
  have HX := Lib.hid hX
  clear hX
  have a1 : At w1 w.heap.size #[.int .u64 ah, .int .u64 al] 96 := At.below (by repeat (first | with_reducible assumption | (with_reducible apply At.new'; (first | with_reducible rfl | (simp; done))) | with_reducible apply At.set2 | with_reducible apply At.alloc | with_reducible apply At.drew | with_reducible apply At.drewN | (with_reducible apply At.set_other; (case hne => first | (simp; done) | (simp; omega))))) hb
  have a2 : At w1 (w.heap.size + 1) #[.int .u64 bh, .int .u64 bl] 96 := At.below (by repeat (first | with_reducible assumption | (with_reducible apply At.new'; (first | with_reducible rfl | (simp; done))) | with_reducible apply At.set2 | with_reducible apply At.alloc | with_reducible apply At.drew | with_reducible apply At.drewN | (with_reducible apply At.set_other; (case hne => first | (simp; done) | (simp; omega))))) hb
  have a3 : At w1 (w.heap.size + 1 + 1) #[.int .u64 0, .int .u64 0] 96 := At.below (by repeat (first | with_reducible assumption | (with_reducible apply At.new'; (first | with_reducible rfl | (simp; done))) | with_reducible apply At.set2 | with_reducible apply At.alloc | with_reducible apply At.drew | with_reducible apply At.drewN | (with_reducible apply At.set_other; (case hne => first | (simp; done) | (simp; omega))))) hb
  have hB1 : Below w.heap.size w w1 := Below.trans (by repeat (first | with_reducible assumption | with_reducible exact Below.refl _ _ | with_reducible refine Below.drew ?_ | with_reducible refine Below.drewN ?_ _ | with_reducible refine Below.setCell ?_ (by first | omega | (simp; done) | (simp; omega)) _ | with_reducible refine Below.alloc ?_ (by first | omega | (simp; done) | (simp; omega) | (simp [World.setCell]; omega)) _)) (hb.mono (by first | omega | (simp; done) | (simp; omega) | (simp [World.setCell]; omega)))
  have z1 := hB1.size
  have f1 := a1.two
  have f2 := a2.two
  have f3 := a3.two
  have s3 := a3.lt
  clear hb
  go_wp2_with fail
  refine (radd_any _ _ _ _ _ k1 k2 k3 k4 (by omega) (by omega) (by omega) (by omega)).mono ?_
  rintro e w2 ⟨hi2, lo2, l1, l2, l3, l4, hX2, rfl, hb⟩
  have HX2 := Lib.hid hX2
  have b1 : At w2 w.heap.size #[.int .u64 ah, .int .u64 al] 96 := At.below (by repeat (first | with_reducible assumption | (with_reducible apply At.new'; (first | with_reducible rfl | (simp; done))) | with_reducible apply At.set2 | with_reducible apply At.alloc | with_reducible apply At.drew | with_reducible apply At.drewN | (with_reducible apply At.set_other; (case hne => first | (simp; done) | (simp; omega))))) hb
  have b2 : At w2 (w.heap.size + 1) #[.int .u64 bh, .int .u64 bl] 96 := At.below (by repeat (first | with_reducible assumption | (with_reducible apply At.new'; (first | with_reducible rfl | (simp; done))) | with_reducible apply At.set2 | with_reducible apply At.alloc | with_reducible apply At.drew | with_reducible apply At.drewN | (with_reducible apply At.set_other; (case hne => first | (simp; done) | (simp; omega))))) hb
  have b3 : At w2 (w.heap.size + 1 + 1) #[.int .u64 0, .int .u64 0] 96 := At.below (by repeat (first | with_reducible assumption | (with_reducible apply At.new'; (first | with_reducible rfl | (simp; done))) | with_reducible apply At.set2 | with_reducible apply At.alloc | with_reducible apply At.drew | with_reducible apply At.drewN | (with_reducible apply At.set_other; (case hne => first | (simp; done) | (simp; omega))))) hb
  have b4 : At w2 w1.heap.size #[.int .u64 hi, .int .u64 lo] 96 := At.below (by repeat (first | with_reducible assumption | (with_reducible apply At.new'; (first | with_reducible rfl | (simp; done))) | with_reducible apply At.set2 | with_reducible apply At.alloc | with_reducible apply At.drew | with_reducible apply At.drewN | (with_reducible apply At.set_other; (case hne => first | (simp; done) | (simp; omega))))) hb
  have hB2 : Below w.heap.size w w2 := Below.trans (by repeat (first | with_reducible assumption | with_reducible exact Below.refl _ _ | with_reducible refine Below.drew ?_ | with_reducible refine Below.drewN ?_ _ | with_reducible refine Below.setCell ?_ (by first | omega | (simp; done) | (simp; omega)) _ | with_reducible refine Below.alloc ?_ (by first | omega | (simp; done) | (simp; omega) | (simp [World.setCell]; omega)) _)) (hb.mono (by first | omega | (simp; done) | (simp; omega) | (simp [World.setCell]; omega)))
  clear hX2 a1 a2 a3 f1 f2 f3 hb
  have s4 := b4.lt
  have f4 := b4.two
  go_wp2
  refine gen_world (fun W => At W w.heap.size #[.int .u64 ah, .int .u64 al] 96 ∧ At W (w.heap.size + 1) #[.int .u64 bh, .int .u64 bl] 96 ∧ At W (w.heap.size + 1 + 1) #[.int .u64 0, .int .u64 0] 96 ∧
      At W w1.heap.size #[.int .u64 hi2, .int .u64 lo2] 96 ∧ Below w.heap.size w W)
    ⟨(by repeat (first | with_reducible assumption | (with_reducible apply At.new'; (first | with_reducible rfl | (simp; done))) | with_reducible apply At.set2 | with_reducible apply At.alloc | with_reducible apply At.drew | with_reducible apply At.drewN | (with_reducible apply At.set_other; (case hne => first | (simp; done) | (simp; omega))))), (by repeat (first | with_reducible assumption | (with_reducible apply At.new'; (first | with_reducible rfl | (simp; done))) | with_reducible apply At.set2 | with_reducible apply At.alloc | with_reducible apply At.drew | with_reducible apply At.drewN | (with_reducible apply At.set_other; (case hne => first | (simp; done) | (simp; omega))))), (by repeat (first | with_reducible assumption | (with_reducible apply At.new'; (first | with_reducible rfl | (simp; done))) | with_reducible apply At.set2 | with_reducible apply At.alloc | with_reducible apply At.drew | with_reducible apply At.drewN | (with_reducible apply At.set_other; (case hne => first | (simp; done) | (simp; omega))))), (by repeat (first | with_reducible assumption | (with_reducible apply At.new'; (first | with_reducible rfl | (simp; done))) | with_reducible apply At.set2 | with_reducible apply At.alloc | with_reducible apply At.drew | with_reducible apply At.drewN | (with_reducible apply At.set_other; (case hne => first | (simp; done) | (simp; omega))))), (by repeat (first | with_reducible assumption | with_reducible exact Below.refl _ _ | with_reducible refine Below.drew ?_ | with_reducible refine Below.drewN ?_ _ | with_reducible refine Below.setCell ?_ (by first | omega | (simp; done) | (simp; omega)) _ | with_reducible refine Below.alloc ?_ (by first | omega | (simp; done) | (simp; omega) | (simp [World.setCell]; omega)) _))⟩ ?_
  rintro W ⟨c1, c2, c3, c4, hB⟩
  have g1 := c1.two
  have g2 := c2.two
  have g3 := c3.two
  have g4 := c4.two
  have s1 := c4.lt
  clear b1 b2 b3 b4 f4
  have hS : ∀ n, w.heap.size < n → w.heap.size + 1 < n → w.heap.size + 1 + 1 < n → w1.heap.size < n → True := fun _ _ _ _ _ => trivial
  clear hS
  go_region_held3 (fun w' => w'.cell? ⟨w.heap.size, 0, none⟩ = some (.int .u64 ah) ∧ w'.cell? ⟨w.heap.size, 1, none⟩ = some (.int .u64 al) ∧ w'.cell? ⟨w.heap.size + 1, 0, none⟩ = some (.int .u64 bh) ∧ w'.cell? ⟨w.heap.size + 1, 1, none⟩ = some (.int .u64 bl) ∧
      w'.cell? ⟨w1.heap.size, 0, none⟩ = some (.int .u64 hi2) ∧ w'.cell? ⟨w1.heap.size, 1, none⟩ = some (.int .u64 lo2))
    (first | exact ⟨g1.1, g1.2.1, g2.1, g2.2.1, g4.1, g4.2.1⟩ | exact ⟨j1.1, j1.2.1, j2.1, j2.2.1, j4.1, j4.2.1⟩ | (have q1 := (At.set_other (At.set_other e1 (p := ⟨w.heap.size + 1 + 1, 0, none⟩) (by first | omega | (simp; done) | (simp; omega) | (simp [World.setCell]; omega)) (.int .u64 hi2)) (p := ⟨w.heap.size + 1 + 1, 1, none⟩) (by first | omega | (simp; done) | (simp; omega) | (simp [World.setCell]; omega)) (.int .u64 lo2)).two; have q2 := (At.set_other (At.set_other e2 (p := ⟨w.heap.size + 1 + 1, 0, none⟩) (by first | omega | (simp; done) | (simp; omega) | (simp [World.setCell]; omega)) (.int .u64 hi2)) (p := ⟨w.heap.size + 1 + 1, 1, none⟩) (by first | omega | (simp; done) | (simp; omega) | (simp [World.setCell]; omega)) (.int .u64 lo2)).two; have q4 := (At.set_other (At.set_other e4 (p := ⟨w.heap.size + 1 + 1, 0, none⟩) (by first | omega | (simp; done) | (simp; omega) | (simp [World.setCell]; omega)) (.int .u64 hi2)) (p := ⟨w.heap.size + 1 + 1, 1, none⟩) (by first | omega | (simp; done) | (simp; omega) | (simp [World.setCell]; omega)) (.int .u64 lo2)).two; exact ⟨q1.1, q1.2.1, q2.1, q2.2.1, q4.1, q4.2.1⟩))
    ((go_at_call 58; refine (rless_any _ _ _ _ _ h1 h2 h3 h4 h5 h6 h7 h8).mono ?_; rintro e w3 ⟨rfl, hb3⟩; have e1 := (At.below c1.drew hb3); have e2 := (At.below c2.drew hb3); have e3 := (At.below c3.drew hb3); have e4 := (At.below c4.drew hb3); have j1 := e1.two; have j2 := e2.two; have j3 := e3.two; have j4 := e4.two; rw [HO.out]))
  all_goals
    go_wp2
    refine bodyPost_ret (by simp [results, Try.results63, go_sem, j3]; rfl) rfl ?_
    refine ⟨hi2, lo2, l1, l2, l3, l4, ?_, rfl, ?_⟩
    · rw [← HQ.out, HX2.out, HX.out]
      unfold subQ addQ
      omega
    · have hB3 : Below w.heap.size w w3 := hB.drew.trans (hb3.mono hB.size)
      exact (by repeat (first | with_reducible assumption | with_reducible exact Below.refl _ _ | with_reducible refine Below.drew ?_ | with_reducible refine Below.drewN ?_ _ | with_reducible refine Below.setCell ?_ (by first | omega | (simp; done) | (simp; omega)) _ | with_reducible refine Below.alloc ?_ (by first | omega | (simp; done) | (simp; omega) | (simp [World.setCell]; omega)) _))

end Go.Proofs.Ytbmnebpjjghkpaa

