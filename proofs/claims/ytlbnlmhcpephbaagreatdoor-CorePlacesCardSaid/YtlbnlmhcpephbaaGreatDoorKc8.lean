/- Texts of this claim, joined, indents halved: RefOne. -/
import Derived.Test.YtlbnlmhcpephbaaGreatDoorProg
import Derived.Test.YtlbnlmhcpephbaaGreatDoorKc7
namespace Go.Proofs.YtlbnlmhcpephbaaGreatDoor
open Go.RowKit
theorem rless_any (ah al bh bl : Int) (w : World) (h1 : 0 ≤ ah) (h2 : ah < 18446744073709551616) (h3 : 0 ≤ al) (h4 : al < 18446744073709551616) (h5 : 0 ≤ bh) (h6 : bh < 18446744073709551616)
   (h7 : 0 ≤ bl) (h8 : bl < 18446744073709551616) :
    Calls Tryz.prog 20 #[.agg #[.int .u64 ah, .int .u64 al], .agg #[.int .u64 bh, .int .u64 bl]] w fun e w' =>
      e = .returned (.bool (decide (ah * 18446744073709551616 + al < bh * 18446744073709551616 + bl))) ∧ Below w.heap.size w w' := by
  by_cases h : ah = bh
  · subst h
    rw [show decide (ah * 18446744073709551616 + al < ah * 18446744073709551616 + bl) = decide (al < bl) by congr 1; apply propext; omega]
    go_enter Tryz.func20, Tryz.ntmps20
    go_wp2
    go_ret
    exact ⟨rfl, ((Below.refl _ _).alloc (Nat.le_refl _) _).alloc (by simp) _⟩
  · rw [show decide (ah * 18446744073709551616 + al < bh * 18446744073709551616 + bl) = decide (ah < bh) by congr 1; apply propext; omega]
    have hb : (ah != bh) = true := by simpa using h
    go_enter Tryz.func20, Tryz.ntmps20
    go_wp2
    go_ret
    exact ⟨rfl, ((Below.refl _ _).alloc (Nat.le_refl _) _).alloc (by simp) _⟩
def addQ (X : Int) : Int := X % 340282366920938463463374607431768211456
def addO (X : Int) : Bool := decide (340282366920938463463374607431768211456 ≤ X)
set_option maxHeartbeats 1000000 in
theorem radd_any (ah al bh bl : Int) (w : World) (h1 : 0 ≤ ah) (h2 : ah < 18446744073709551616) (h3 : 0 ≤ al) (h4 : al < 18446744073709551616) (h5 : 0 ≤ bh) (h6 : bh < 18446744073709551616)
   (h7 : 0 ≤ bl) (h8 : bl < 18446744073709551616) :
    Calls Tryz.prog 35 #[.agg #[.int .u64 ah, .int .u64 al], .agg #[.int .u64 bh, .int .u64 bl]] w
      (RetWB w (addQ (ah * 18446744073709551616 + al + (bh * 18446744073709551616 + bl))) (addO (ah * 18446744073709551616 + al + (bh * 18446744073709551616 + bl)))) := by
  obtain ⟨lo, hlo, lo1, lo2, HL⟩ : ∃ lo : Int, IntKind.u64.wrap (al + bl) = lo ∧ 0 ≤ lo ∧ lo < 18446744073709551616 ∧ Hid (al + bl = lo ∨ al + bl = lo + 18446744073709551616) := ⟨_, rfl, by rw [IntKind.wrap_u64]; omega, by rw [IntKind.wrap_u64]; omega, by rw [IntKind.wrap_u64]; show _ ∨ _; omega⟩
  obtain ⟨hi, hhi, hi1, hi2, HH⟩ : ∃ lo : Int, IntKind.u64.wrap (ah + bh) = lo ∧ 0 ≤ lo ∧ lo < 18446744073709551616 ∧ Hid (ah + bh = lo ∨ ah + bh = lo + 18446744073709551616) := ⟨_, rfl, by rw [IntKind.wrap_u64]; omega, by rw [IntKind.wrap_u64]; omega, by rw [IntKind.wrap_u64]; show _ ∨ _; omega⟩
  obtain ⟨h', hh', hi1', hi2', HH'⟩ : ∃ lo : Int, IntKind.u64.wrap (hi + 1) = lo ∧ 0 ≤ lo ∧ lo < 18446744073709551616 ∧ Hid (hi + 1 = lo ∨ hi + 1 = lo + 18446744073709551616) := ⟨_, rfl, by rw [IntKind.wrap_u64]; omega, by rw [IntKind.wrap_u64]; omega, by rw [IntKind.wrap_u64]; show _ ∨ _; omega⟩
  obtain ⟨q, hq⟩ : ∃ q, addQ (ah * 18446744073709551616 + al + (bh * 18446744073709551616 + bl)) = q := ⟨_, rfl⟩
  obtain ⟨o, ho⟩ : ∃ q, addO (ah * 18446744073709551616 + al + (bh * 18446744073709551616 + bl)) = q := ⟨_, rfl⟩
  have HX : Hid (∀ x y : Int, 0 ≤ x → x < 18446744073709551616 → 0 ≤ y → y < 18446744073709551616 → ∀ b : Bool,
      (if b then ah * 18446744073709551616 + al + (bh * 18446744073709551616 + bl) = x * 18446744073709551616 + y + 340282366920938463463374607431768211456 else ah * 18446744073709551616 + al + (bh * 18446744073709551616 + bl) = x * 18446744073709551616 + y) →
      x * 18446744073709551616 + y = q ∧ b = o) := by
    rw [← hq, ← ho]
    intro x y hx hx2 hy hy2 b hb
    cases b
    · simp only [Bool.false_eq_true, if_false] at hb
      unfold addQ addO
      rw [hb]
      exact ⟨by omega, by rw [eq_comm, decide_eq_false_iff_not]; omega⟩
    · simp only [if_true] at hb
      unfold addQ addO
      rw [hb]
      exact ⟨by omega, by rw [eq_comm, decide_eq_true_iff]; omega⟩
  rw [hq, ho]
  clear hq ho
  by_cases c1 : lo < al
  · by_cases c2 : hi < ah
    · go_enter Tryz.func35, Tryz.ntmps35
      go_wp2
      refine bodyPost_ret (by simp [results, Tryz.results35, go_sem]; rfl) rfl ?_
      have hc := HX.out h' lo (by omega) (by omega) (by omega) (by omega) true (by have := HL.out; have := HH.out; have := HH'.out; simp only [if_true]; omega)
      exact ⟨h', lo, by omega, by omega, by omega, by omega, hc.1, by rw [← hc.2], (((Below.refl _ _).alloc (Nat.le_refl _) _).alloc (by simp) _).alloc (by simp; omega) _⟩
    · by_cases c3 : h' = 0
      · subst c3
        go_enter Tryz.func35, Tryz.ntmps35
        go_wp2
        refine bodyPost_ret (by simp [results, Tryz.results35, go_sem]; rfl) rfl ?_
        have hc := HX.out 0 lo (by omega) (by omega) (by omega) (by omega) true (by have := HL.out; have := HH.out; have := HH'.out; simp only [if_true]; omega)
        exact ⟨0, lo, by omega, by omega, by omega, by omega, hc.1, by rw [← hc.2], (((Below.refl _ _).alloc (Nat.le_refl _) _).alloc (by simp) _).alloc (by simp; omega) _⟩
      · have c3' : (h' == 0) = false := by simpa using c3
        go_enter Tryz.func35, Tryz.ntmps35
        go_wp2
        refine bodyPost_ret (by simp [results, Tryz.results35, go_sem]; rfl) rfl ?_
        have hc := HX.out h' lo (by omega) (by omega) (by omega) (by omega) false (by have := HL.out; have := HH.out; have := HH'.out; simp only [Bool.false_eq_true, if_false]; omega)
        exact ⟨h', lo, by omega, by omega, by omega, by omega, hc.1, by rw [← hc.2], (((Below.refl _ _).alloc (Nat.le_refl _) _).alloc (by simp) _).alloc (by simp; omega) _⟩
  · by_cases c2 : hi < ah
    · go_enter Tryz.func35, Tryz.ntmps35
      go_wp2
      refine bodyPost_ret (by simp [results, Tryz.results35, go_sem]; rfl) rfl ?_
      have hc := HX.out hi lo (by omega) (by omega) (by omega) (by omega) true (by have := HL.out; have := HH.out; simp only [if_true]; omega)
      exact ⟨hi, lo, by omega, by omega, by omega, by omega, hc.1, by rw [← hc.2], (((Below.refl _ _).alloc (Nat.le_refl _) _).alloc (by simp) _).alloc (by simp; omega) _⟩
    · go_enter Tryz.func35, Tryz.ntmps35
      go_wp2
      refine bodyPost_ret (by simp [results, Tryz.results35, go_sem]; rfl) rfl ?_
      have hc := HX.out hi lo (by omega) (by omega) (by omega) (by omega) false (by have := HL.out; have := HH.out; simp only [Bool.false_eq_true, if_false]; omega)
      exact ⟨hi, lo, by omega, by omega, by omega, by omega, hc.1, by rw [← hc.2], (((Below.refl _ _).alloc (Nat.le_refl _) _).alloc (by simp) _).alloc (by simp; omega) _⟩
end Go.Proofs.YtlbnlmhcpephbaaGreatDoor
namespace Go.Proofs.YtlbnlmhcpephbaaGreatDoor
open Go.RowKit
theorem rdouble_any (ah al : Int) (w : World) (h1 : 0 ≤ ah) (h2 : ah < 18446744073709551616) (h3 : 0 ≤ al) (h4 : al < 18446744073709551616) :
  Calls Tryz.prog 53 #[.agg #[.int .u64 ah, .int .u64 al]] w
   (RetWB w (addQ (ah * 18446744073709551616 + al + (ah * 18446744073709551616 + al))) (addO (ah * 18446744073709551616 + al + (ah * 18446744073709551616 + al)))) := by
 go_enter Tryz.func53, Tryz.ntmps53
 go_wp2_with fail
 refine (radd_any _ _ _ _ _ h1 h2 h3 h4 h1 h2 h3 h4).mono ?_
 rintro e w1 ⟨hi, lo, k1, k2, k3, k4, hX, rfl, hb⟩
 have HX := Lib.hid hX
 clear hX
 obtain ⟨hc, hf⟩ := bcell hb
 have hz : w.heap.size + 1 < w1.heap.size := by have := hb.size; simp at this; omega
 go_wp2
 refine bodyPost_ret (by simp [results, Tryz.results53, go_sem, hc, hf, hz]; rfl) rfl ?_
 refine ⟨hi, lo, k1, k2, k3, k4, HX.out, rfl, ?_⟩
 exact ((((Below.refl _ _).alloc (Nat.le_refl _) _).alloc (by simp) _).trans (hb.mono (by simp; omega))).setCell (by simp) _ |>.setCell (by simp) _
def bitOf (X i : Int) : Int := X / 2 ^ i.toNat % 2
theorem bitOf_bd (X i : Int) : 0 ≤ bitOf X i ∧ bitOf X i ≤ 1 := by unfold bitOf; omega
theorem bitOf_low (ah al i : Int) (h1 : 0 ≤ ah) (h3 : 0 ≤ al) (hi0 : 0 ≤ i) (hi1 : i < 64) : bitOf (ah * 18446744073709551616 + al) i = al / 2 ^ i.toNat % 2 := by
 unfold bitOf
 obtain ⟨n, rfl⟩ := Int.eq_ofNat_of_zero_le hi0
 simp only [Int.toNat_natCast]
 have e : (18446744073709551616 : Int) = 2 ^ (63 - n) * 2 * 2 ^ n := by
  rw [show (2 : Int) ^ (63 - n) * 2 * 2 ^ n = 2 ^ (63 - n + 1 + n) by rw [Int.pow_add, Int.pow_add]; simp]
  rw [show 63 - n + 1 + n = 64 by omega]
  rfl
 rw [e, Int.add_comm, show ah * (2 ^ (63 - n) * 2 * 2 ^ n) = (ah * 2 ^ (63 - n) * 2) * 2 ^ n by simp only [Int.mul_assoc], Int.add_mul_ediv_right _ _ (by have : (0 : Int) < 2 ^ n := Int.pow_pos (by omega); omega)]
 omega
theorem bitOf_high (ah al i : Int) (h1 : 0 ≤ ah) (h3 : 0 ≤ al) (h4 : al < 18446744073709551616) (hi0 : 64 ≤ i) : bitOf (ah * 18446744073709551616 + al) i = ah / 2 ^ (i - 64).toNat % 2 := by
 unfold bitOf
 obtain ⟨n, rfl⟩ := Int.eq_ofNat_of_zero_le (show 0 ≤ i by omega)
 have e : (2 : Int) ^ ((n : Int)).toNat = 18446744073709551616 * 2 ^ ((n : Int) - 64).toNat := by
  rw [show (18446744073709551616 : Int) = 2 ^ 64 from rfl, ← Int.pow_add]
  congr 1
  omega
 rw [e, Int.mul_comm ah, ← Int.ediv_ediv_of_nonneg (by omega), show (18446744073709551616 * ah + al) / 18446744073709551616 = ah by omega]
theorem bit_any (ah al i : Int) (w : World) (h1 : 0 ≤ ah) (h2 : ah < 18446744073709551616) (h3 : 0 ≤ al) (h4 : al < 18446744073709551616) (hi0 : 0 ≤ i) (hi1 : i ≤ 127) :
  Calls Tryz.prog 54 #[.agg #[.int .u64 ah, .int .u64 al], .int .i64 i] w fun e w' =>
   e = .returned (.int .u64 (bitOf (ah * 18446744073709551616 + al) i)) ∧ Below w.heap.size w w' := by
 by_cases h : i < 64
 ·rw [bitOf_low ah al i h1 h3 hi0 h]
  obtain ⟨v, hv, hv0⟩ : ∃ v : Int, al / 2 ^ i.toNat = v ∧ 0 ≤ v := ⟨_, rfl, Int.ediv_nonneg h3 (Int.pow_nonneg (by omega))⟩
  rw [hv]
  go_enter Tryz.func54, Tryz.ntmps54
  go_wp2
  go_ret
  exact ⟨rfl, (Below.refl _ _).alloc (Nat.le_refl _) _⟩
 ·rw [bitOf_high ah al i h1 h3 h4 (by omega)]
  obtain ⟨v, hv, hv0⟩ : ∃ v : Int, ah / 2 ^ (i - 64).toNat = v ∧ 0 ≤ v := ⟨_, rfl, Int.ediv_nonneg h1 (Int.pow_nonneg (by omega))⟩
  rw [hv]
  go_enter Tryz.func54, Tryz.ntmps54
  go_wp2
  go_ret
  exact ⟨rfl, (Below.refl _ _).alloc (Nat.le_refl _) _⟩
def subQ (X Y : Int) : Int := (X - Y) % 340282366920938463463374607431768211456
theorem rsub_any (ah al bh bl : Int) (w : World) (h1 : 0 ≤ ah) (h2 : ah < 18446744073709551616) (h3 : 0 ≤ al) (h4 : al < 18446744073709551616) (h5 : 0 ≤ bh) (h6 : bh < 18446744073709551616)
   (h7 : 0 ≤ bl) (h8 : bl < 18446744073709551616) :
    Calls Tryz.prog 55 #[.agg #[.int .u64 ah, .int .u64 al], .agg #[.int .u64 bh, .int .u64 bl]] w
      (RetWB w (subQ (ah * 18446744073709551616 + al) (bh * 18446744073709551616 + bl)) (decide (ah * 18446744073709551616 + al < bh * 18446744073709551616 + bl))) := by
  obtain ⟨o, HO⟩ : ∃ o, Hid (decide (ah * 18446744073709551616 + al < bh * 18446744073709551616 + bl) = o) := ⟨_, rfl⟩
  obtain ⟨q, HQ⟩ : ∃ o, Hid (subQ (ah * 18446744073709551616 + al) (bh * 18446744073709551616 + bl) = o) := ⟨_, rfl⟩
  rw [HO.out, HQ.out]
  go_enter Tryz.func55, Tryz.ntmps55
  go_wp2_with fail
  refine (radd_any _ _ _ _ _ h1 h2 h3 h4 (by omega) (by omega) (by omega) (by omega)).mono ?_
  rintro e w1 ⟨hi, lo, k1, k2, k3, k4, hX, rfl, hb⟩
  have HX := Lib.hid hX
  clear hX
  have a1 : At w1 w.heap.size #[.int .u64 ah, .int .u64 al] 59 := At.below (by repeat (first | with_reducible assumption | (with_reducible apply At.new'; (first | with_reducible rfl | (simp; done))) | with_reducible apply At.set2 | with_reducible apply At.alloc | with_reducible apply At.drew | with_reducible apply At.drewN | (with_reducible apply At.set_other; (case hne => first | (simp; done) | (simp; omega))))) hb
  have a2 : At w1 (w.heap.size + 1) #[.int .u64 bh, .int .u64 bl] 59 := At.below (by repeat (first | with_reducible assumption | (with_reducible apply At.new'; (first | with_reducible rfl | (simp; done))) | with_reducible apply At.set2 | with_reducible apply At.alloc | with_reducible apply At.drew | with_reducible apply At.drewN | (with_reducible apply At.set_other; (case hne => first | (simp; done) | (simp; omega))))) hb
  have a3 : At w1 (w.heap.size + 1 + 1) #[.int .u64 0, .int .u64 0] 59 := At.below (by repeat (first | with_reducible assumption | (with_reducible apply At.new'; (first | with_reducible rfl | (simp; done))) | with_reducible apply At.set2 | with_reducible apply At.alloc | with_reducible apply At.drew | with_reducible apply At.drewN | (with_reducible apply At.set_other; (case hne => first | (simp; done) | (simp; omega))))) hb
  have hB1 : Below w.heap.size w w1 := Below.trans (by repeat (first | with_reducible assumption | with_reducible exact Below.refl _ _ | with_reducible refine Below.drew ?_ | with_reducible refine Below.drewN ?_ _ | with_reducible refine Below.setCell ?_ (by first | omega | (simp; done) | (simp; omega)) _ | with_reducible refine Below.alloc ?_ (by first | omega | (simp; done) | (simp; omega) | (simp [World.setCell]; omega)) _)) (hb.mono (by first | omega | (simp; done) | (simp; omega) | (simp [World.setCell]; omega)))
  have z1 := hB1.size
  have f1 := a1.two
  have f2 := a2.two
  have f3 := a3.two
  have s3 := a3.lt
  clear hb
  go_wp2_with fail
  refine (radd_any _ _ _ _ _ k1 k2 k3 k4 (by omega) (by omega) (by omega) (by omega)).mono ?_
  rintro e w2 ⟨hi2, lo2, l1, l2, l3, l4, hX2, rfl, hb⟩
  have HX2 := Lib.hid hX2
  have b1 : At w2 w.heap.size #[.int .u64 ah, .int .u64 al] 59 := At.below (by repeat (first | with_reducible assumption | (with_reducible apply At.new'; (first | with_reducible rfl | (simp; done))) | with_reducible apply At.set2 | with_reducible apply At.alloc | with_reducible apply At.drew | with_reducible apply At.drewN | (with_reducible apply At.set_other; (case hne => first | (simp; done) | (simp; omega))))) hb
  have b2 : At w2 (w.heap.size + 1) #[.int .u64 bh, .int .u64 bl] 59 := At.below (by repeat (first | with_reducible assumption | (with_reducible apply At.new'; (first | with_reducible rfl | (simp; done))) | with_reducible apply At.set2 | with_reducible apply At.alloc | with_reducible apply At.drew | with_reducible apply At.drewN | (with_reducible apply At.set_other; (case hne => first | (simp; done) | (simp; omega))))) hb
  have b3 : At w2 (w.heap.size + 1 + 1) #[.int .u64 0, .int .u64 0] 59 := At.below (by repeat (first | with_reducible assumption | (with_reducible apply At.new'; (first | with_reducible rfl | (simp; done))) | with_reducible apply At.set2 | with_reducible apply At.alloc | with_reducible apply At.drew | with_reducible apply At.drewN | (with_reducible apply At.set_other; (case hne => first | (simp; done) | (simp; omega))))) hb
  have b4 : At w2 w1.heap.size #[.int .u64 hi, .int .u64 lo] 59 := At.below (by repeat (first | with_reducible assumption | (with_reducible apply At.new'; (first | with_reducible rfl | (simp; done))) | with_reducible apply At.set2 | with_reducible apply At.alloc | with_reducible apply At.drew | with_reducible apply At.drewN | (with_reducible apply At.set_other; (case hne => first | (simp; done) | (simp; omega))))) hb
  have hB2 : Below w.heap.size w w2 := Below.trans (by repeat (first | with_reducible assumption | with_reducible exact Below.refl _ _ | with_reducible refine Below.drew ?_ | with_reducible refine Below.drewN ?_ _ | with_reducible refine Below.setCell ?_ (by first | omega | (simp; done) | (simp; omega)) _ | with_reducible refine Below.alloc ?_ (by first | omega | (simp; done) | (simp; omega) | (simp [World.setCell]; omega)) _)) (hb.mono (by first | omega | (simp; done) | (simp; omega) | (simp [World.setCell]; omega)))
  clear hX2 a1 a2 a3 f1 f2 f3 hb
  have s4 := b4.lt
  have f4 := b4.two
  go_wp2
  refine gen_world (fun W => At W w.heap.size #[.int .u64 ah, .int .u64 al] 59 ∧ At W (w.heap.size + 1) #[.int .u64 bh, .int .u64 bl] 59 ∧ At W (w.heap.size + 1 + 1) #[.int .u64 0, .int .u64 0] 59 ∧
      At W w1.heap.size #[.int .u64 hi2, .int .u64 lo2] 59 ∧ Below w.heap.size w W)
    ⟨(by repeat (first | with_reducible assumption | (with_reducible apply At.new'; (first | with_reducible rfl | (simp; done))) | with_reducible apply At.set2 | with_reducible apply At.alloc | with_reducible apply At.drew | with_reducible apply At.drewN | (with_reducible apply At.set_other; (case hne => first | (simp; done) | (simp; omega))))), (by repeat (first | with_reducible assumption | (with_reducible apply At.new'; (first | with_reducible rfl | (simp; done))) | with_reducible apply At.set2 | with_reducible apply At.alloc | with_reducible apply At.drew | with_reducible apply At.drewN | (with_reducible apply At.set_other; (case hne => first | (simp; done) | (simp; omega))))), (by repeat (first | with_reducible assumption | (with_reducible apply At.new'; (first | with_reducible rfl | (simp; done))) | with_reducible apply At.set2 | with_reducible apply At.alloc | with_reducible apply At.drew | with_reducible apply At.drewN | (with_reducible apply At.set_other; (case hne => first | (simp; done) | (simp; omega))))), (by repeat (first | with_reducible assumption | (with_reducible apply At.new'; (first | with_reducible rfl | (simp; done))) | with_reducible apply At.set2 | with_reducible apply At.alloc | with_reducible apply At.drew | with_reducible apply At.drewN | (with_reducible apply At.set_other; (case hne => first | (simp; done) | (simp; omega))))), (by repeat (first | with_reducible assumption | with_reducible exact Below.refl _ _ | with_reducible refine Below.drew ?_ | with_reducible refine Below.drewN ?_ _ | with_reducible refine Below.setCell ?_ (by first | omega | (simp; done) | (simp; omega)) _ | with_reducible refine Below.alloc ?_ (by first | omega | (simp; done) | (simp; omega) | (simp [World.setCell]; omega)) _))⟩ ?_
  rintro W ⟨c1, c2, c3, c4, hB⟩
  have g1 := c1.two
  have g2 := c2.two
  have g3 := c3.two
  have g4 := c4.two
  have s1 := c4.lt
  clear b1 b2 b3 b4 f4
  have hS : ∀ n, w.heap.size < n → w.heap.size + 1 < n → w.heap.size + 1 + 1 < n → w1.heap.size < n → True := fun _ _ _ _ _ => trivial
  clear hS
  go_region_held3 (fun w' => w'.cell? ⟨w.heap.size, 0, none⟩ = some (.int .u64 ah) ∧ w'.cell? ⟨w.heap.size, 1, none⟩ = some (.int .u64 al) ∧ w'.cell? ⟨w.heap.size + 1, 0, none⟩ = some (.int .u64 bh) ∧ w'.cell? ⟨w.heap.size + 1, 1, none⟩ = some (.int .u64 bl) ∧
      w'.cell? ⟨w1.heap.size, 0, none⟩ = some (.int .u64 hi2) ∧ w'.cell? ⟨w1.heap.size, 1, none⟩ = some (.int .u64 lo2))
    (first | exact ⟨g1.1, g1.2.1, g2.1, g2.2.1, g4.1, g4.2.1⟩ | exact ⟨j1.1, j1.2.1, j2.1, j2.2.1, j4.1, j4.2.1⟩ | (have q1 := (At.set_other (At.set_other e1 (p := ⟨w.heap.size + 1 + 1, 0, none⟩) (by first | omega | (simp; done) | (simp; omega) | (simp [World.setCell]; omega)) (.int .u64 hi2)) (p := ⟨w.heap.size + 1 + 1, 1, none⟩) (by first | omega | (simp; done) | (simp; omega) | (simp [World.setCell]; omega)) (.int .u64 lo2)).two; have q2 := (At.set_other (At.set_other e2 (p := ⟨w.heap.size + 1 + 1, 0, none⟩) (by first | omega | (simp; done) | (simp; omega) | (simp [World.setCell]; omega)) (.int .u64 hi2)) (p := ⟨w.heap.size + 1 + 1, 1, none⟩) (by first | omega | (simp; done) | (simp; omega) | (simp [World.setCell]; omega)) (.int .u64 lo2)).two; have q4 := (At.set_other (At.set_other e4 (p := ⟨w.heap.size + 1 + 1, 0, none⟩) (by first | omega | (simp; done) | (simp; omega) | (simp [World.setCell]; omega)) (.int .u64 hi2)) (p := ⟨w.heap.size + 1 + 1, 1, none⟩) (by first | omega | (simp; done) | (simp; omega) | (simp [World.setCell]; omega)) (.int .u64 lo2)).two; exact ⟨q1.1, q1.2.1, q2.1, q2.2.1, q4.1, q4.2.1⟩))
    ((go_at_call 20; refine (rless_any _ _ _ _ _ h1 h2 h3 h4 h5 h6 h7 h8).mono ?_; rintro e w3 ⟨rfl, hb3⟩; have e1 := (At.below c1.drew hb3); have e2 := (At.below c2.drew hb3); have e3 := (At.below c3.drew hb3); have e4 := (At.below c4.drew hb3); have j1 := e1.two; have j2 := e2.two; have j3 := e3.two; have j4 := e4.two; rw [HO.out]))
  all_goals
    go_wp2
    refine bodyPost_ret (by simp [results, Tryz.results55, go_sem, j3]; rfl) rfl ?_
    refine ⟨hi2, lo2, l1, l2, l3, l4, ?_, rfl, ?_⟩
    · rw [← HQ.out, HX2.out, HX.out]
      unfold subQ addQ
      omega
    · have hB3 : Below w.heap.size w w3 := hB.drew.trans (hb3.mono hB.size)
      exact (by repeat (first | with_reducible assumption | with_reducible exact Below.refl _ _ | with_reducible refine Below.drew ?_ | with_reducible refine Below.drewN ?_ _ | with_reducible refine Below.setCell ?_ (by first | omega | (simp; done) | (simp; omega)) _ | with_reducible refine Below.alloc ?_ (by first | omega | (simp; done) | (simp; omega) | (simp [World.setCell]; omega)) _))
end Go.Proofs.YtlbnlmhcpephbaaGreatDoor
namespace Go.Proofs.YtlbnlmhcpephbaaGreatDoor
open Go.RowKit
theorem rtimes_split (a b : Int) (ha : 0 ≤ a) (ha' : a < 18446744073709551616) (hb : 0 ≤ b) (hb' : b < 18446744073709551616) :
  ∃ p q r s : Int, a / 4294967296 * (b / 4294967296) = p ∧ a % 4294967296 * (b % 4294967296) = q ∧ a / 4294967296 * (b % 4294967296) = r ∧ a % 4294967296 * (b / 4294967296) = s ∧
   0 ≤ p ∧ p < 18446744073709551616 ∧ 0 ≤ q ∧ q < 18446744073709551616 ∧ 0 ≤ r ∧ r < 18446744073709551616 ∧ 0 ≤ s ∧ s < 18446744073709551616 ∧
   Hid (a * b = p * 18446744073709551616 + (r + s) * 4294967296 + q) ∧ Hid (a * b < 340282366920938463463374607431768211456) := by
 have k : ∀ x y : Int, 0 ≤ x → x < 4294967296 → 0 ≤ y → y < 4294967296 → 0 ≤ x * y ∧ x * y < 18446744073709551616 := by
  intro x y h1 h2 h3 h4
  refine ⟨Int.mul_nonneg h1 h3, ?_⟩
  have h5 : x * y ≤ 4294967295 * y := Int.mul_le_mul_of_nonneg_right (by omega) h3
  omega
 have a1 : 0 ≤ a / 4294967296 ∧ a / 4294967296 < 4294967296 := by omega
 have a2 : 0 ≤ a % 4294967296 ∧ a % 4294967296 < 4294967296 := by omega
 have b1 : 0 ≤ b / 4294967296 ∧ b / 4294967296 < 4294967296 := by omega
 have b2 : 0 ≤ b % 4294967296 ∧ b % 4294967296 < 4294967296 := by omega
 have ea : a = a / 4294967296 * 4294967296 + a % 4294967296 := by omega
 have eb : b = b / 4294967296 * 4294967296 + b % 4294967296 := by omega
 obtain ⟨p1, p2⟩ := k _ _ a1.1 a1.2 b1.1 b1.2
 obtain ⟨q1, q2⟩ := k _ _ a2.1 a2.2 b2.1 b2.2
 obtain ⟨r1, r2⟩ := k _ _ a1.1 a1.2 b2.1 b2.2
 obtain ⟨s1, s2⟩ := k _ _ a2.1 a2.2 b1.1 b1.2
 have e : a * b = a / 4294967296 * (b / 4294967296) * 18446744073709551616 + (a / 4294967296 * (b % 4294967296) + a % 4294967296 * (b / 4294967296)) * 4294967296 + a % 4294967296 * (b % 4294967296) := by
  generalize a / 4294967296 = x at *
  generalize a % 4294967296 = y at *
  generalize b / 4294967296 = z at *
  generalize b % 4294967296 = t at *
  subst ea eb
  rw [Int.add_mul, Int.mul_add, Int.mul_add, show x * 4294967296 * (z * 4294967296) = x * z * 18446744073709551616 by rw [Int.mul_assoc, Int.mul_left_comm 4294967296 z, ← Int.mul_assoc]; simp, show x * 4294967296 * t = x * t * 4294967296 by rw [Int.mul_right_comm], show y * (z * 4294967296) = y * z * 4294967296 by rw [Int.mul_assoc]]
  omega
 have hlt : a * b < 340282366920938463463374607431768211456 := by
  have h5 : a * b ≤ 18446744073709551615 * b := Int.mul_le_mul_of_nonneg_right (by omega) hb
  omega
 exact ⟨_, _, _, _, rfl, rfl, rfl, rfl, p1, p2, q1, q2, r1, r2, s1, s2, e, hlt⟩
set_option maxHeartbeats 1000000 in
theorem rtimes_any (a b : Int) (w : World) (ha : 0 ≤ a) (ha' : a < 18446744073709551616) (hb : 0 ≤ b) (hb' : b < 18446744073709551616) :
  Calls Tryz.prog 21 #[.int .u64 a, .int .u64 b] w (RetW w (a * b)) := by
 obtain ⟨p, q, r, s, hp, hq, hr, hs, p1, p2, q1, q2, r1, r2, s1, s2, HE, HL⟩ := rtimes_split a b ha ha' hb hb'
 obtain ⟨X, HX⟩ : ∃ X, Hid (a * b = X) := ⟨_, rfl⟩
 rw [HX.out]
 go_enter Tryz.func21, Tryz.ntmps21
 go_wp2
 have HF : Hid (∀ k : Nat, k ≤ 2 → p * 18446744073709551616 + q + ((if 0 < k then r else 0) + (if 1 < k then s else 0)) * 4294967296 < 340282366920938463463374607431768211456) := by
  intro k hk
  have h1 := HE.out
  have h2 := HL.out
  split <;> split <;> omega
 have HFIN : Hid (p * 18446744073709551616 + q + (r + s) * 4294967296 = X) := by
  have h1 := HE.out
  have h2 := HX.out
  show _ = _
  omega
 clear HE HL HX hp hq hr hs
 go_loopw [35] (fun i wr => ∃ k : Nat, k ≤ 2 ∧ i = .int .i64 k ∧ Below w.heap.size w wr ∧ At wr (w.heap.size + 1 + 1) #[.int .u64 r, .int .u64 s] 23 ∧ At wr w.heap.size #[.int .u64 0, .int .u64 0] 59 ∧
   ∃ hi lo : Int, 0 ≤ hi ∧ hi < 18446744073709551616 ∧ 0 ≤ lo ∧ lo < 18446744073709551616 ∧ At wr (w.heap.size + 1) #[.int .u64 hi, .int .u64 lo] 59 ∧
    Hid (hi * 18446744073709551616 + lo = p * 18446744073709551616 + q + ((if 0 < k then r else 0) + (if 1 < k then s else 0)) * 4294967296))
  (fun i _ => 2 - (intOf i).toNat)
 case atStart => exact ⟨0, by omega, rfl, (by repeat (first | with_reducible assumption | with_reducible exact Below.refl _ _ | with_reducible refine Below.drew ?_ | with_reducible refine Below.drewN ?_ _ | with_reducible refine Below.setCell ?_ (by first | omega | (simp; done) | (simp; omega)) _ | with_reducible refine Below.alloc ?_ (by first | omega | (simp; done) | (simp; omega) | (simp [World.setCell]; omega)) _)), (by repeat (first | with_reducible assumption | (with_reducible apply At.new'; (first | with_reducible rfl | (simp; done))) | with_reducible apply At.set2 | with_reducible apply At.alloc | with_reducible apply At.drew | with_reducible apply At.drewN | (with_reducible apply At.set_other; (case hne => first | (simp; done) | (simp; omega))))), (by repeat (first | with_reducible assumption | (with_reducible apply At.new'; (first | with_reducible rfl | (simp; done))) | with_reducible apply At.set2 | with_reducible apply At.alloc | with_reducible apply At.drew | with_reducible apply At.drewN | (with_reducible apply At.set_other; (case hne => first | (simp; done) | (simp; omega))))), p, q, p1, p2, q1, q2, (by repeat (first | with_reducible assumption | (with_reducible apply At.new'; (first | with_reducible rfl | (simp; done))) | with_reducible apply At.set2 | with_reducible apply At.alloc | with_reducible apply At.drew | with_reducible apply At.drewN | (with_reducible apply At.set_other; (case hne => first | (simp; done) | (simp; omega))))), by show _ = _; simp⟩
 case round =>
  obtain ⟨k, hk, rfl, hB, a3, a1, hi, lo, k1, k2, k3, k4, a2, HR⟩ := hrel
  have z1 := a3.lt
  have f1 := a1.two
  have f2 := a2.two
  have f3 := a3.two
  rcases (show k = 0 ∨ k = 1 ∨ k = 2 by omega) with rfl | rfl | rfl
  ·go_wp2_with fail
   refine (radd_any _ _ _ _ _ k1 k2 k3 k4 (by omega) (by omega) (by omega) (by omega)).mono ?_
   rintro e w1 ⟨hi', lo', l1, l2, l3, l4, hX2, rfl, hb⟩
   have HX2 := Lib.hid hX2
   clear hX2
   have b1 : At w1 w.heap.size #[.int .u64 0, .int .u64 0] 59 := At.below (by repeat (first | with_reducible assumption | (with_reducible apply At.new'; (first | with_reducible rfl | (simp; done))) | with_reducible apply At.set2 | with_reducible apply At.alloc | with_reducible apply At.drew | with_reducible apply At.drewN | (with_reducible apply At.set_other; (case hne => first | (simp; done) | (simp; omega))))) hb
   have b2 : At w1 (w.heap.size + 1) #[.int .u64 hi, .int .u64 lo] 59 := At.below (by repeat (first | with_reducible assumption | (with_reducible apply At.new'; (first | with_reducible rfl | (simp; done))) | with_reducible apply At.set2 | with_reducible apply At.alloc | with_reducible apply At.drew | with_reducible apply At.drewN | (with_reducible apply At.set_other; (case hne => first | (simp; done) | (simp; omega))))) hb
   have b3 : At w1 (w.heap.size + 1 + 1) #[.int .u64 r, .int .u64 s] 23 := At.below (by repeat (first | with_reducible assumption | (with_reducible apply At.new'; (first | with_reducible rfl | (simp; done))) | with_reducible apply At.set2 | with_reducible apply At.alloc | with_reducible apply At.drew | with_reducible apply At.drewN | (with_reducible apply At.set_other; (case hne => first | (simp; done) | (simp; omega))))) hb
   have hB2 : Below w.heap.size w w1 := hB.trans (hb.mono hB.size)
   clear hb f1 f2 f3 a1 a2 a3
   have g2 := b2.two
   go_wp2
   go_roundw
   case rel =>
    refine ⟨1, by omega, rfl, (by repeat (first | with_reducible assumption | with_reducible exact Below.refl _ _ | with_reducible refine Below.drew ?_ | with_reducible refine Below.drewN ?_ _ | with_reducible refine Below.setCell ?_ (by first | omega | (simp; done) | (simp; omega)) _ | with_reducible refine Below.alloc ?_ (by first | omega | (simp; done) | (simp; omega) | (simp [World.setCell]; omega)) _)), (by repeat (first | with_reducible assumption | (with_reducible apply At.new'; (first | with_reducible rfl | (simp; done))) | with_reducible apply At.set2 | with_reducible apply At.alloc | with_reducible apply At.drew | with_reducible apply At.drewN | (with_reducible apply At.set_other; (case hne => first | (simp; done) | (simp; omega))))), (by repeat (first | with_reducible assumption | (with_reducible apply At.new'; (first | with_reducible rfl | (simp; done))) | with_reducible apply At.set2 | with_reducible apply At.alloc | with_reducible apply At.drew | with_reducible apply At.drewN | (with_reducible apply At.set_other; (case hne => first | (simp; done) | (simp; omega))))), hi', lo', l1, l2, l3, l4, (by repeat (first | with_reducible assumption | (with_reducible apply At.new'; (first | with_reducible rfl | (simp; done))) | with_reducible apply At.set2 | with_reducible apply At.alloc | with_reducible apply At.drew | with_reducible apply At.drewN | (with_reducible apply At.set_other; (case hne => first | (simp; done) | (simp; omega))))), ?_⟩
    have h1 := HF.out 1 (by omega)
    have h2 := HR.out
    have h3 := HX2.out
    show _ = _
    rw [h3]
    unfold addQ
    simp at h1 h2 ⊢
    omega
   case measure => simp [intOf]
  ·go_wp2_with fail
   refine (radd_any _ _ _ _ _ k1 k2 k3 k4 (by omega) (by omega) (by omega) (by omega)).mono ?_
   rintro e w1 ⟨hi', lo', l1, l2, l3, l4, hX2, rfl, hb⟩
   have HX2 := Lib.hid hX2
   clear hX2
   have b1 : At w1 w.heap.size #[.int .u64 0, .int .u64 0] 59 := At.below (by repeat (first | with_reducible assumption | (with_reducible apply At.new'; (first | with_reducible rfl | (simp; done))) | with_reducible apply At.set2 | with_reducible apply At.alloc | with_reducible apply At.drew | with_reducible apply At.drewN | (with_reducible apply At.set_other; (case hne => first | (simp; done) | (simp; omega))))) hb
   have b2 : At w1 (w.heap.size + 1) #[.int .u64 hi, .int .u64 lo] 59 := At.below (by repeat (first | with_reducible assumption | (with_reducible apply At.new'; (first | with_reducible rfl | (simp; done))) | with_reducible apply At.set2 | with_reducible apply At.alloc | with_reducible apply At.drew | with_reducible apply At.drewN | (with_reducible apply At.set_other; (case hne => first | (simp; done) | (simp; omega))))) hb
   have b3 : At w1 (w.heap.size + 1 + 1) #[.int .u64 r, .int .u64 s] 23 := At.below (by repeat (first | with_reducible assumption | (with_reducible apply At.new'; (first | with_reducible rfl | (simp; done))) | with_reducible apply At.set2 | with_reducible apply At.alloc | with_reducible apply At.drew | with_reducible apply At.drewN | (with_reducible apply At.set_other; (case hne => first | (simp; done) | (simp; omega))))) hb
   have hB2 : Below w.heap.size w w1 := hB.trans (hb.mono hB.size)
   clear hb f1 f2 f3 a1 a2 a3
   have g2 := b2.two
   go_wp2
   go_roundw
   case rel =>
    refine ⟨2, by omega, rfl, (by repeat (first | with_reducible assumption | with_reducible exact Below.refl _ _ | with_reducible refine Below.drew ?_ | with_reducible refine Below.drewN ?_ _ | with_reducible refine Below.setCell ?_ (by first | omega | (simp; done) | (simp; omega)) _ | with_reducible refine Below.alloc ?_ (by first | omega | (simp; done) | (simp; omega) | (simp [World.setCell]; omega)) _)), (by repeat (first | with_reducible assumption | (with_reducible apply At.new'; (first | with_reducible rfl | (simp; done))) | with_reducible apply At.set2 | with_reducible apply At.alloc | with_reducible apply At.drew | with_reducible apply At.drewN | (with_reducible apply At.set_other; (case hne => first | (simp; done) | (simp; omega))))), (by repeat (first | with_reducible assumption | (with_reducible apply At.new'; (first | with_reducible rfl | (simp; done))) | with_reducible apply At.set2 | with_reducible apply At.alloc | with_reducible apply At.drew | with_reducible apply At.drewN | (with_reducible apply At.set_other; (case hne => first | (simp; done) | (simp; omega))))), hi', lo', l1, l2, l3, l4, (by repeat (first | with_reducible assumption | (with_reducible apply At.new'; (first | with_reducible rfl | (simp; done))) | with_reducible apply At.set2 | with_reducible apply At.alloc | with_reducible apply At.drew | with_reducible apply At.drewN | (with_reducible apply At.set_other; (case hne => first | (simp; done) | (simp; omega))))), ?_⟩
    have h1 := HF.out 2 (by omega)
    have h2 := HR.out
    have h3 := HX2.out
    show _ = _
    rw [h3]
    unfold addQ
    simp at h1 h2 ⊢
    omega
   case measure => simp [intOf]
  ·go_wp2
   refine bodyPost_ret (by simp [results, Tryz.results21, go_sem, f1]; rfl) rfl ?_
   refine ⟨hi, lo, k1, k2, k3, k4, ?_, rfl, (by repeat (first | with_reducible assumption | with_reducible exact Below.refl _ _ | with_reducible refine Below.drew ?_ | with_reducible refine Below.drewN ?_ _ | with_reducible refine Below.setCell ?_ (by first | omega | (simp; done) | (simp; omega)) _ | with_reducible refine Below.alloc ?_ (by first | omega | (simp; done) | (simp; omega) | (simp [World.setCell]; omega)) _))⟩
   have h2 := HR.out
   simp at h2
   rw [h2]
   exact HFIN.out
end Go.Proofs.YtlbnlmhcpephbaaGreatDoor
namespace Go.Proofs.YtlbnlmhcpephbaaGreatDoor
open Go.RowKit
theorem half_step (A i : Int) (hA : 0 ≤ A) (hi : 0 ≤ i) : A / 2 ^ i.toNat = A / 2 ^ (i + 1).toNat * 2 + bitOf A i := by
 unfold bitOf
 obtain ⟨n, rfl⟩ := Int.eq_ofNat_of_zero_le hi
 have e : (2 : Int) ^ ((n : Int) + 1).toNat = 2 ^ n * 2 := by rw [show ((n : Int) + 1).toNat = n + 1 by omega, Int.pow_succ]
 rw [e, ← Int.ediv_ediv_of_nonneg (Int.pow_nonneg (by omega))]
 simp only [Int.toNat_natCast]
 omega
theorem over_step (A y q r k bt : Int) (hA : 0 ≤ A) (hA2 : A < 340282366920938463463374607431768211456) (hk : 0 ≤ k) (hy : 0 < y) (hr : 0 ≤ r) (hq : 0 ≤ q) (hbt : bitOf A k = bt) (h : A / 2 ^ (k + 1).toNat = q * y + r) :
  A / 2 ^ k.toNat = 2 * q * y + (2 * r + bt) ∧ 2 * q + 1 < 340282366920938463463374607431768211456 ∨ A / 2 ^ k.toNat = 2 * q * y + (2 * r + bt) ∧ 2 * q + 1 = 340282366920938463463374607431768211456 ∧ False := by
 have h1 := half_step A k hA hk
 have hb := bitOf_bd A k
 rw [h, hbt] at h1
 have h2 : A / 2 ^ k.toNat ≤ A := Int.ediv_le_self _ hA
 have h3 : q * 1 ≤ q * y := Int.mul_le_mul_of_nonneg_left hy hq
 have h4 : 2 * q * y = 2 * (q * y) := by rw [Int.mul_assoc]
 left
 rw [h4]
 omega
theorem over_end (A y q r : Int) (hy : 0 < y) (hr : 0 ≤ r) (hr2 : r < y) (hq : 0 ≤ q) (h : A = q * y + r) :
  (q < 18446744073709551616 → overQ A y = q ∧ overR A y = r ∧ overOk A y = true) ∧ (¬ q < 18446744073709551616 → overQ A y = 0 ∧ overR A y = 0 ∧ overOk A y = false) := by
 obtain ⟨h1, h2⟩ := DivM.uniq A y q r h hr hr2
 have h3 : 0 ≤ q * y := Int.mul_nonneg hq (by omega)
 refine ⟨fun hl => ?_, fun hl => ?_⟩
 ·have : A < y * 18446744073709551616 := by
   have h4 : (q + 1) * y ≤ 18446744073709551616 * y := Int.mul_le_mul_of_nonneg_right (by omega) (by omega)
   rw [Int.add_mul] at h4
   omega
  obtain ⟨e1, e2, e3⟩ := over_yes A y this
  exact ⟨e1.trans h1, e2.trans h2, e3⟩
 ·have : ¬ A < y * 18446744073709551616 := by
   have h4 : 18446744073709551616 * y ≤ q * y := Int.mul_le_mul_of_nonneg_right (by omega) (by omega)
   omega
  exact over_no A y this
set_option maxHeartbeats 2000000 in
theorem rover_loop (ah al y : Int) (w : World) (h1 : 0 ≤ ah) (h2 : ah < 18446744073709551616) (h3 : 0 ≤ al) (h4 : al < 18446744073709551616) (hy : 0 < y) (hy' : y < 18446744073709551616) :
  Calls Tryz.prog 40 #[.agg #[.int .u64 ah, .int .u64 al], .int .u64 y] w fun e w' =>
   e = .returned (.tuple #[.int .u64 (overQ (ah * 18446744073709551616 + al) y), .int .u64 (overR (ah * 18446744073709551616 + al) y), .bool (overOk (ah * 18446744073709551616 + al) y)]) ∧ Below w.heap.size w w' := by
 obtain ⟨A, HA⟩ : ∃ A, Hid (ah * 18446744073709551616 + al = A) := ⟨_, rfl⟩
 rw [HA.out]
 have HA0 : Hid (0 ≤ A ∧ A < 340282366920938463463374607431768211456) := by have := HA.out; constructor <;> omega
 have hy0 : (y == 0) = false := by simp; omega
 go_enter Tryz.func40, Tryz.ntmps40
 go_wp2
 go_loopw [10] (fun i wr => ∃ k q r : Int, -1 ≤ k ∧ k ≤ 127 ∧ i = .int .i64 k ∧ Below w.heap.size w wr ∧ At wr w.heap.size #[.int .u64 ah, .int .u64 al] 59 ∧ At wr (w.heap.size + 1) #[.int .u64 0, .int .u64 y] 59 ∧
   0 ≤ r ∧ r < y ∧ At wr (w.heap.size + 1 + 1) #[.int .u64 0, .int .u64 r] 59 ∧
   ∃ qh ql : Int, 0 ≤ qh ∧ qh < 18446744073709551616 ∧ 0 ≤ ql ∧ ql < 18446744073709551616 ∧ At wr (w.heap.size + 1 + 1 + 1) #[.int .u64 qh, .int .u64 ql] 59 ∧
   Hid (qh * 18446744073709551616 + ql = q ∧ A / 2 ^ (k + 1).toNat = q * y + r))
  (fun i _ => (intOf i + 1).toNat)
 case atStart =>
  refine ⟨127, 0, 0, by omega, by omega, rfl, (by repeat (first | with_reducible assumption | with_reducible exact Below.refl _ _ | with_reducible refine Below.drew ?_ | with_reducible refine Below.drewN ?_ _ | with_reducible refine Below.setCell ?_ (by first | omega | (simp; done) | (simp; omega)) _ | with_reducible refine Below.alloc ?_ (by first | omega | (simp; done) | (simp; omega) | (simp [World.setCell]; omega)) _)), (by repeat (first | with_reducible assumption | (with_reducible apply At.new'; (first | with_reducible rfl | (simp; done))) | with_reducible apply At.set2 | with_reducible apply At.alloc | with_reducible apply At.drew | with_reducible apply At.drewN | (with_reducible apply At.set_other; (case hne => first | (simp; done) | (simp; omega))))), (by repeat (first | with_reducible assumption | (with_reducible apply At.new'; (first | with_reducible rfl | (simp; done))) | with_reducible apply At.set2 | with_reducible apply At.alloc | with_reducible apply At.drew | with_reducible apply At.drewN | (with_reducible apply At.set_other; (case hne => first | (simp; done) | (simp; omega))))), by omega, by omega, (by repeat (first | with_reducible assumption | (with_reducible apply At.new'; (first | with_reducible rfl | (simp; done))) | with_reducible apply At.set2 | with_reducible apply At.alloc | with_reducible apply At.drew | with_reducible apply At.drewN | (with_reducible apply At.set_other; (case hne => first | (simp; done) | (simp; omega))))), 0, 0, by omega, by omega, by omega, by omega, (by repeat (first | with_reducible assumption | (with_reducible apply At.new'; (first | with_reducible rfl | (simp; done))) | with_reducible apply At.set2 | with_reducible apply At.alloc | with_reducible apply At.drew | with_reducible apply At.drewN | (with_reducible apply At.set_other; (case hne => first | (simp; done) | (simp; omega))))), by simp, ?_⟩
  have := HA0.out
  rw [Int.ediv_eq_zero_of_lt this.1 (by simpa using this.2)]
  simp
 case round =>
  obtain ⟨k, q, r, hk1, hk2, rfl, hB, a1, a2, hr1, hr2, a3, qh, ql, k1, k2, k3, k4, a4, HR⟩ := hrel
  have z1 := a4.lt
  have f1 := a1.two
  have f2 := a2.two
  have f3 := a3.two
  have f4 := a4.two
  by_cases hk : 0 ≤ k
  ·go_wp2_with fail
   refine (rdouble_any _ _ _ (by omega) (by omega) hr1 (by omega)).mono ?_
   rintro e w1 ⟨rh, rl, l1, l2, l3, l4, hX, rfl, hb⟩
   have HX : Hid (rh * 18446744073709551616 + rl = 2 * r) := by show _ = _; rw [hX]; unfold addQ; omega
   clear hX
   have b1 : At w1 w.heap.size #[.int .u64 ah, .int .u64 al] 59 := At.below (by repeat (first | with_reducible assumption | (with_reducible apply At.new'; (first | with_reducible rfl | (simp; done))) | with_reducible apply At.set2 | with_reducible apply At.alloc | with_reducible apply At.drew | with_reducible apply At.drewN | (with_reducible apply At.set_other; (case hne => first | (simp; done) | (simp; omega))))) hb
   have b2 : At w1 (w.heap.size + 1) #[.int .u64 0, .int .u64 y] 59 := At.below (by repeat (first | with_reducible assumption | (with_reducible apply At.new'; (first | with_reducible rfl | (simp; done))) | with_reducible apply At.set2 | with_reducible apply At.alloc | with_reducible apply At.drew | with_reducible apply At.drewN | (with_reducible apply At.set_other; (case hne => first | (simp; done) | (simp; omega))))) hb
   have b3 : At w1 (w.heap.size + 1 + 1) #[.int .u64 0, .int .u64 r] 59 := At.below (by repeat (first | with_reducible assumption | (with_reducible apply At.new'; (first | with_reducible rfl | (simp; done))) | with_reducible apply At.set2 | with_reducible apply At.alloc | with_reducible apply At.drew | with_reducible apply At.drewN | (with_reducible apply At.set_other; (case hne => first | (simp; done) | (simp; omega))))) hb
   have b4 : At w1 (w.heap.size + 1 + 1 + 1) #[.int .u64 qh, .int .u64 ql] 59 := At.below (by repeat (first | with_reducible assumption | (with_reducible apply At.new'; (first | with_reducible rfl | (simp; done))) | with_reducible apply At.set2 | with_reducible apply At.alloc | with_reducible apply At.drew | with_reducible apply At.drewN | (with_reducible apply At.set_other; (case hne => first | (simp; done) | (simp; omega))))) hb
   have hB1 : Below w.heap.size w w1 := hB.trans (hb.mono hB.size)
   clear hb f1 f2 f3 f4 a1 a2 a3 a4 hB
   have g3 := b3.two
   go_wp2
   refine gen_world (fun W => At W w.heap.size #[.int .u64 ah, .int .u64 al] 59 ∧ At W (w.heap.size + 1) #[.int .u64 0, .int .u64 y] 59 ∧ At W (w.heap.size + 1 + 1) #[.int .u64 rh, .int .u64 rl] 59 ∧
    At W (w.heap.size + 1 + 1 + 1) #[.int .u64 qh, .int .u64 ql] 59 ∧ Below w.heap.size w W)
    ⟨(by repeat (first | with_reducible assumption | (with_reducible apply At.new'; (first | with_reducible rfl | (simp; done))) | with_reducible apply At.set2 | with_reducible apply At.alloc | with_reducible apply At.drew | with_reducible apply At.drewN | (with_reducible apply At.set_other; (case hne => first | (simp; done) | (simp; omega))))), (by repeat (first | with_reducible assumption | (with_reducible apply At.new'; (first | with_reducible rfl | (simp; done))) | with_reducible apply At.set2 | with_reducible apply At.alloc | with_reducible apply At.drew | with_reducible apply At.drewN | (with_reducible apply At.set_other; (case hne => first | (simp; done) | (simp; omega))))), (by repeat (first | with_reducible assumption | (with_reducible apply At.new'; (first | with_reducible rfl | (simp; done))) | with_reducible apply At.set2 | with_reducible apply At.alloc | with_reducible apply At.drew | with_reducible apply At.drewN | (with_reducible apply At.set_other; (case hne => first | (simp; done) | (simp; omega))))), (by repeat (first | with_reducible assumption | (with_reducible apply At.new'; (first | with_reducible rfl | (simp; done))) | with_reducible apply At.set2 | with_reducible apply At.alloc | with_reducible apply At.drew | with_reducible apply At.drewN | (with_reducible apply At.set_other; (case hne => first | (simp; done) | (simp; omega))))), (by repeat (first | with_reducible assumption | with_reducible exact Below.refl _ _ | with_reducible refine Below.drew ?_ | with_reducible refine Below.drewN ?_ _ | with_reducible refine Below.setCell ?_ (by first | omega | (simp; done) | (simp; omega)) _ | with_reducible refine Below.alloc ?_ (by first | omega | (simp; done) | (simp; omega) | (simp [World.setCell]; omega)) _))⟩ ?_
   rintro W ⟨c1, c2, c3, c4, hB⟩
   clear b1 b2 b3 b4 hB1 g3
   have f1 := c1.two
   have f3 := c3.two
   obtain ⟨bt, hbt, HBT⟩ : ∃ bt : Int, (0 ≤ bt ∧ bt ≤ 1) ∧ Hid (bitOf A k = bt) := ⟨_, bitOf_bd A k, rfl⟩
   have hlo : rl + bt < 18446744073709551616 := by have := HX.out; omega
   go_cut [] (fun wc => At wc w.heap.size #[.int .u64 ah, .int .u64 al] 59 ∧ At wc (w.heap.size + 1) #[.int .u64 0, .int .u64 y] 59 ∧ At wc (w.heap.size + 1 + 1) #[.int .u64 rh, .int .u64 (rl + bt)] 59 ∧
    At wc (w.heap.size + 1 + 1 + 1) #[.int .u64 qh, .int .u64 ql] 59 ∧ Below w.heap.size w wc)
   case first =>
    go_region_with ((go_at_call 54; refine (bit_any _ _ _ _ h1 h2 h3 h4 hk hk2).mono ?_; rintro e w2 ⟨rfl, hb⟩; have d1 := At.below c1.drew hb; have d2 := At.below c2.drew hb; have d3 := At.below c3.drew hb; have d4 := At.below c4.drew hb; have hB2 := hB.drew.trans (hb.mono hB.size); have e3 := d3.two; rw [HA.out, HBT.out]))
    all_goals
     go_wp2_with fail
     go_meet
     exact ⟨(by repeat (first | with_reducible assumption | (with_reducible apply At.new'; (first | with_reducible rfl | (simp; done))) | with_reducible apply At.set2 | with_reducible apply At.alloc | with_reducible apply At.drew | with_reducible apply At.drewN | (with_reducible apply At.set_other; (case hne => first | (simp; done) | (simp; omega))))), (by repeat (first | with_reducible assumption | (with_reducible apply At.new'; (first | with_reducible rfl | (simp; done))) | with_reducible apply At.set2 | with_reducible apply At.alloc | with_reducible apply At.drew | with_reducible apply At.drewN | (with_reducible apply At.set_other; (case hne => first | (simp; done) | (simp; omega))))), d3.set_any 1 _ (by rw [DivM.wrap_u64_of (by omega) hlo]; rfl), (by repeat (first | with_reducible assumption | (with_reducible apply At.new'; (first | with_reducible rfl | (simp; done))) | with_reducible apply At.set2 | with_reducible apply At.alloc | with_reducible apply At.drew | with_reducible apply At.drewN | (with_reducible apply At.set_other; (case hne => first | (simp; done) | (simp; omega))))), (by repeat (first | with_reducible assumption | with_reducible exact Below.refl _ _ | with_reducible refine Below.drew ?_ | with_reducible refine Below.drewN ?_ _ | with_reducible refine Below.setCell ?_ (by first | omega | (simp; done) | (simp; omega)) _ | with_reducible refine Below.alloc ?_ (by first | omega | (simp; done) | (simp; omega) | (simp [World.setCell]; omega)) _))⟩
   case rest =>
    obtain ⟨d1, d2, d3, d4, hB2⟩ := hcut
    clear c1 c2 c3 c4 hB f1 f3
    have f4 := d4.two
    obtain ⟨bb, ha0, ha1⟩ : ∃ bb, bb = rl + bt ∧ True := ⟨_, rfl, trivial⟩
    rw [← ha0] at d3 hlo
    have HRB : Hid (rh * 18446744073709551616 + bb = 2 * r + bt) := by have := HX.out; show _ = _; omega
    have hbb : 0 ≤ bb := by omega
    clear ha0 ha1 HX
    go_wp2_with fail
    refine (rdouble_any _ _ _ k1 k2 k3 k4).mono ?_
    rintro e w3 ⟨qh2, ql2, m1, m2, m3, m4, hX, rfl, hb⟩
    have HXQ := Lib.hid hX
    clear hX f4
    have e1 : At w3 w.heap.size #[.int .u64 ah, .int .u64 al] 59 := At.below (by repeat (first | with_reducible assumption | (with_reducible apply At.new'; (first | with_reducible rfl | (simp; done))) | with_reducible apply At.set2 | with_reducible apply At.alloc | with_reducible apply At.drew | with_reducible apply At.drewN | (with_reducible apply At.set_other; (case hne => first | (simp; done) | (simp; omega))))) hb
    have e2 : At w3 (w.heap.size + 1) #[.int .u64 0, .int .u64 y] 59 := At.below (by repeat (first | with_reducible assumption | (with_reducible apply At.new'; (first | with_reducible rfl | (simp; done))) | with_reducible apply At.set2 | with_reducible apply At.alloc | with_reducible apply At.drew | with_reducible apply At.drewN | (with_reducible apply At.set_other; (case hne => first | (simp; done) | (simp; omega))))) hb
    have e3 : At w3 (w.heap.size + 1 + 1) #[.int .u64 rh, .int .u64 bb] 59 := At.below (by repeat (first | with_reducible assumption | (with_reducible apply At.new'; (first | with_reducible rfl | (simp; done))) | with_reducible apply At.set2 | with_reducible apply At.alloc | with_reducible apply At.drew | with_reducible apply At.drewN | (with_reducible apply At.set_other; (case hne => first | (simp; done) | (simp; omega))))) hb
    have e4 : At w3 (w.heap.size + 1 + 1 + 1) #[.int .u64 qh, .int .u64 ql] 59 := At.below (by repeat (first | with_reducible assumption | (with_reducible apply At.new'; (first | with_reducible rfl | (simp; done))) | with_reducible apply At.set2 | with_reducible apply At.alloc | with_reducible apply At.drew | with_reducible apply At.drewN | (with_reducible apply At.set_other; (case hne => first | (simp; done) | (simp; omega))))) hb
    have hB3 : Below w.heap.size w w3 := hB2.trans (hb.mono hB2.size)
    have z3 := hB3.size
    clear hb d1 d2 d3 d4 hB2
    have f2 := e2.two
    have f3 := e3.two
    have f4 := e4.two
    go_wp2_with fail
    refine (rless_any _ _ _ _ _ l1 l2 (by omega) (by omega) (by omega) (by omega) (by omega) (by omega)).mono ?_
    rintro e w4 ⟨rfl, hb⟩
    have a1 : At w4 w.heap.size #[.int .u64 ah, .int .u64 al] 59 := At.below (by repeat (first | with_reducible assumption | (with_reducible apply At.new'; (first | with_reducible rfl | (simp; done))) | with_reducible apply At.set2 | with_reducible apply At.alloc | with_reducible apply At.drew | with_reducible apply At.drewN | (with_reducible apply At.set_other; (case hne => first | (simp; done) | (simp; omega))))) hb
    have a2 : At w4 (w.heap.size + 1) #[.int .u64 0, .int .u64 y] 59 := At.below (by repeat (first | with_reducible assumption | (with_reducible apply At.new'; (first | with_reducible rfl | (simp; done))) | with_reducible apply At.set2 | with_reducible apply At.alloc | with_reducible apply At.drew | with_reducible apply At.drewN | (with_reducible apply At.set_other; (case hne => first | (simp; done) | (simp; omega))))) hb
    have a3 : At w4 (w.heap.size + 1 + 1) #[.int .u64 rh, .int .u64 bb] 59 := At.below (by repeat (first | with_reducible assumption | (with_reducible apply At.new'; (first | with_reducible rfl | (simp; done))) | with_reducible apply At.set2 | with_reducible apply At.alloc | with_reducible apply At.drew | with_reducible apply At.drewN | (with_reducible apply At.set_other; (case hne => first | (simp; done) | (simp; omega))))) hb
    have a4 : At w4 (w.heap.size + 1 + 1 + 1) #[.int .u64 qh2, .int .u64 ql2] 59 := At.below (by repeat (first | with_reducible assumption | (with_reducible apply At.new'; (first | with_reducible rfl | (simp; done))) | with_reducible apply At.set2 | with_reducible apply At.alloc | with_reducible apply At.drew | with_reducible apply At.drewN | (with_reducible apply At.set_other; (case hne => first | (simp; done) | (simp; omega))))) hb
    have hB4 : Below w.heap.size w w4 := Below.trans (by repeat (first | with_reducible assumption | with_reducible exact Below.refl _ _ | with_reducible refine Below.drew ?_ | with_reducible refine Below.drewN ?_ _ | with_reducible refine Below.setCell ?_ (by first | omega | (simp; done) | (simp; omega)) _ | with_reducible refine Below.alloc ?_ (by first | omega | (simp; done) | (simp; omega) | (simp [World.setCell]; omega)) _)) (hb.mono (by first | omega | (simp; done) | (simp; omega) | (simp [World.setCell]; omega)))
    have z4 := hB4.size
    clear hb e1 e2 e3 e4 hB3 f2 f3 f4
    have f2 := a2.two
    have f3 := a3.two
    have f4 := a4.two
    by_cases hge : rh * 18446744073709551616 + bb < 0 * 18446744073709551616 + y
    ·rw [decide_eq_true hge]
     have HGE := Lib.hid hge
     clear hge
     go_wp2
     go_roundw
     case rel =>
      obtain rfl : rh = 0 := by have := HGE.out; omega
      have st := over_step A y q r k bt HA0.out.1 HA0.out.2 hk hy hr1 (by have := HR.out.1; omega) HBT.out HR.out.2
      have h5 := HXQ.out
      have h6 := HR.out.1
      have h7 := HRB.out
      have h8 := HGE.out
      refine ⟨k - 1, 2 * q, bb, by omega, by omega, rfl, hB4, a1, a2, hbb, by omega, a3, qh2, ql2, m1, m2, m3, m4, a4, ?_, ?_⟩
      ·rw [h5, h6]; unfold addQ; omega
      ·rw [show k - 1 + 1 = k by omega]; rcases st with st | st
       ·rw [st.1]; omega
       ·exact st.2.2.elim
     case measure => simp [intOf]; omega
    ·rw [decide_eq_false hge]
     have HGE := Lib.hid hge
     clear hge
     go_wp2_with fail
     refine (rsub_any _ _ _ _ _ l1 l2 (by omega) (by omega) (by omega) (by omega) (by omega) (by omega)).mono ?_
     rintro e w5 ⟨sh, sl, n1, n2, n3, n4, hX, rfl, hb⟩
     have HXS : Hid (sh = 0 ∧ sl = rh * 18446744073709551616 + bb - y) := by
      have h7 := HRB.out
      have h8 := HGE.out
      unfold subQ at hX
      show _ ∧ _
      omega
     obtain rfl : sh = 0 := HXS.out.1
     clear hX
     have b1 : At w5 w.heap.size #[.int .u64 ah, .int .u64 al] 59 := At.below (by repeat (first | with_reducible assumption | (with_reducible apply At.new'; (first | with_reducible rfl | (simp; done))) | with_reducible apply At.set2 | with_reducible apply At.alloc | with_reducible apply At.drew | with_reducible apply At.drewN | (with_reducible apply At.set_other; (case hne => first | (simp; done) | (simp; omega))))) hb
     have b2 : At w5 (w.heap.size + 1) #[.int .u64 0, .int .u64 y] 59 := At.below (by repeat (first | with_reducible assumption | (with_reducible apply At.new'; (first | with_reducible rfl | (simp; done))) | with_reducible apply At.set2 | with_reducible apply At.alloc | with_reducible apply At.drew | with_reducible apply At.drewN | (with_reducible apply At.set_other; (case hne => first | (simp; done) | (simp; omega))))) hb
     have b3 : At w5 (w.heap.size + 1 + 1) #[.int .u64 rh, .int .u64 bb] 59 := At.below (by repeat (first | with_reducible assumption | (with_reducible apply At.new'; (first | with_reducible rfl | (simp; done))) | with_reducible apply At.set2 | with_reducible apply At.alloc | with_reducible apply At.drew | with_reducible apply At.drewN | (with_reducible apply At.set_other; (case hne => first | (simp; done) | (simp; omega))))) hb
     have b4 : At w5 (w.heap.size + 1 + 1 + 1) #[.int .u64 qh2, .int .u64 ql2] 59 := At.below (by repeat (first | with_reducible assumption | (with_reducible apply At.new'; (first | with_reducible rfl | (simp; done))) | with_reducible apply At.set2 | with_reducible apply At.alloc | with_reducible apply At.drew | with_reducible apply At.drewN | (with_reducible apply At.set_other; (case hne => first | (simp; done) | (simp; omega))))) hb
     have hB5 : Below w.heap.size w w5 := Below.trans (by repeat (first | with_reducible assumption | with_reducible exact Below.refl _ _ | with_reducible refine Below.drew ?_ | with_reducible refine Below.drewN ?_ _ | with_reducible refine Below.setCell ?_ (by first | omega | (simp; done) | (simp; omega)) _ | with_reducible refine Below.alloc ?_ (by first | omega | (simp; done) | (simp; omega) | (simp [World.setCell]; omega)) _)) (hb.mono (by first | omega | (simp; done) | (simp; omega) | (simp [World.setCell]; omega)))
     have z5 := hB5.size
     clear hb a1 a2 a3 a4 hB4 f2 f3 f4
     have f3 := b3.two
     have f4 := b4.two
     have hq2 : Hid (qh2 * 18446744073709551616 + ql2 = 2 * q) := by
      have st := over_step A y q r k bt HA0.out.1 HA0.out.2 hk hy hr1 (by have := HR.out.1; omega) HBT.out HR.out.2
      have h5 := HXQ.out
      have h6 := HR.out.1
      show _ = _
      rw [h5, h6]; unfold addQ; omega
     have hql : ql2 + 1 < 18446744073709551616 := by have := hq2.out; omega
     go_wp2
     go_roundw
     case rel =>
      have st := over_step A y q r k bt HA0.out.1 HA0.out.2 hk hy hr1 (by have := HR.out.1; omega) HBT.out HR.out.2
      have h6 := hq2.out
      have h7 := HRB.out
      have h8 := HGE.out
      have h9 := HXS.out.2
      refine ⟨k - 1, 2 * q + 1, sl, by omega, by omega, rfl, (by repeat (first | with_reducible assumption | with_reducible exact Below.refl _ _ | with_reducible refine Below.drew ?_ | with_reducible refine Below.drewN ?_ _ | with_reducible refine Below.setCell ?_ (by first | omega | (simp; done) | (simp; omega)) _ | with_reducible refine Below.alloc ?_ (by first | omega | (simp; done) | (simp; omega) | (simp [World.setCell]; omega)) _)), (by repeat (first | with_reducible assumption | (with_reducible apply At.new'; (first | with_reducible rfl | (simp; done))) | with_reducible apply At.set2 | with_reducible apply At.alloc | with_reducible apply At.drew | with_reducible apply At.drewN | (with_reducible apply At.set_other; (case hne => first | (simp; done) | (simp; omega))))), (by repeat (first | with_reducible assumption | (with_reducible apply At.new'; (first | with_reducible rfl | (simp; done))) | with_reducible apply At.set2 | with_reducible apply At.alloc | with_reducible apply At.drew | with_reducible apply At.drewN | (with_reducible apply At.set_other; (case hne => first | (simp; done) | (simp; omega))))), by omega, by omega, (by repeat (first | with_reducible assumption | (with_reducible apply At.new'; (first | with_reducible rfl | (simp; done))) | with_reducible apply At.set2 | with_reducible apply At.alloc | with_reducible apply At.drew | with_reducible apply At.drewN | (with_reducible apply At.set_other; (case hne => first | (simp; done) | (simp; omega))))), qh2, ql2 + 1, m1, m2, by omega, by omega, (At.set_other (At.set_other b4 (by first | omega | (simp; done) | (simp; omega) | (simp [World.setCell]; omega)) _) (by first | omega | (simp; done) | (simp; omega) | (simp [World.setCell]; omega)) _).set_any 1 _ rfl, by omega, ?_⟩
      rw [show k - 1 + 1 = k by omega, Int.add_mul]; rcases st with st | st
      ·rw [st.1]; omega
      ·exact st.2.2.elim
     case measure => simp [intOf]; omega
  ·obtain rfl : k = -1 := by omega
   have hq0 : 0 ≤ q := by have := HR.out.1; omega
   have HE : Hid (A = q * y + r) := by
    have := HR.out.2
    rw [show ((-1 : Int) + 1).toNat = 0 from rfl] at this
    show A = _
    simpa using this
   have HO := Lib.hid (over_end A y q r hy hr1 hr2 hq0 HE.out)
   by_cases hqh : 0 < qh
   ·have h5 : ¬ q < 18446744073709551616 := by have := HR.out.1; omega
    have HP := Lib.hid (HO.out.2 h5)
    clear h5
    go_wp2
    go_ret3
    rw [HP.out.1, HP.out.2.1, HP.out.2.2]
    exact ⟨rfl, hB⟩
   ·have h5 : q < 18446744073709551616 := by have := HR.out.1; omega
    have HP := Lib.hid (HO.out.1 h5)
    obtain rfl : qh = 0 := by omega
    obtain rfl : ql = q := by have := HR.out.1; omega
    clear h5
    go_wp2
    go_quiet (fail)
    go_wp2
    go_ret3
    rw [HP.out.1, HP.out.2.1, HP.out.2.2]
    exact ⟨rfl, hB.drewN _⟩
theorem rover_any (ah al y : Int) (w : World) (h1 : 0 ≤ ah) (h2 : ah < 18446744073709551616) (h3 : 0 ≤ al) (h4 : al < 18446744073709551616) (hy : 0 ≤ y) (hy' : y < 18446744073709551616) :
  Calls Tryz.prog 40 #[.agg #[.int .u64 ah, .int .u64 al], .int .u64 y] w fun e w' =>
   e = .returned (.tuple #[.int .u64 (overQ (ah * 18446744073709551616 + al) y), .int .u64 (overR (ah * 18446744073709551616 + al) y), .bool (overOk (ah * 18446744073709551616 + al) y)]) ∧ Below w.heap.size w w' := by
 by_cases h : 0 < y
 ·exact rover_loop ah al y w h1 h2 h3 h4 h hy'
 ·obtain rfl : y = 0 := by omega
  have HP := Lib.hid (over_no (ah * 18446744073709551616 + al) 0 (by omega))
  go_enter Tryz.func40, Tryz.ntmps40
  go_wp2
  go_ret3
  rw [HP.out.1, HP.out.2.1, HP.out.2.2]
  exact ⟨rfl, (Below.refl _ _).alloc (Nat.le_refl _) _⟩
theorem rceil_any (a b y : Int) (w : World) (ha : 0 ≤ a) (ha' : a < 18446744073709551616) (hb : 0 ≤ b) (hb' : b < 18446744073709551616) (h3 : 0 ≤ y) (h4 : y < 18446744073709551616) :
  Calls Tryz.prog 29 #[.int .u64 a, .int .u64 b, .int .u64 y] w fun e w' =>
   e = .returned (.tuple #[.int .u64 (ceilQ (a * b) y), .bool (ceilOk (a * b) y)]) ∧ Below w.heap.size w w' := by
 obtain ⟨X, hab⟩ : ∃ X : Int, a * b = X := ⟨_, rfl⟩
 have hX0 : 0 ≤ X := by rw [← hab]; exact Int.mul_nonneg ha hb
 have HAB := Lib.hid hab
 rw [hab]
 clear hab
 go_enter Tryz.func29, Tryz.ntmps29
 go_wp2_with fail
 refine (rtimes_any _ _ _ ha ha' hb hb').mono ?_
 rintro e w1 ⟨hi, lo, k1, k2, k3, k4, hX, rfl, hb1⟩
 have HX := Lib.hid hX
 clear hX
 go_wp2_with fail
 refine (rover_any _ _ _ _ k1 k2 k3 k4 h3 h4).mono ?_
 rintro e w2 ⟨rfl, hb2⟩
 rw [HX.out, HAB.out]
 have HB := hb1.trans (hb2.mono hb1.size)
 clear HX hb1 hb2 k1 k2 k3 k4
 by_cases h : X < y * 18446744073709551616
 ·obtain ⟨e1, e2, e3⟩ := over_yes X y h
  rw [e1, e2, e3]
  clear e1 e2 e3
  have hy : 0 < y := by omega
  have q0 : 0 ≤ X / y := Int.ediv_nonneg hX0 h3
  have q1 : X / y < 18446744073709551616 := Int.ediv_lt_of_lt_mul hy (by rw [Int.mul_comm]; exact h)
  have r0 := Int.emod_nonneg X (show y ≠ 0 by omega)
  by_cases hr : X % y = 0
  ·have HE := Lib.hid (ceil_even X y h3 hX0 h hr)
   clear h
   rw [hr]
   generalize X / y = q at *
   clear hr
   go_wp2
   go_ret2
   rw [HE.out.1, HE.out.2]
   exact ⟨rfl, HB⟩
  ·have HE := Lib.hid (ceil_odd X y h3 hX0 h hr)
   have hr' : 0 < X % y := by omega
   clear h hr
   generalize X / y = q at *
   generalize X % y = r at *
   by_cases hl : q < 18446744073709551615
   ·have hl' : (q == 18446744073709551615) = false := by simp; omega
    go_wp2
    go_ret2
    rw [(HE.out.1 hl).1, (HE.out.1 hl).2]
    exact ⟨rfl, HB⟩
   ·obtain rfl : q = 18446744073709551615 := by omega
    go_wp2
    go_ret2
    rw [(HE.out.2 hl).1, (HE.out.2 hl).2]
    exact ⟨rfl, HB⟩
 ·obtain ⟨e1, e2, e3⟩ := over_no X y h
  rw [e1, e2, e3]
  have HE := Lib.hid (ceil_no X y h3 hX0 h)
  clear e1 e2 e3 h
  go_wp2
  go_ret2
  rw [HE.out.1, HE.out.2]
  exact ⟨rfl, HB⟩
end Go.Proofs.YtlbnlmhcpephbaaGreatDoor
