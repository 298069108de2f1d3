/- The walk of the statement WideFractions. -/
import Derived.Test.YthbkgahflmgmnaaProg
import Derived.Test.YthbkgahflmgmnaaOpen
import Derived.Test.YthbkgahflmgmnaaLess
import Derived.Test.YthbkgahflmgmnaaFewer
import Derived.Test.YthbkgahflmgmnaaAlive01
namespace Go.Proofs.Ythbkgahflmgmnaa
open Go.RowKit

theorem lessF_irrefl (an ad : Int) : lessF an ad an ad = false := by
  unfold lessF; split
  · rfl
  · simp
theorem lessF_asymm {an ad bn bd : Int} (h3 : 0 ≤ ad) (h7 : 0 ≤ bd) (h : lessF an ad bn bd = true) : lessF bn bd an ad = false := by
  unfold lessF at *
  by_cases ha : ad = 0
  · rw [if_pos ha] at h; cases h
  · by_cases hb : bd = 0
    · rw [if_pos hb]
    · rw [if_neg ha, if_neg hb] at h
      rw [if_neg hb, if_neg ha]
      simp at h ⊢
      omega
theorem lessF_trans {an ad bn bd cn cd : Int} (h3 : 0 ≤ ad) (h7 : 0 ≤ bd) (h9 : 0 ≤ cd) (h : lessF an ad bn bd = true) (h' : lessF bn bd cn cd = true) : lessF an ad cn cd = true := by
  unfold lessF at *
  by_cases ha : ad = 0
  · rw [if_pos ha] at h; cases h
  · by_cases hb : bd = 0
    · rw [if_pos hb] at h'; cases h'
    · rw [if_neg ha, if_neg hb] at h
      rw [if_neg hb] at h'
      rw [if_neg ha]
      by_cases hc : cd = 0
      · rw [if_pos hc]
      · rw [if_neg hc] at h' ⊢
        simp at h h' ⊢
        have e1 : an * bd * cd < bn * ad * cd := Int.mul_lt_mul_of_pos_right h (by omega)
        have e2 : bn * cd * ad < cn * bd * ad := Int.mul_lt_mul_of_pos_right h' (by omega)
        have e3 : bn * ad * cd = bn * cd * ad := Int.mul_right_comm _ _ _
        have e4 : an * cd * bd < cn * ad * bd := by
          rw [Int.mul_right_comm an cd bd, Int.mul_right_comm cn ad bd]; omega
        exact Int.lt_of_mul_lt_mul_right e4 (by omega)

set_option maxHeartbeats 2000000 in
theorem wideFractions_walk (w : World) (a0 a1 : Int) (bda0 : 0 ≤ a0 ∧ a0 < 18446744073709551616) (bda1 : 0 ≤ a1 ∧ a1 < 18446744073709551616) (b0 b1 : Int) (bdb0 : 0 ≤ b0 ∧ b0 < 18446744073709551616) (bdb1 : 0 ≤ b1 ∧ b1 < 18446744073709551616) (c0 c1 : Int) (bdc0 : 0 ≤ c0 ∧ c0 < 18446744073709551616) (bdc1 : 0 ≤ c1 ∧ c1 < 18446744073709551616) :
    Calls Try.prog 6 #[.agg #[.int .u64 a0, .int .u64 a1], .agg #[.int .u64 b0, .int .u64 b1], .agg #[.int .u64 c0, .int .u64 c1]] w fun e w' => e = .returned (.bool true) ∧ Below w.heap.size w w' := by
  obtain ⟨p1, p2⟩ := bda0
  obtain ⟨p3, p4⟩ := bda1
  obtain ⟨q1, q2⟩ := bdb0
  obtain ⟨q3, q4⟩ := bdb1
  obtain ⟨r1, r2⟩ := bdc0
  obtain ⟨r3, r4⟩ := bdc1
  have haa := lessF_irrefl a0 a1
  go_enter Try.func6, Try.ntmps6
  go_wp2_with fail
  refine (alive_any _).mono ?_
  rintro e w1 ⟨rfl, hb⟩
  have s1 : At w1 w.heap.size #[.int .u64 a0, .int .u64 a1] 42 := At.below (by repeat (first | with_reducible assumption | with_reducible (refine At.new' _ _ _ ?_; first | rfl | (simp; done)) | with_reducible apply At.set2 | with_reducible refine At.alloc ?_ _ | with_reducible refine At.drew ?_ | with_reducible refine At.set_other ?_ (by first | (simp; done) | (simp; omega)) _)) hb
  have s2 : At w1 (w.heap.size + 1) #[.int .u64 b0, .int .u64 b1] 42 := At.below (by repeat (first | with_reducible assumption | with_reducible (refine At.new' _ _ _ ?_; first | rfl | (simp; done)) | with_reducible apply At.set2 | with_reducible refine At.alloc ?_ _ | with_reducible refine At.drew ?_ | with_reducible refine At.set_other ?_ (by first | (simp; done) | (simp; omega)) _)) hb
  have s3 : At w1 (w.heap.size + 1 + 1) #[.int .u64 c0, .int .u64 c1] 42 := At.below (by repeat (first | with_reducible assumption | with_reducible (refine At.new' _ _ _ ?_; first | rfl | (simp; done)) | with_reducible apply At.set2 | with_reducible refine At.alloc ?_ _ | with_reducible refine At.drew ?_ | with_reducible refine At.set_other ?_ (by first | (simp; done) | (simp; omega)) _)) hb
  have hB : Below w.heap.size w w1 := Below.trans (by repeat (first | with_reducible assumption | with_reducible exact Below.refl _ _ | with_reducible refine Below.drew ?_ | with_reducible refine Below.setCell ?_ (by first | omega | (simp; done) | (simp; omega)) _ | with_reducible refine Below.alloc ?_ (by first | omega | (simp; done) | (simp; omega) | (simp [World.setCell]; omega)) _)) (hb.mono (by first | omega | (simp; done) | (simp; omega) | (simp [World.setCell]; omega)))
  have f1 := s1.two
  have f2 := s2.two
  have f3 := s3.two
  clear hb
  cases hab : lessF a0 a1 b0 b1
  · go_wp2_with (first | (go_at_call 18; refine (less_any _ _ _ _ _ (by assumption) (by assumption) (by assumption) (by assumption) (by assumption) (by assumption) (by assumption) (by assumption)).mono ?_; rintro e wn ⟨rfl, hb⟩; replace s1 := s1.below hb; replace s2 := s2.below hb; replace s3 := s3.below hb; replace hB := hB.trans (hb.mono hB.size); replace f1 := s1.two; replace f2 := s2.two; replace f3 := s3.two; clear hb) | (go_at_call 19; refine (fewer_any _ _ _ _ _ (by assumption) (by assumption) (by assumption) (by assumption) (by assumption) (by assumption) (by assumption) (by assumption)).mono ?_; rintro e wn ⟨rfl, hb⟩; replace s1 := s1.below hb; replace s2 := s2.below hb; replace s3 := s3.below hb; replace hB := hB.trans (hb.mono hB.size); replace f1 := s1.two; replace f2 := s2.two; replace f3 := s3.two; clear hb))
    refine gen_world (fun W => At W w.heap.size #[.int .u64 a0, .int .u64 a1] 42 ∧ At W (w.heap.size + 1) #[.int .u64 b0, .int .u64 b1] 42 ∧ Below w.heap.size w W) ⟨s1, s2, hB⟩ ?_
    clear s1 s2 s3 hB f1 f2 f3
    rintro W0 ⟨s1, s2, hB⟩
    have MK : Hid (∀ w', Below W0.heap.size W0 w' → w'.cell? ⟨w.heap.size, 0, none⟩ = some (.int .u64 a0) ∧ w'.cell? ⟨w.heap.size, 1, none⟩ = some (.int .u64 a1) ∧ w'.cell? ⟨w.heap.size + 1, 0, none⟩ = some (.int .u64 b0) ∧ w'.cell? ⟨w.heap.size + 1, 1, none⟩ = some (.int .u64 b1) ∧ Below W0.heap.size W0 w') :=
      fun w' h => ⟨(s1.below h).two.1, (s1.below h).two.2.1, (s2.below h).two.1, (s2.below h).two.2.1, h⟩
    go_region_held3 (fun w' => w'.cell? ⟨w.heap.size, 0, none⟩ = some (.int .u64 a0) ∧ w'.cell? ⟨w.heap.size, 1, none⟩ = some (.int .u64 a1) ∧ w'.cell? ⟨w.heap.size + 1, 0, none⟩ = some (.int .u64 b0) ∧ w'.cell? ⟨w.heap.size + 1, 1, none⟩ = some (.int .u64 b1) ∧ Below W0.heap.size W0 w')
      (((try go_split_ands); first | exact MK.out _ (Below.drew (Below.refl _ _)) | (refine MK.out _ (keep1 ?_ hb3); assumption) | (refine MK.out _ (keep1 ?_ hb2); assumption) | (refine MK.out _ (keep1 ?_ hb1); assumption)))
      (first | (go_at_call_of 18 b0; refine (less_any a0 a1 b0 b1 _ (by assumption) (by assumption) (by assumption) (by assumption) (by assumption) (by assumption) (by assumption) (by assumption)).mono ?_; rintro e w' ⟨rfl, hb1⟩) | (go_at_call 18; refine (less_any a0 a1 a0 a1 _ (by assumption) (by assumption) (by assumption) (by assumption) (by assumption) (by assumption) (by assumption) (by assumption)).mono ?_; rintro e w' ⟨rfl, hb2⟩) | (go_at_call 19; refine (fewer_any _ _ _ _ _ (by assumption) (by assumption) (by assumption) (by assumption) (by assumption) (by assumption) (by assumption) (by assumption)).mono ?_; rintro e w' ⟨rfl, hb3⟩))
    all_goals
      go_wp2
      go_ret
      go_split_ands
      refine ⟨by simp, hB.trans (Below.mono (B := W0.heap.size) ?_ hB.size)⟩
      assumption
  · have hba := lessF_asymm p3 q3 hab
    cases hbc : lessF b0 b1 c0 c1
    · go_wp2_with (first | (go_at_call 18; refine (less_any _ _ _ _ _ (by assumption) (by assumption) (by assumption) (by assumption) (by assumption) (by assumption) (by assumption) (by assumption)).mono ?_; rintro e wn ⟨rfl, hb⟩; replace s1 := s1.below hb; replace s2 := s2.below hb; replace s3 := s3.below hb; replace hB := hB.trans (hb.mono hB.size); replace f1 := s1.two; replace f2 := s2.two; replace f3 := s3.two; clear hb) | (go_at_call 19; refine (fewer_any _ _ _ _ _ (by assumption) (by assumption) (by assumption) (by assumption) (by assumption) (by assumption) (by assumption) (by assumption)).mono ?_; rintro e wn ⟨rfl, hb⟩; replace s1 := s1.below hb; replace s2 := s2.below hb; replace s3 := s3.below hb; replace hB := hB.trans (hb.mono hB.size); replace f1 := s1.two; replace f2 := s2.two; replace f3 := s3.two; clear hb))
      refine gen_world (fun W => At W w.heap.size #[.int .u64 a0, .int .u64 a1] 42 ∧ At W (w.heap.size + 1) #[.int .u64 b0, .int .u64 b1] 42 ∧ Below w.heap.size w W) ⟨s1, s2, hB⟩ ?_
      clear s1 s2 s3 hB f1 f2 f3
      rintro W0 ⟨s1, s2, hB⟩
      have MK : Hid (∀ w', Below W0.heap.size W0 w' → w'.cell? ⟨w.heap.size, 0, none⟩ = some (.int .u64 a0) ∧ w'.cell? ⟨w.heap.size, 1, none⟩ = some (.int .u64 a1) ∧ w'.cell? ⟨w.heap.size + 1, 0, none⟩ = some (.int .u64 b0) ∧ w'.cell? ⟨w.heap.size + 1, 1, none⟩ = some (.int .u64 b1) ∧ Below W0.heap.size W0 w') :=
        fun w' h => ⟨(s1.below h).two.1, (s1.below h).two.2.1, (s2.below h).two.1, (s2.below h).two.2.1, h⟩
      go_region_held3 (fun w' => w'.cell? ⟨w.heap.size, 0, none⟩ = some (.int .u64 a0) ∧ w'.cell? ⟨w.heap.size, 1, none⟩ = some (.int .u64 a1) ∧ w'.cell? ⟨w.heap.size + 1, 0, none⟩ = some (.int .u64 b0) ∧ w'.cell? ⟨w.heap.size + 1, 1, none⟩ = some (.int .u64 b1) ∧ Below W0.heap.size W0 w')
        (((try go_split_ands); first | exact MK.out _ (Below.drew (Below.refl _ _)) | (refine MK.out _ (keep1 ?_ hb3); assumption) | (refine MK.out _ (keep1 ?_ hb2); assumption) | (refine MK.out _ (keep1 ?_ hb1); assumption)))
        (first | (go_at_call_of 18 b0; refine (less_any a0 a1 b0 b1 _ (by assumption) (by assumption) (by assumption) (by assumption) (by assumption) (by assumption) (by assumption) (by assumption)).mono ?_; rintro e w' ⟨rfl, hb1⟩) | (go_at_call 18; refine (less_any a0 a1 a0 a1 _ (by assumption) (by assumption) (by assumption) (by assumption) (by assumption) (by assumption) (by assumption) (by assumption)).mono ?_; rintro e w' ⟨rfl, hb2⟩) | (go_at_call 19; refine (fewer_any _ _ _ _ _ (by assumption) (by assumption) (by assumption) (by assumption) (by assumption) (by assumption) (by assumption) (by assumption)).mono ?_; rintro e w' ⟨rfl, hb3⟩))
      all_goals
        go_wp2
        go_ret
        go_split_ands
        refine ⟨by simp, hB.trans (Below.mono (B := W0.heap.size) ?_ hB.size)⟩
        assumption
    · have hac := lessF_trans p3 q3 r3 hab hbc
      go_wp2_with (first | (go_at_call 18; refine (less_any _ _ _ _ _ (by assumption) (by assumption) (by assumption) (by assumption) (by assumption) (by assumption) (by assumption) (by assumption)).mono ?_; rintro e wn ⟨rfl, hb⟩; replace s1 := s1.below hb; replace s2 := s2.below hb; replace s3 := s3.below hb; replace hB := hB.trans (hb.mono hB.size); replace f1 := s1.two; replace f2 := s2.two; replace f3 := s3.two; clear hb) | (go_at_call 19; refine (fewer_any _ _ _ _ _ (by assumption) (by assumption) (by assumption) (by assumption) (by assumption) (by assumption) (by assumption) (by assumption)).mono ?_; rintro e wn ⟨rfl, hb⟩; replace s1 := s1.below hb; replace s2 := s2.below hb; replace s3 := s3.below hb; replace hB := hB.trans (hb.mono hB.size); replace f1 := s1.two; replace f2 := s2.two; replace f3 := s3.two; clear hb))
      refine gen_world (fun W => At W w.heap.size #[.int .u64 a0, .int .u64 a1] 42 ∧ At W (w.heap.size + 1) #[.int .u64 b0, .int .u64 b1] 42 ∧ Below w.heap.size w W) ⟨s1, s2, hB⟩ ?_
      clear s1 s2 s3 hB f1 f2 f3
      rintro W0 ⟨s1, s2, hB⟩
      have MK : Hid (∀ w', Below W0.heap.size W0 w' → w'.cell? ⟨w.heap.size, 0, none⟩ = some (.int .u64 a0) ∧ w'.cell? ⟨w.heap.size, 1, none⟩ = some (.int .u64 a1) ∧ w'.cell? ⟨w.heap.size + 1, 0, none⟩ = some (.int .u64 b0) ∧ w'.cell? ⟨w.heap.size + 1, 1, none⟩ = some (.int .u64 b1) ∧ Below W0.heap.size W0 w') :=
        fun w' h => ⟨(s1.below h).two.1, (s1.below h).two.2.1, (s2.below h).two.1, (s2.below h).two.2.1, h⟩
      go_region_held3 (fun w' => w'.cell? ⟨w.heap.size, 0, none⟩ = some (.int .u64 a0) ∧ w'.cell? ⟨w.heap.size, 1, none⟩ = some (.int .u64 a1) ∧ w'.cell? ⟨w.heap.size + 1, 0, none⟩ = some (.int .u64 b0) ∧ w'.cell? ⟨w.heap.size + 1, 1, none⟩ = some (.int .u64 b1) ∧ Below W0.heap.size W0 w')
        (((try go_split_ands); first | exact MK.out _ (Below.drew (Below.refl _ _)) | (refine MK.out _ (keep1 ?_ hb3); assumption) | (refine MK.out _ (keep1 ?_ hb2); assumption) | (refine MK.out _ (keep1 ?_ hb1); assumption)))
        (first | (go_at_call_of 18 b0; refine (less_any a0 a1 b0 b1 _ (by assumption) (by assumption) (by assumption) (by assumption) (by assumption) (by assumption) (by assumption) (by assumption)).mono ?_; rintro e w' ⟨rfl, hb1⟩) | (go_at_call 18; refine (less_any a0 a1 a0 a1 _ (by assumption) (by assumption) (by assumption) (by assumption) (by assumption) (by assumption) (by assumption) (by assumption)).mono ?_; rintro e w' ⟨rfl, hb2⟩) | (go_at_call 19; refine (fewer_any _ _ _ _ _ (by assumption) (by assumption) (by assumption) (by assumption) (by assumption) (by assumption) (by assumption) (by assumption)).mono ?_; rintro e w' ⟨rfl, hb3⟩))
      all_goals
        go_wp2
        go_ret
        go_split_ands
        refine ⟨by simp, hB.trans (Below.mono (B := W0.heap.size) ?_ hB.size)⟩
        assumption
end Go.Proofs.Ythbkgahflmgmnaa

