/- Contracts of the document's answer for layer 1: sums and differences of wide numbers. -/
import Derived.Test.YtbmnebpjjghkpaaProg
import Derived.Test.YtbmnebpjjghkpaaBase
import Derived.Test.YtbmnebpjjghkpaaOver
namespace Go.Proofs.Ytbmnebpjjghkpaa
open Go.RowKit

theorem rless_any (ah al bh bl : Int) (w : World) (h1 : 0 ≤ ah) (h2 : ah < 18446744073709551616) (h3 : 0 ≤ al) (h4 : al < 18446744073709551616) (h5 : 0 ≤ bh) (h6 : bh < 18446744073709551616)
   (h7 : 0 ≤ bl) (h8 : bl < 18446744073709551616) :
    Calls Try.prog 58 #[.agg #[.int .u64 ah, .int .u64 al], .agg #[.int .u64 bh, .int .u64 bl]] w fun e w' =>
      e = .returned (.bool (decide (ah * 18446744073709551616 + al < bh * 18446744073709551616 + bl))) ∧ Below w.heap.size w w' := by
  by_cases h : ah = bh
  · subst h
    rw [show decide (ah * 18446744073709551616 + al < ah * 18446744073709551616 + bl) = decide (al < bl) by congr 1; apply propext; omega]
    go_enter Try.func58, Try.ntmps58
    go_wp2
    go_ret
    exact ⟨rfl, ((Below.refl _ _).alloc (Nat.le_refl _) _).alloc (by simp) _⟩
  · rw [show decide (ah * 18446744073709551616 + al < bh * 18446744073709551616 + bl) = decide (ah < bh) by congr 1; apply propext; omega]
    have hb : (ah != bh) = true := by simpa using h
    go_enter Try.func58, Try.ntmps58
    go_wp2
    go_ret
    exact ⟨rfl, ((Below.refl _ _).alloc (Nat.le_refl _) _).alloc (by simp) _⟩

def addQ (X : Int) : Int := X % 340282366920938463463374607431768211456
def addO (X : Int) : Bool := decide (340282366920938463463374607431768211456 ≤ X)

set_option maxHeartbeats 1000000 in
theorem radd_any (ah al bh bl : Int) (w : World) (h1 : 0 ≤ ah) (h2 : ah < 18446744073709551616) (h3 : 0 ≤ al) (h4 : al < 18446744073709551616) (h5 : 0 ≤ bh) (h6 : bh < 18446744073709551616)
   (h7 : 0 ≤ bl) (h8 : bl < 18446744073709551616) :
    Calls Try.prog 64 #[.agg #[.int .u64 ah, .int .u64 al], .agg #[.int .u64 bh, .int .u64 bl]] w
      (RetWB w (addQ (ah * 18446744073709551616 + al + (bh * 18446744073709551616 + bl))) (addO (ah * 18446744073709551616 + al + (bh * 18446744073709551616 + bl)))) := by
  obtain ⟨lo, hlo, lo1, lo2, HL⟩ : ∃ lo : Int, IntKind.u64.wrap (al + bl) = lo ∧ 0 ≤ lo ∧ lo < 18446744073709551616 ∧ Hid (al + bl = lo ∨ al + bl = lo + 18446744073709551616) := ⟨_, rfl, by rw [IntKind.wrap_u64]; omega, by rw [IntKind.wrap_u64]; omega, by rw [IntKind.wrap_u64]; show _ ∨ _; omega⟩
  obtain ⟨hi, hhi, hi1, hi2, HH⟩ : ∃ lo : Int, IntKind.u64.wrap (ah + bh) = lo ∧ 0 ≤ lo ∧ lo < 18446744073709551616 ∧ Hid (ah + bh = lo ∨ ah + bh = lo + 18446744073709551616) := ⟨_, rfl, by rw [IntKind.wrap_u64]; omega, by rw [IntKind.wrap_u64]; omega, by rw [IntKind.wrap_u64]; show _ ∨ _; omega⟩
  obtain ⟨h', hh', hi1', hi2', HH'⟩ : ∃ lo : Int, IntKind.u64.wrap (hi + 1) = lo ∧ 0 ≤ lo ∧ lo < 18446744073709551616 ∧ Hid (hi + 1 = lo ∨ hi + 1 = lo + 18446744073709551616) := ⟨_, rfl, by rw [IntKind.wrap_u64]; omega, by rw [IntKind.wrap_u64]; omega, by rw [IntKind.wrap_u64]; show _ ∨ _; omega⟩
  obtain ⟨q, hq⟩ : ∃ q, addQ (ah * 18446744073709551616 + al + (bh * 18446744073709551616 + bl)) = q := ⟨_, rfl⟩
  obtain ⟨o, ho⟩ : ∃ q, addO (ah * 18446744073709551616 + al + (bh * 18446744073709551616 + bl)) = q := ⟨_, rfl⟩
  have HX : Hid (∀ x y : Int, 0 ≤ x → x < 18446744073709551616 → 0 ≤ y → y < 18446744073709551616 → ∀ b : Bool,
      (if b then ah * 18446744073709551616 + al + (bh * 18446744073709551616 + bl) = x * 18446744073709551616 + y + 340282366920938463463374607431768211456 else ah * 18446744073709551616 + al + (bh * 18446744073709551616 + bl) = x * 18446744073709551616 + y) →
      x * 18446744073709551616 + y = q ∧ b = o) := by
    rw [← hq, ← ho]
    intro x y hx hx2 hy hy2 b hb
    cases b
    · simp only [Bool.false_eq_true, if_false] at hb
      unfold addQ addO
      rw [hb]
      exact ⟨by omega, by rw [eq_comm, decide_eq_false_iff_not]; omega⟩
    · simp only [if_true] at hb
      unfold addQ addO
      rw [hb]
      exact ⟨by omega, by rw [eq_comm, decide_eq_true_iff]; omega⟩
  rw [hq, ho]
  clear hq ho
  by_cases c1 : lo < al
  · by_cases c2 : hi < ah
    · go_enter Try.func64, Try.ntmps64
      go_wp2
      refine bodyPost_ret (by simp [results, Try.results64, go_sem]; rfl) rfl ?_
      have hc := HX.out h' lo (by omega) (by omega) (by omega) (by omega) true (by have := HL.out; have := HH.out; have := HH'.out; simp only [if_true]; omega)
      exact ⟨h', lo, by omega, by omega, by omega, by omega, hc.1, by rw [← hc.2], (((Below.refl _ _).alloc (Nat.le_refl _) _).alloc (by simp) _).alloc (by simp; omega) _⟩
    · by_cases c3 : h' = 0
      · subst c3
        go_enter Try.func64, Try.ntmps64
        go_wp2
        refine bodyPost_ret (by simp [results, Try.results64, go_sem]; rfl) rfl ?_
        have hc := HX.out 0 lo (by omega) (by omega) (by omega) (by omega) true (by have := HL.out; have := HH.out; have := HH'.out; simp only [if_true]; omega)
        exact ⟨0, lo, by omega, by omega, by omega, by omega, hc.1, by rw [← hc.2], (((Below.refl _ _).alloc (Nat.le_refl _) _).alloc (by simp) _).alloc (by simp; omega) _⟩
      · have c3' : (h' == 0) = false := by simpa using c3
        go_enter Try.func64, Try.ntmps64
        go_wp2
        refine bodyPost_ret (by simp [results, Try.results64, go_sem]; rfl) rfl ?_
        have hc := HX.out h' lo (by omega) (by omega) (by omega) (by omega) false (by have := HL.out; have := HH.out; have := HH'.out; simp only [Bool.false_eq_true, if_false]; omega)
        exact ⟨h', lo, by omega, by omega, by omega, by omega, hc.1, by rw [← hc.2], (((Below.refl _ _).alloc (Nat.le_refl _) _).alloc (by simp) _).alloc (by simp; omega) _⟩
  · by_cases c2 : hi < ah
    · go_enter Try.func64, Try.ntmps64
      go_wp2
      refine bodyPost_ret (by simp [results, Try.results64, go_sem]; rfl) rfl ?_
      have hc := HX.out hi lo (by omega) (by omega) (by omega) (by omega) true (by have := HL.out; have := HH.out; simp only [if_true]; omega)
      exact ⟨hi, lo, by omega, by omega, by omega, by omega, hc.1, by rw [← hc.2], (((Below.refl _ _).alloc (Nat.le_refl _) _).alloc (by simp) _).alloc (by simp; omega) _⟩
    · go_enter Try.func64, Try.ntmps64
      go_wp2
      refine bodyPost_ret (by simp [results, Try.results64, go_sem]; rfl) rfl ?_
      have hc := HX.out hi lo (by omega) (by omega) (by omega) (by omega) false (by have := HL.out; have := HH.out; simp only [Bool.false_eq_true, if_false]; omega)
      exact ⟨hi, lo, by omega, by omega, by omega, by omega, hc.1, by rw [← hc.2], (((Below.refl _ _).alloc (Nat.le_refl _) _).alloc (by simp) _).alloc (by simp; omega) _⟩
end Go.Proofs.Ytbmnebpjjghkpaa

