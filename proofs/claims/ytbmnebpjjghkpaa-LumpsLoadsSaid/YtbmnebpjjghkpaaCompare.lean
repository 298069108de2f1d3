/- Contract of package wide's Compare. -/
import Derived.Test.YtbmnebpjjghkpaaProg
import Derived.Test.YtbmnebpjjghkpaaBase
namespace Go.Proofs.Ytbmnebpjjghkpaa
open Go.RowKit

theorem cmpI_gt {x y : Int} (h : y < x) : cmpI x y = 1 := by unfold cmpI; rw [if_neg (by omega), if_neg (by omega)]
theorem cmpI_lt {x y : Int} (h : x < y) : cmpI x y = -1 := by unfold cmpI; rw [if_pos h]
theorem cmpI_eq {x y : Int} (h : x = y) : cmpI x y = 0 := by unfold cmpI; rw [if_neg (by omega), if_pos h]

theorem cmpI_neg (x y : Int) : (cmpI x y < 0) ↔ x < y := by
  unfold cmpI; split
  · omega
  · split <;> omega
theorem cmpI_zero (x y : Int) : (cmpI x y = 0) ↔ x = y := by
  unfold cmpI; split
  · omega
  · split <;> omega
theorem cmpI_le (x y : Int) : (cmpI x y ≤ 0) ↔ x ≤ y := by
  unfold cmpI; split
  · omega
  · split <;> omega
theorem cmpI_swap (x y : Int) : cmpI x y = -cmpI y x := by
  unfold cmpI; split <;> split <;> (try split) <;> omega
theorem cmpI_bd (x y : Int) : -1 ≤ cmpI x y ∧ cmpI x y ≤ 1 := by
  unfold cmpI; split <;> (try split) <;> omega

theorem compare_any (ah al bh bl : Int) (w : World) (h1 : 0 ≤ ah) (h2 : ah < 18446744073709551616) (h3 : 0 ≤ al) (h4 : al < 18446744073709551616) (h5 : 0 ≤ bh) (h6 : bh < 18446744073709551616)
   (h7 : 0 ≤ bl) (h8 : bl < 18446744073709551616) :
    Calls Try.prog 56 #[.agg #[.int .u64 ah, .int .u64 al], .agg #[.int .u64 bh, .int .u64 bl]] w fun e w' =>
      e = .returned (.int .i64 (cmpI (ah * 18446744073709551616 + al) (bh * 18446744073709551616 + bl))) ∧ Below w.heap.size w w' := by
  have k1 : ah = bh → al = bl → cmpI (ah * 18446744073709551616 + al) (bh * 18446744073709551616 + bl) = 0 := fun _ _ => cmpI_eq (by omega)
  have k2 : (ah < bh ∨ (ah = bh ∧ al < bl)) → cmpI (ah * 18446744073709551616 + al) (bh * 18446744073709551616 + bl) = -1 := fun _ => cmpI_lt (by omega)
  have k3 : (bh < ah ∨ (ah = bh ∧ bl < al)) → cmpI (ah * 18446744073709551616 + al) (bh * 18446744073709551616 + bl) = 1 := fun _ => cmpI_gt (by omega)
  generalize cmpI (ah * 18446744073709551616 + al) (bh * 18446744073709551616 + bl) = c at *
  have K1 := Lib.hid k1
  have K2 := Lib.hid k2
  have K3 := Lib.hid k3
  clear k1 k2 k3
  have hB : ∀ (c : Array Value) (t : TypeId) (c' : Array Value) (t' : TypeId), Below w.heap.size w ((w.alloc (.cells c t)).alloc (.cells c' t')) := fun c t c' t' => ((Below.refl _ _).alloc (Nat.le_refl _) _).alloc (by simp) _
  rcases Int.lt_trichotomy ah bh with h | h | h
  · rw [K2.out (Or.inl h)]
    go_enter Try.func56, Try.ntmps56
    go_wp2
    all_goals first | omega | (go_ret; exact ⟨rfl, hB _ _ _ _⟩)
  · subst h
    rcases Int.lt_trichotomy al bl with h | h | h
    · rw [K2.out (Or.inr ⟨rfl, h⟩)]
      go_enter Try.func56, Try.ntmps56
      go_wp2
      all_goals first | omega | (go_ret; exact ⟨rfl, hB _ _ _ _⟩)
    · subst h
      rw [K1.out rfl rfl]
      go_enter Try.func56, Try.ntmps56
      go_wp2
      all_goals first | omega | (go_ret; exact ⟨rfl, hB _ _ _ _⟩)
    · rw [K3.out (Or.inr ⟨rfl, h⟩)]
      go_enter Try.func56, Try.ntmps56
      go_wp2
      all_goals first | omega | (go_ret; exact ⟨rfl, hB _ _ _ _⟩)
  · rw [K3.out (Or.inl h)]
    go_enter Try.func56, Try.ntmps56
    go_wp2
    all_goals first | omega | (go_ret; exact ⟨rfl, hB _ _ _ _⟩)

end Go.Proofs.Ytbmnebpjjghkpaa

