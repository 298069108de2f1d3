/- Contracts of package wide's functions that multiply. -/
import Derived.Test.YtbmnebpjjghkpaaProg
import Derived.Test.YtbmnebpjjghkpaaShelf
import Derived.Test.YtbmnebpjjghkpaaBase
namespace Go.Proofs.Ytbmnebpjjghkpaa
open Go.RowKit

theorem times_any (a b : Int) (w : World) (ha : 0 ≤ a) (ha' : a < 18446744073709551616) (hb : 0 ≤ b) (hb' : b < 18446744073709551616) :
    Calls Try.prog 57 #[.int .u64 a, .int .u64 b] w (RetW w (a * b)) := by
  obtain ⟨a, rfl⟩ := Int.eq_ofNat_of_zero_le ha
  obtain ⟨b, rfl⟩ := Int.eq_ofNat_of_zero_le hb
  go_enter Try.func57, Try.ntmps57
  go_wp2_with fail
  refine (Try.bits_Mul64 a b (by omega) (by omega) _).mono ?_
  rintro e w' ⟨rfl, rfl⟩
  go_wp2
  refine bodyPost_ret (by simp [results, Try.results57, go_sem]; rfl) rfl ?_
  have hle : a * b < 18446744073709551616 * 18446744073709551616 := Nat.mul_lt_mul'' (by omega) (by omega)
  have hc : ((a * b : Nat) : Int) = (a : Int) * b := by simp
  refine ⟨((a * b / 18446744073709551616 : Nat) : Int), ((a * b % 18446744073709551616 : Nat) : Int), by omega, by omega, by omega, by omega, by omega, by simp, (Below.refl _ _).alloc (Nat.le_refl _) _⟩

end Go.Proofs.Ytbmnebpjjghkpaa

