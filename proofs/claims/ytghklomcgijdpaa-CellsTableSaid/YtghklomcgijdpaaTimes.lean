/- Contracts of package wide's functions that multiply. -/
import Derived.Test.YtghklomcgijdpaaProg
import Derived.Test.YtghklomcgijdpaaShelf
import Derived.Test.YtghklomcgijdpaaBase
namespace Go.Proofs.Ytghklomcgijdpaa
open Go.RowKit

theorem times_any (a b : Int) (w : World) (ha : 0 ≤ a) (ha' : a < 18446744073709551616) (hb : 0 ≤ b) (hb' : b < 18446744073709551616) :
    Calls Try.prog 32 #[.int .u64 a, .int .u64 b] w (RetW w (a * b)) := by
  obtain ⟨a, rfl⟩ := Int.eq_ofNat_of_zero_le ha
  obtain ⟨b, rfl⟩ := Int.eq_ofNat_of_zero_le hb
  go_enter Try.func32, Try.ntmps32
  go_wp2_with fail
  refine (Try.bits_Mul64 a b (by omega) (by omega) _).mono ?_
  rintro e w' ⟨rfl, rfl⟩
  go_wp2
  refine bodyPost_ret (by simp [results, Try.results32, go_sem]; rfl) rfl ?_
  have hle : a * b < 18446744073709551616 * 18446744073709551616 := Nat.mul_lt_mul'' (by omega) (by omega)
  have hc : ((a * b : Nat) : Int) = (a : Int) * b := by simp
  refine ⟨((a * b / 18446744073709551616 : Nat) : Int), ((a * b % 18446744073709551616 : Nat) : Int), by omega, by omega, by omega, by omega, by omega, by simp, (Below.refl _ _).alloc (Nat.le_refl _) _⟩

end Go.Proofs.Ytghklomcgijdpaa

