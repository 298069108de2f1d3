/- Plain laws of parts by digits. -/
import Derived.Test.YtondkkhagbcadaaGreatSpanAll
import Derived.Test.YtondkkhagbcadaaGreatBins13
namespace Go.Proofs.YtondkkhagbcadaaGreat
open Go.RowKit

theorem partD_mono (d : Int) : PartMono (partD d) := fun a b ha hab hb => by
  have := idx_mono (g := gOf d) ha hab
  unfold partD
  omega
theorem repI_idx {g m : Nat} (h : 0 < m) : repI g (idxN g m) = repM g m := by unfold repI repM; rw [loI_idx h, hiI_idx h]
theorem repM_le {g m : Nat} (h : 0 < m) (h2 : m ≤ 9223372036854775808) : loN g m ≤ repM g m ∧ repM g m ≤ hiN g m := by
  have := lo_le_hi (g := g) h h2
  unfold repM; omega
theorem wrap_in {z : Int} (h : 0 ≤ z ∧ z < 18446744073709551616) : IntKind.u64.wrap z = z := by simp only [IntKind.wrap_u64]; omega
theorem partD_rng {d : Int} {m : Nat} (h1 : 0 < m) (h2 : m ≤ 9223372036854775808) : 0 < partD d m ∧ partD d m ≤ 1048576 := by
  have hg := gOf_le d
  have a := idx_pos (g := gOf d) h1
  have b := idx_le_top (g := gOf d) (by omega) h1 h2
  have c := lastI hg
  unfold partD
  omega
/-- The last index of so many digits. -/
def topD (d : Int) : Int := ((64 - gOf d) * 2 ^ gOf d : Nat)
theorem rep_pos {d : Int} {i : Nat} (h1 : 0 < i) (h2 : (i : Int) ≤ topD d) : 0 < repI (gOf d) i := by
  have hg := gOf_le d
  unfold topD at h2
  have m1 := (idx_of (g := gOf d) (i := i) (by omega) h1 (by omega)).1
  exact Nat.lt_of_lt_of_le m1 (Nat.le_add_right _ _)
theorem topD_le (d : Int) : 0 ≤ topD d ∧ topD d ≤ 1048576 := by
  have := lastI (gOf_le d)
  unfold topD
  omega
theorem partD_top {d : Int} {m : Nat} (h1 : 0 < m) (h2 : m ≤ 9223372036854775808) : partD d m ≤ topD d := by
  have b := idx_le_top (g := gOf d) (by have := gOf_le d; omega) h1 h2
  unfold partD topD
  omega
/-- What stands for a part by digits; 0: there is none such. -/
def repD (d : Int) (i : Int) : Int := if 0 < i ∧ i ≤ topD d then (repI (gOf d) i.toNat : Nat) else 0
theorem repD_part {d : Int} {m : Nat} (h1 : 0 < m) (h2 : m ≤ 9223372036854775808) : repD d (partD d m) = (repM (gOf d) m : Nat) := by
  unfold repD
  rw [if_pos ⟨(partD_rng h1 h2).1, partD_top h1 h2⟩]
  unfold partD
  rw [Int.toNat_natCast, repI_idx h1]
theorem repI_le {d : Int} {i : Nat} (h1 : 0 < i) (h2 : (i : Int) ≤ topD d) : repI (gOf d) i ≤ 9223372036854775808 := by
  have hg := gOf_le d
  unfold topD at h2
  have := hiI_le (g := gOf d) (i := i) (by omega) h1 (by omega)
  unfold repI
  omega
end Go.Proofs.YtondkkhagbcadaaGreat
