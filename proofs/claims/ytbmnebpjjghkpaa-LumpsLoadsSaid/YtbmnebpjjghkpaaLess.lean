/- Contract of package wide's Less. -/
import Derived.Test.YtbmnebpjjghkpaaProg
import Derived.Test.YtbmnebpjjghkpaaBase
import Derived.Test.YtbmnebpjjghkpaaTimes
import Derived.Test.YtbmnebpjjghkpaaCompare
namespace Go.Proofs.Ytbmnebpjjghkpaa
open Go.RowKit

/-- Whether one fraction is less than another one. -/
def lessF (an ad bn bd : Int) : Bool := if ad = 0 then false else if bd = 0 then true else decide (an * bd < bn * ad)

theorem less_any (an ad bn bd : Int) (w : World) (h1 : 0 ≤ an) (h2 : an < 18446744073709551616) (h3 : 0 ≤ ad) (h4 : ad < 18446744073709551616) (h5 : 0 ≤ bn) (h6 : bn < 18446744073709551616)
    (h7 : 0 ≤ bd) (h8 : bd < 18446744073709551616) :
    Calls Try.prog 46 #[.agg #[.int .u64 an, .int .u64 ad], .agg #[.int .u64 bn, .int .u64 bd]] w fun e w' =>
      e = .returned (.bool (lessF an ad bn bd)) ∧ Below w.heap.size w w' := by
  unfold lessF
  by_cases ha : ad = 0
  · rw [if_pos ha]
    subst ha
    go_enter Try.func46, Try.ntmps46
    go_wp2
    go_ret
    exact ⟨rfl, ((Below.refl _ _).alloc (Nat.le_refl _) _).alloc (by simp) _⟩
  by_cases hb : bd = 0
  · rw [if_neg ha, if_pos hb]
    subst hb
    have ha' : (ad == 0) = false := by simpa using ha
    go_enter Try.func46, Try.ntmps46
    go_wp2
    go_ret
    exact ⟨rfl, ((Below.refl _ _).alloc (Nat.le_refl _) _).alloc (by simp) _⟩
  rw [if_neg ha, if_neg hb]
  have ha' : (ad == 0) = false := by simpa using ha
  have hb' : (bd == 0) = false := by simpa using hb
  go_enter Try.func46, Try.ntmps46
  go_wp2
  refine gen_world (fun W => W.cell? ⟨w.heap.size, 0, none⟩ = some (.int .u64 an) ∧ W.cell? ⟨w.heap.size, 1, none⟩ = some (.int .u64 ad) ∧ W.cell? ⟨w.heap.size + 1, 0, none⟩ = some (.int .u64 bn) ∧ W.cell? ⟨w.heap.size + 1, 1, none⟩ = some (.int .u64 bd) ∧ w.heap.size + 1 < W.heap.size ∧ Below w.heap.size w W)
    ⟨by simp, by simp, by simp, by simp, by simp, ((Below.refl _ _).alloc (Nat.le_refl _) _).alloc (by simp) _⟩ ?_
  rintro W0 ⟨c1, c2, c3, c4, hsz, hB0⟩
  have MK : Hid (∀ w', Below W0.heap.size W0 w' → w'.cell? ⟨w.heap.size, 0, none⟩ = some (.int .u64 an) ∧ w'.cell? ⟨w.heap.size, 1, none⟩ = some (.int .u64 ad) ∧ w'.cell? ⟨w.heap.size + 1, 0, none⟩ = some (.int .u64 bn) ∧ w'.cell? ⟨w.heap.size + 1, 1, none⟩ = some (.int .u64 bd) ∧ Below W0.heap.size W0 w') :=
    fun w' h => ⟨cellB h (by omega) c1, cellB h (by omega) c2, cellB h (by omega) c3, cellB h (by omega) c4, h⟩
  go_region_held3 (fun w' => w'.cell? ⟨w.heap.size, 0, none⟩ = some (.int .u64 an) ∧ w'.cell? ⟨w.heap.size, 1, none⟩ = some (.int .u64 ad) ∧ w'.cell? ⟨w.heap.size + 1, 0, none⟩ = some (.int .u64 bn) ∧ w'.cell? ⟨w.heap.size + 1, 1, none⟩ = some (.int .u64 bd) ∧ Below W0.heap.size W0 w')
    (((try go_split_ands); first | exact MK.out _ (Below.drew (Below.refl _ _)) | (refine MK.out _ (keep1 ?_ hb3); assumption) | (refine MK.out _ (keep1 ?_ hb2); assumption) | (refine MK.out _ (keep1 ?_ hb1); assumption)))
    (first | (go_at_call_of 57 an; refine (times_any an bd _ (by omega) (by omega) (by omega) (by omega)).mono ?_; rintro e w' ⟨hi, lo, k1, k2, k3, k4, hX, rfl, hb1⟩; have HX := Lib.hid hX; clear hX) | (go_at_call_of 57 bn; refine (times_any bn ad _ (by omega) (by omega) (by omega) (by omega)).mono ?_; rintro e w' ⟨hi2, lo2, l1, l2, l3, l4, hX2, rfl, hb2⟩; have HX2 := Lib.hid hX2; clear hX2) | (go_at_call 56; refine (compare_any _ _ _ _ _ k1 k2 k3 k4 l1 l2 l3 l4).mono ?_; rintro e w' ⟨rfl, hb3⟩; rw [HX.out, HX2.out]))
  all_goals
    go_wp2
    go_ret
    go_split_ands
    refine ⟨?_, hB0.trans (Below.mono (B := W0.heap.size) ?_ hB0.size)⟩
    · simp [cmpI_neg]
    · assumption
end Go.Proofs.Ytbmnebpjjghkpaa

