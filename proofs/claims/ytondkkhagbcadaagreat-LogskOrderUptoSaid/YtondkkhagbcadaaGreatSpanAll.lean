/- The powers of ten in their variable. -/
import Derived.Test.YtondkkhagbcadaaGreatProg
import Derived.Test.YtondkkhagbcadaaGreatBase
import Derived.Test.YtondkkhagbcadaaGreatWalks
import Derived.Test.YtondkkhagbcadaaGreatShelf
import Derived.Lib.BitFns
import Derived.Test.YtondkkhagbcadaaGreatSpan
import Derived.Test.YtondkkhagbcadaaGreatLoops
import Derived.BigQuiet
import Derived.Deep.QuietTactic
namespace Go.Proofs.YtondkkhagbcadaaGreat
open Go.RowKit

def TensAt (_ : World) : Prop := True
theorem TensAt.below {w w' : World} (_h : TensAt w) (_hb : Below w.heap.size w w') : TensAt w' := trivial
end Go.Proofs.YtondkkhagbcadaaGreat
/- Contracts of package sign, and of the document's sizes. -/
namespace Go.Proofs.YtondkkhagbcadaaGreat
open Go.RowKit

theorem sgof_any (x : Int) (w : World) (h1 : -9223372036854775808 ≤ x) (h2 : x ≤ 9223372036854775807) :
    Calls Tryz.prog 69 #[.int .i64 x] w fun e w' => e = .returned (.tuple #[.int .u64 (x.natAbs : Int), .bool (decide (x < 0))]) ∧ w = w' := by
  by_cases hx : x < 0
  · have HV : Hid ((x.natAbs : Int) = -x) := by show _ = _; omega
    have v1 : IntKind.u64.wrap x = x + 18446744073709551616 := by simp only [IntKind.wrap_u64]; omega
    have v2 : IntKind.u64.wrap (-(x + 18446744073709551616)) = -x := by simp only [IntKind.wrap_u64]; omega
    have hd : decide (x < 0) = true := decide_eq_true hx
    rw [HV.out, hd]
    clear h1 h2
    go_enter Tryz.func69, Tryz.ntmps69
    go_wp2
    go_ret2
    exact ⟨rfl, rfl⟩
  · have HV : Hid ((x.natAbs : Int) = x) := by show _ = _; omega
    have v1 : IntKind.u64.wrap x = x := by simp only [IntKind.wrap_u64]; omega
    have hd : decide (x < 0) = false := decide_eq_false hx
    rw [HV.out, hd]
    clear h1 h2
    go_enter Tryz.func69, Tryz.ntmps69
    go_wp2
    go_ret2
    exact ⟨rfl, rfl⟩
/-- The value of a magnitude. -/
def valM (m : Int) (below : Bool) : Int := if below then (if m ≤ 9223372036854775808 then -m else 0) else (if m < 9223372036854775808 then m else 0)
def valOk (m : Int) (below : Bool) : Bool := if below then decide (m ≤ 9223372036854775808) else decide (m < 9223372036854775808)
theorem sgval_any (m : Int) (below : Bool) (w : World) (h1 : 0 ≤ m) (h2 : m < 18446744073709551616) :
    Calls Tryz.prog 79 #[.int .u64 m, .bool below] w fun e w' => e = .returned (.tuple #[.int .i64 (valM m below), .bool (valOk m below)]) ∧ w = w' := by
  cases below with
  | true =>
    by_cases hm : m ≤ 9223372036854775808
    · have HV : Hid (valM m true = -m ∧ valOk m true = true) := by show _ ∧ _; unfold valM valOk; simp [hm]
      rw [HV.out.1, HV.out.2]
      have hd : decide (m ≤ 9223372036854775808) = true := decide_eq_true hm
      by_cases h0 : m = 0
      · subst h0
        go_enter Tryz.func79, Tryz.ntmps79
        go_wp2
        go_ret2
        exact ⟨rfl, rfl⟩
      · have v1 : IntKind.u64.wrap (-m) = 18446744073709551616 - m := by simp only [IntKind.wrap_u64]; omega
        have v2 : IntKind.i64.wrap (18446744073709551616 - m) = -m := by simp only [IntKind.wrap_i64]; omega
        clear h1 h2 h0
        go_enter Tryz.func79, Tryz.ntmps79
        go_wp2
        go_ret2
        exact ⟨rfl, rfl⟩
    · have HV : Hid (valM m true = 0 ∧ valOk m true = false) := by show _ ∧ _; unfold valM valOk; simp; omega
      rw [HV.out.1, HV.out.2]
      have hd : decide (m ≤ 9223372036854775808) = false := decide_eq_false hm
      clear h1 h2
      go_enter Tryz.func79, Tryz.ntmps79
      go_wp2
      go_ret2
      exact ⟨rfl, rfl⟩
  | false =>
    by_cases hm : m < 9223372036854775808
    · have HV : Hid (valM m false = m ∧ valOk m false = true) := by show _ ∧ _; unfold valM valOk; simp [hm]
      rw [HV.out.1, HV.out.2]
      have hd : decide (m < 9223372036854775808) = true := decide_eq_true hm
      have v1 : IntKind.i64.wrap m = m := by simp only [IntKind.wrap_i64]; omega
      clear h1 h2
      go_enter Tryz.func79, Tryz.ntmps79
      go_wp2
      go_ret2
      exact ⟨rfl, rfl⟩
    · have HV : Hid (valM m false = 0 ∧ valOk m false = false) := by show _ ∧ _; unfold valM valOk; simp; omega
      rw [HV.out.1, HV.out.2]
      have hd : decide (m < 9223372036854775808) = false := decide_eq_false hm
      clear h1 h2
      go_enter Tryz.func79, Tryz.ntmps79
      go_wp2
      go_ret2
      exact ⟨rfl, rfl⟩
theorem rsize_any (x : Int) (w : World) (h1 : -9223372036854775808 ≤ x) (h2 : x ≤ 9223372036854775807) :
    Calls Tryz.prog 18 #[.int .i64 x] w fun e w' => e = .returned (.int .u64 (x.natAbs : Int)) ∧ w = w' := by
  by_cases hx : 0 ≤ x
  · have HV : Hid ((x.natAbs : Int) = x) := by show _ = _; omega
    have v1 : IntKind.u64.wrap x = x := by simp only [IntKind.wrap_u64]; omega
    rw [HV.out]
    clear h1 h2
    go_enter Tryz.func18, Tryz.ntmps18
    go_wp2
    go_ret
    exact ⟨rfl, rfl⟩
  · have HV : Hid ((x.natAbs : Int) = -(x + 1) + 1) := by show _ = _; omega
    have v0 : IntKind.i64.wrap (x + 1) = x + 1 := by simp only [IntKind.wrap_i64]; omega
    have v1 : IntKind.i64.wrap (-(x + 1)) = -(x + 1) := by simp only [IntKind.wrap_i64]; omega
    have v2 : IntKind.u64.wrap (-(x + 1)) = -(x + 1) := by simp only [IntKind.wrap_u64]; omega
    have v3 : IntKind.u64.wrap (-(x + 1) + 1) = -(x + 1) + 1 := by simp only [IntKind.wrap_u64]; omega
    rw [HV.out]
    clear h1 h2
    go_enter Tryz.func18, Tryz.ntmps18
    go_wp2
    go_ret
    exact ⟨rfl, rfl⟩
end Go.Proofs.YtondkkhagbcadaaGreat
/- Contract of package wide's Log. -/
namespace Go.Proofs.YtondkkhagbcadaaGreat
open Go.RowKit

theorem bitLen_log2 (a : Nat) (h : 0 < a) (h2 : a < 2 ^ 64) : Lib.bitLen a = Nat.log2 a + 1 := by
  rw [Lib.bitLen_shift (Nat.log2 a) a (Nat.log2_self_le (by omega)) h2]
  have e : a / 2 ^ Nat.log2 a = 1 := by
    have hp : 0 < 2 ^ Nat.log2 a := Nat.pow_pos (by omega)
    have a1 : 1 ≤ a / 2 ^ Nat.log2 a := (Nat.le_div_iff_mul_le hp).2 (by rw [Nat.one_mul]; exact Nat.log2_self_le (by omega))
    have a2 : a / 2 ^ Nat.log2 a < 2 := Nat.div_lt_of_lt_mul (by have := @Nat.lt_log2_self a; rw [Nat.pow_succ] at this; exact this)
    omega
  rw [e]
  have : Lib.bitLen 1 = 1 := by decide +kernel
  omega
end Go.Proofs.YtondkkhagbcadaaGreat
/- Contracts of package spans. -/
namespace Go.Proofs.YtondkkhagbcadaaGreat
open Go.RowKit

/-- The power of two that isn't below so many tens. -/
def gOf (d : Int) : Nat := if d = 1 then 4 else if d = 2 then 7 else if d = 3 then 10 else 14
theorem gOf_le (d : Int) : gOf d ≤ 14 := by unfold gOf; (repeat' split) <;> omega
theorem gOf_ge (d : Int) : 4 ≤ gOf d := by unfold gOf; (repeat' split) <;> omega
theorem pow14 {g : Nat} (h : g ≤ 14) : 2 ^ g ≤ 16384 := Nat.le_trans (Nat.pow_le_pow_right (by omega) h) (by decide)
theorem wrap_sum (z1 z2 : Nat) (b1 : z1 ≤ 59 * 16384) (b3 : z2 < 32768) : wrap64 (wrap64 (z1 : Int) + wrap64 (z2 : Int)) = ((z1 + z2 : Nat) : Int) := by unfold wrap64; omega
theorem wrap_rest (i z : Nat) (h : z ≤ i) (hi : i ≤ 64 * 16384) : IntKind.u64.wrap (wrap64 ((i : Int) - wrap64 (z : Int))) = ((i - z : Nat) : Int) := by simp only [IntKind.wrap_u64]; unfold wrap64; omega
/-- A span's block. -/
structure SpanAt (w : World) (b : Nat) (d : Int) : Prop where
  at' : At w b #[] 0
  d1 : 1 ≤ d
  d4 : d ≤ 0
theorem SpanAt.below {w w' : World} {b : Nat} {d : Int} (h : SpanAt w b d) (hb : Below w.heap.size w w') : SpanAt w' b d := ⟨h.at'.below hb, h.d1, h.d4⟩

def logC (w : World) (b : Nat) : Nat := match w.cell? ⟨b, 1, none⟩ with
  | some (.int _ j) => j.toNat
  | _ => 0
/-- A span's least and greatest magnitude, and what stands for it. -/
def loI (g i : Nat) : Nat := qI g i * 2 ^ kI g i
def hiI (g i : Nat) : Nat := min (loI g i + (2 ^ kI g i - 1)) 9223372036854775808
def repI (g i : Nat) : Nat := loI g i + (hiI g i - loI g i) / 2
theorem loI_idx {g m : Nat} (hm : 0 < m) : loI g (idxN g m) = loN g m := by
  have h1 : kI g (idxN g m) = kN g m := idx_div hm
  unfold loI qI
  rw [h1, idx_rest]
  rfl
theorem hiI_idx {g m : Nat} (hm : 0 < m) : hiI g (idxN g m) = hiN g m := by
  have h1 : kI g (idxN g m) = kN g m := idx_div hm
  unfold hiI hiN
  rw [loI_idx hm, h1]
theorem kI_le {g i : Nat} (hg : g ≤ 63) (hi : i ≤ (64 - g) * 2 ^ g) : kI g i ≤ 63 - g := by
  have hd : i / 2 ^ g ≤ 64 - g := Nat.div_le_of_le_mul (by rw [Nat.mul_comm]; exact hi)
  unfold kI
  omega
theorem lastI {g : Nat} (hg : g ≤ 14) : (64 - g) * 2 ^ g ≤ 64 * 16384 := Nat.mul_le_mul (by omega) (pow14 hg)
theorem wrap_low (z : Nat) (h : z ≤ 9223372036854775808) : IntKind.u64.wrap (z : Int) = (z : Int) := by simp only [IntKind.wrap_u64]; omega
theorem wrap_high (z p : Nat) (h : z ≤ 9223372036854775808) (h0 : 0 < p) (hp : p ≤ 9223372036854775808) : IntKind.u64.wrap ((z : Int) + IntKind.u64.wrap (IntKind.u64.wrap (p : Int) - 1)) = ((z + (p - 1) : Nat) : Int) := by simp only [IntKind.wrap_u64]; omega
theorem hiI_le {g i : Nat} (hg : g ≤ 63) (hi : 0 < i) (hi' : i ≤ (64 - g) * 2 ^ g) : loI g i ≤ hiI g i ∧ hiI g i ≤ 9223372036854775808 := by
  have h1 := (idx_of hg hi hi').2.1
  have h2 : loI g i = qI g i * 2 ^ kI g i := rfl
  rw [← h2] at h1
  unfold hiI
  omega
theorem wrap_mid (lo hi : Nat) (h : lo ≤ hi) (h2 : hi ≤ 9223372036854775808) : IntKind.u64.wrap ((lo : Int) + IntKind.u64.wrap (((hi : Int) - lo).tdiv 2)) = ((lo + (hi - lo) / 2 : Nat) : Int) := by
  rw [Int.tdiv_eq_ediv_of_nonneg (by omega)]; simp only [IntKind.wrap_u64]; omega
end Go.Proofs.YtondkkhagbcadaaGreat
