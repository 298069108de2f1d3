/- The powers of ten in their variable. -/
import Derived.Test.YtplfiheejecjiaaGreatDoorProg
import Derived.Test.YtplfiheejecjiaaGreatDoorBase
import Derived.Test.YtplfiheejecjiaaGreatDoorWalks
import Derived.Test.YtplfiheejecjiaaGreatDoorShelf
import Derived.Lib.BitFns
import Derived.Test.YtplfiheejecjiaaGreatDoorSpan
import Derived.Test.YtplfiheejecjiaaGreatDoorLoops
import Derived.BigQuiet
import Derived.Deep.QuietTactic
namespace Go.Proofs.YtplfiheejecjiaaGreatDoor
open Go.RowKit

/-- The powers of ten lie in their variable. -/
structure TensAt (w : World) : Prop where
  lt : 0 < w.heap.size
  c0 : w.cell? ⟨0, 0, none⟩ = some (.int .u64 1)
  c1 : w.cell? ⟨0, 1, none⟩ = some (.int .u64 10)
  c2 : w.cell? ⟨0, 2, none⟩ = some (.int .u64 100)
  c3 : w.cell? ⟨0, 3, none⟩ = some (.int .u64 1000)
  c4 : w.cell? ⟨0, 4, none⟩ = some (.int .u64 10000)
theorem TensAt.below {w w' : World} (h : TensAt w) (hb : Below w.heap.size w w') : TensAt w' :=
  ⟨Nat.lt_of_lt_of_le h.lt hb.size, cellB hb h.lt h.c0, cellB hb h.lt h.c1, cellB hb h.lt h.c2, cellB hb h.lt h.c3, cellB hb h.lt h.c4⟩
end Go.Proofs.YtplfiheejecjiaaGreatDoor
/- Contracts of package sign, and of the document's sizes. -/
namespace Go.Proofs.YtplfiheejecjiaaGreatDoor
open Go.RowKit

theorem sgof_any (x : Int) (w : World) (h1 : -9223372036854775808 ≤ x) (h2 : x ≤ 9223372036854775807) :
    Calls Tryz.prog 38 #[.int .i64 x] w fun e w' => e = .returned (.tuple #[.int .u64 (x.natAbs : Int), .bool (decide (x < 0))]) ∧ w = w' := by
  by_cases hx : x < 0
  · have HV : Hid ((x.natAbs : Int) = -x) := by show _ = _; omega
    have v1 : IntKind.u64.wrap x = x + 18446744073709551616 := by simp only [IntKind.wrap_u64]; omega
    have v2 : IntKind.u64.wrap (-(x + 18446744073709551616)) = -x := by simp only [IntKind.wrap_u64]; omega
    have hd : decide (x < 0) = true := decide_eq_true hx
    rw [HV.out, hd]
    clear h1 h2
    go_enter Tryz.func38, Tryz.ntmps38
    go_wp2
    go_ret2
    exact ⟨rfl, rfl⟩
  · have HV : Hid ((x.natAbs : Int) = x) := by show _ = _; omega
    have v1 : IntKind.u64.wrap x = x := by simp only [IntKind.wrap_u64]; omega
    have hd : decide (x < 0) = false := decide_eq_false hx
    rw [HV.out, hd]
    clear h1 h2
    go_enter Tryz.func38, Tryz.ntmps38
    go_wp2
    go_ret2
    exact ⟨rfl, rfl⟩
/-- The value of a magnitude. -/
def valM (m : Int) (below : Bool) : Int := if below then (if m ≤ 9223372036854775808 then -m else 0) else (if m < 9223372036854775808 then m else 0)
def valOk (m : Int) (below : Bool) : Bool := if below then decide (m ≤ 9223372036854775808) else decide (m < 9223372036854775808)
theorem sgval_any (m : Int) (below : Bool) (w : World) (h1 : 0 ≤ m) (h2 : m < 18446744073709551616) :
    Calls Tryz.prog 50 #[.int .u64 m, .bool below] w fun e w' => e = .returned (.tuple #[.int .i64 (valM m below), .bool (valOk m below)]) ∧ w = w' := by
  cases below with
  | true =>
    by_cases hm : m ≤ 9223372036854775808
    · have HV : Hid (valM m true = -m ∧ valOk m true = true) := by show _ ∧ _; unfold valM valOk; simp [hm]
      rw [HV.out.1, HV.out.2]
      have hd : decide (m ≤ 9223372036854775808) = true := decide_eq_true hm
      by_cases h0 : m = 0
      · subst h0
        go_enter Tryz.func50, Tryz.ntmps50
        go_wp2
        go_ret2
        exact ⟨rfl, rfl⟩
      · have v1 : IntKind.u64.wrap (-m) = 18446744073709551616 - m := by simp only [IntKind.wrap_u64]; omega
        have v2 : IntKind.i64.wrap (18446744073709551616 - m) = -m := by simp only [IntKind.wrap_i64]; omega
        clear h1 h2 h0
        go_enter Tryz.func50, Tryz.ntmps50
        go_wp2
        go_ret2
        exact ⟨rfl, rfl⟩
    · have HV : Hid (valM m true = 0 ∧ valOk m true = false) := by show _ ∧ _; unfold valM valOk; simp; omega
      rw [HV.out.1, HV.out.2]
      have hd : decide (m ≤ 9223372036854775808) = false := decide_eq_false hm
      clear h1 h2
      go_enter Tryz.func50, Tryz.ntmps50
      go_wp2
      go_ret2
      exact ⟨rfl, rfl⟩
  | false =>
    by_cases hm : m < 9223372036854775808
    · have HV : Hid (valM m false = m ∧ valOk m false = true) := by show _ ∧ _; unfold valM valOk; simp [hm]
      rw [HV.out.1, HV.out.2]
      have hd : decide (m < 9223372036854775808) = true := decide_eq_true hm
      have v1 : IntKind.i64.wrap m = m := by simp only [IntKind.wrap_i64]; omega
      clear h1 h2
      go_enter Tryz.func50, Tryz.ntmps50
      go_wp2
      go_ret2
      exact ⟨rfl, rfl⟩
    · have HV : Hid (valM m false = 0 ∧ valOk m false = false) := by show _ ∧ _; unfold valM valOk; simp; omega
      rw [HV.out.1, HV.out.2]
      have hd : decide (m < 9223372036854775808) = false := decide_eq_false hm
      clear h1 h2
      go_enter Tryz.func50, Tryz.ntmps50
      go_wp2
      go_ret2
      exact ⟨rfl, rfl⟩
theorem rsize_any (x : Int) (w : World) (h1 : -9223372036854775808 ≤ x) (h2 : x ≤ 9223372036854775807) :
    Calls Tryz.prog 16 #[.int .i64 x] w fun e w' => e = .returned (.int .u64 (x.natAbs : Int)) ∧ w = w' := by
  by_cases hx : 0 ≤ x
  · have HV : Hid ((x.natAbs : Int) = x) := by show _ = _; omega
    have v1 : IntKind.u64.wrap x = x := by simp only [IntKind.wrap_u64]; omega
    rw [HV.out]
    clear h1 h2
    go_enter Tryz.func16, Tryz.ntmps16
    go_wp2
    go_ret
    exact ⟨rfl, rfl⟩
  · have HV : Hid ((x.natAbs : Int) = -(x + 1) + 1) := by show _ = _; omega
    have v0 : IntKind.i64.wrap (x + 1) = x + 1 := by simp only [IntKind.wrap_i64]; omega
    have v1 : IntKind.i64.wrap (-(x + 1)) = -(x + 1) := by simp only [IntKind.wrap_i64]; omega
    have v2 : IntKind.u64.wrap (-(x + 1)) = -(x + 1) := by simp only [IntKind.wrap_u64]; omega
    have v3 : IntKind.u64.wrap (-(x + 1) + 1) = -(x + 1) + 1 := by simp only [IntKind.wrap_u64]; omega
    rw [HV.out]
    clear h1 h2
    go_enter Tryz.func16, Tryz.ntmps16
    go_wp2
    go_ret
    exact ⟨rfl, rfl⟩
end Go.Proofs.YtplfiheejecjiaaGreatDoor
/- Contract of package wide's Log. -/
namespace Go.Proofs.YtplfiheejecjiaaGreatDoor
open Go.RowKit

theorem log_any (a : Int) (w : World) (h1 : 0 ≤ a) (h2 : a < 18446744073709551616) :
    Calls Tryz.prog 137 #[.int .u64 a] w fun e w' => e = .returned (.tuple #[.int .i64 ((Lib.bitLen a.toNat : Int) - 1), .bool (a != 0)]) ∧ w = w' := by
  have hb : Lib.bitLen a.toNat ≤ 64 := Lib.bitLen_le _ 64 (by omega) (by have : a.toNat < 18446744073709551616 := by omega
                                                                         simpa using this)
  obtain ⟨k, HK⟩ : ∃ k : Nat, Hid (Lib.bitLen a.toNat = k) := ⟨_, rfl⟩
  rw [HK.out] at hb ⊢
  go_enter Tryz.func137, Tryz.ntmps137
  go_wp2_with fail
  refine (Tryz.bits_Len64 a w h1 (by omega)).mono ?_
  rintro e w1 ⟨rfl, hw⟩
  subst hw
  rw [HK.out]
  go_wp2
  go_ret2
  exact ⟨rfl, rfl⟩
theorem bitLen_log2 (a : Nat) (h : 0 < a) (h2 : a < 2 ^ 64) : Lib.bitLen a = Nat.log2 a + 1 := by
  rw [Lib.bitLen_shift (Nat.log2 a) a (Nat.log2_self_le (by omega)) h2]
  have e : a / 2 ^ Nat.log2 a = 1 := by
    have hp : 0 < 2 ^ Nat.log2 a := Nat.pow_pos (by omega)
    have a1 : 1 ≤ a / 2 ^ Nat.log2 a := (Nat.le_div_iff_mul_le hp).2 (by rw [Nat.one_mul]; exact Nat.log2_self_le (by omega))
    have a2 : a / 2 ^ Nat.log2 a < 2 := Nat.div_lt_of_lt_mul (by have := @Nat.lt_log2_self a; rw [Nat.pow_succ] at this; exact this)
    omega
  rw [e]
  have : Lib.bitLen 1 = 1 := by decide +kernel
  omega
theorem log_nat (m : Nat) (w : World) (h : 0 < m) (h2 : m ≤ 9223372036854775808) :
    Calls Tryz.prog 137 #[.int .u64 m] w fun e w' => e = .returned (.tuple #[.int .i64 (Nat.log2 m : Nat), .bool true]) ∧ w = w' := by
  refine (log_any m w (by omega) (by omega)).mono ?_
  rintro e w' ⟨rfl, hw⟩
  refine ⟨?_, hw⟩
  have hp : (2 : Nat) ^ 64 = 18446744073709551616 := by decide +kernel
  have e1 : ((m : Int) != 0) = true := by simp; omega
  rw [show ((m : Int)).toNat = m by omega, bitLen_log2 m h (by omega), e1]
  congr 4
  simp
end Go.Proofs.YtplfiheejecjiaaGreatDoor
/- Contracts of package spans. -/
namespace Go.Proofs.YtplfiheejecjiaaGreatDoor
open Go.RowKit

/-- The power of two that isn't below so many tens. -/
def gOf (d : Int) : Nat := if d = 1 then 4 else if d = 2 then 7 else if d = 3 then 10 else 14
theorem gOf_le (d : Int) : gOf d ≤ 14 := by unfold gOf; (repeat' split) <;> omega
theorem gOf_ge (d : Int) : 4 ≤ gOf d := by unfold gOf; (repeat' split) <;> omega
theorem pow14 {g : Nat} (h : g ≤ 14) : 2 ^ g ≤ 16384 := Nat.le_trans (Nat.pow_le_pow_right (by omega) h) (by decide)
theorem wrap_sum (z1 z2 : Nat) (b1 : z1 ≤ 59 * 16384) (b3 : z2 < 32768) : wrap64 (wrap64 (z1 : Int) + wrap64 (z2 : Int)) = ((z1 + z2 : Nat) : Int) := by unfold wrap64; omega
theorem wrap_rest (i z : Nat) (h : z ≤ i) (hi : i ≤ 64 * 16384) : IntKind.u64.wrap (wrap64 ((i : Int) - wrap64 (z : Int))) = ((i - z : Nat) : Int) := by simp only [IntKind.wrap_u64]; unfold wrap64; omega
/-- A span's block. -/
structure SpanAt (w : World) (b : Nat) (d : Int) : Prop where
  at' : At w b #[.int .i64 d, .int .i64 (gOf d : Nat)] 114
  d1 : 1 ≤ d
  d4 : d ≤ 4
theorem SpanAt.below {w w' : World} {b : Nat} {d : Int} (h : SpanAt w b d) (hb : Below w.heap.size w w') : SpanAt w' b d := ⟨h.at'.below hb, h.d1, h.d4⟩

def logC (w : World) (b : Nat) : Nat := match w.cell? ⟨b, 1, none⟩ with
  | some (.int _ j) => j.toNat
  | _ => 0
set_option maxHeartbeats 1000000 in
theorem spnew_one (d : Int) (dn : Nat) (g : Nat) (ten : Int) (w : World) (hd : d = dn) (h1 : 1 ≤ dn) (h4 : dn ≤ 4) (hG : 0 < w.heap.size) (hc : w.cell? ⟨0, dn, none⟩ = some (.int .u64 ten)) (hg : ∀ j : Nat, j ≤ g → ((2 : Int) ^ j < ten ↔ j < g)) (hg14 : g ≤ 14) :
    Calls Tryz.prog 31 #[.int .i64 d] w fun e w' => (∃ b, e = .returned (.tuple #[.pointer (some ⟨b, 0, none⟩), .int .i64 0]) ∧ b = w.heap.size ∧ At w' b #[.int .i64 d, .int .i64 g] 114) ∧ Below w.heap.size w w' := by
  subst hd
  have HG := Lib.hid hg
  have n1 : ¬ (dn : Int) < 1 := by omega
  have n2 : ¬ (4 : Int) < dn := by omega
  have n2' : ¬ 4 < dn := by omega
  have hs : At (w.alloc (.cells #[.int .i64 dn, .int .i64 0] 114)) w.heap.size #[.int .i64 dn, .int .i64 0] 114 := At.new w _ _
  have hb0 : Below w.heap.size w (w.alloc (.cells #[.int .i64 dn, .int .i64 0] 114)) := (Below.refl _ _).alloc (Nat.le_refl _) _
  have HS : Hid (∃ j : Nat, j ≤ g ∧ At (w.alloc (.cells #[.int .i64 dn, .int .i64 0] 114)) w.heap.size #[.int .i64 dn, .int .i64 j] 114 ∧ Below w.heap.size w (w.alloc (.cells #[.int .i64 dn, .int .i64 0] 114))) := ⟨0, Nat.zero_le _, hs, hb0⟩
  have HCG : Hid (w.cell? ⟨0, dn, none⟩ = some (.int .u64 ten) ∧ 0 < w.heap.size) := ⟨hc, hG⟩
  clear hg hs hb0 hc hG
  go_enter Tryz.func31, Tryz.ntmps31
  go_wp2
  obtain ⟨b, hb⟩ : ∃ b, w.heap.size = b := ⟨_, rfl⟩
  have HBE := Lib.hid hb
  rw [hb] at HS
  simp only [hb]
  clear hb
  generalize w.alloc (.cells #[.int .i64 dn, .int .i64 0] 114) = W1 at HS ⊢
  clear n1 n2 n2'
  go_loopw [14] (fun _ wr => Hid (∃ j : Nat, j ≤ g ∧ At wr b #[.int .i64 dn, .int .i64 j] 114 ∧ Below b w wr)) (fun _ wr => 64 - logC wr b)
  case atStart => exact HS
  case round =>
    obtain ⟨j, hj, hs, hB⟩ := hrel.out
    have f1 := hs.two
    have l1 := hs.lt
    have c1 : wr.cell? ⟨0, dn, none⟩ = some (.int .u64 ten) := cellB (w := w) (by rw [HBE.out]; exact hB) HCG.out.2 HCG.out.1
    have hGl : 0 < wr.heap.size := by have := HCG.out.2; have := HBE.out; omega
    have HJ := Lib.hid (HG.out j hj)
    have k0 : (0 : Int) ≤ j := by omega
    have k1 : j < 64 := by omega
    have k2 : (j : Int) < 64 := by omega
    have k3 : (0 : Int) ≤ dn := by omega
    have k4 : (dn : Int) < 5 := by omega
    have hp := Lib.hid (show (2 : Int) ^ j ≤ 16384 ∧ (0 : Int) < 2 ^ j by
      have a1 : 2 ^ j ≤ 2 ^ 14 := Nat.pow_le_pow_right (by omega) (by omega)
      have a2 : 0 < 2 ^ j := Nat.pow_pos (by omega)
      have e : ((2 ^ j : Nat) : Int) = (2 : Int) ^ j := by rw [Int.natCast_pow]; rfl
      rw [← e]
      omega)
    have hw : IntKind.u64.wrap ((2 : Int) ^ j) = (2 : Int) ^ j := by have := hp.out; simp only [IntKind.wrap_u64]; omega
    have HLC : Hid (logC wr b = j) := by show _ = _; unfold logC; rw [f1.2.1]; simp
    by_cases hlt : j < g
    · have hd : decide ((2 : Int) ^ j < ten) = true := decide_eq_true (HJ.out.2 hlt)
      have v1 : IntKind.i64.wrap ((j : Int) + 1) = ((j + 1 : Nat) : Int) := by simp only [IntKind.wrap_i64]; omega
      have HN : Hid (∀ n, ∃ i : Nat, i ≤ g ∧ At ((wr.drewN n).setCell ⟨b, 1, none⟩ (.int .i64 ((j + 1 : Nat) : Int))) b #[.int .i64 dn, .int .i64 i] 114 ∧ Below b w ((wr.drewN n).setCell ⟨b, 1, none⟩ (.int .i64 ((j + 1 : Nat) : Int)))) := fun n => ⟨j + 1, hlt, (hs.drewN n).set_any 1 _ rfl, (hB.drewN n).setCell (p := ⟨b, 1, none⟩) (Nat.le_refl _) _⟩
      have HL2 : Hid (∀ n, logC ((wr.drewN n).setCell ⟨b, 1, none⟩ (.int .i64 ((j : Int) + 1))) b = j + 1) := fun n => by
        have e : (((wr.drewN n).setCell ⟨b, 1, none⟩ (.int .i64 ((j : Int) + 1))).cell? ⟨b, 1, none⟩) = some (.int .i64 ((j : Int) + 1)) := ((hs.drewN n).set_any 1 (.int .i64 ((j : Int) + 1)) rfl).two.2.1
        unfold logC
        rw [e]
        show ((j : Int) + 1).toNat = j + 1
        omega
      clear hs hrel HS
      go_wp2
      go_quiet (fail)
      go_wp2
      go_roundw
      case rel => exact HN.out _
      case measure =>
        have e2 : logC ((wr.drewN nq).setCell ⟨b, 1, none⟩ (.int .i64 ((j : Int) + 1))) b = j + 1 := HL2.out _
        rw [e2, HLC.out]
        omega
    · obtain rfl : j = g := by omega
      have hd : decide ((2 : Int) ^ j < ten) = false := decide_eq_false fun h => hlt (HJ.out.1 h)
      have HN : Hid (∀ n, At (wr.drewN n) b #[.int .i64 dn, .int .i64 j] 114 ∧ Below b w (wr.drewN n)) := fun n => ⟨hs.drewN n, hB.drewN n⟩
      clear hs hrel HS
      go_wp2
      go_quiet (fail)
      go_wp2
      go_ret2
      exact ⟨⟨b, rfl, HBE.out.symm, (HN.out _).1⟩, by rw [HBE.out]; exact (HN.out _).2⟩
theorem spnew_any (d : Int) (w : World) (hT : TensAt w) (h1 : 1 ≤ d) (h4 : d ≤ 4) :
    Calls Tryz.prog 31 #[.int .i64 d] w fun e w' => (∃ b, e = .returned (.tuple #[.pointer (some ⟨b, 0, none⟩), .int .i64 0]) ∧ b = w.heap.size ∧ SpanAt w' b d) ∧ Below w.heap.size w w' := by
  have key : ∀ (dn g : Nat) (ten : Int), d = dn → 1 ≤ dn → dn ≤ 4 → gOf d = g → w.cell? ⟨0, dn, none⟩ = some (.int .u64 ten) → (∀ j : Nat, j ≤ g → ((2 : Int) ^ j < ten ↔ j < g)) → g ≤ 14 → Calls Tryz.prog 31 #[.int .i64 d] w fun e w' => (∃ b, e = .returned (.tuple #[.pointer (some ⟨b, 0, none⟩), .int .i64 0]) ∧ b = w.heap.size ∧ SpanAt w' b d) ∧ Below w.heap.size w w' := by
    intro dn g ten hd h1' h4' hg hc hj h14
    refine (spnew_one d dn g ten w hd h1' h4' hT.lt hc hj h14).mono ?_
    rintro e w' ⟨⟨b, rfl, hb, hs⟩, hB⟩
    exact ⟨⟨b, rfl, hb, by rw [hg]; exact hs, h1, h4⟩, hB⟩
  have hpow : ∀ (g : Nat) (ten : Int), (g = 0 ∨ (2 : Int) ^ (g - 1) < ten) → ten ≤ (2 : Int) ^ g → ∀ j : Nat, j ≤ g → ((2 : Int) ^ j < ten ↔ j < g) := by
    intro g ten ha hb j hj
    constructor
    · intro h
      rcases Nat.lt_or_ge j g with h2 | h2
      · exact h2
      · obtain rfl : j = g := by omega
        omega
    · intro h
      rcases ha with ha | ha
      · omega
      · have : (2 : Int) ^ j ≤ 2 ^ (g - 1) := by
          have a1 : 2 ^ j ≤ 2 ^ (g - 1) := Nat.pow_le_pow_right (by omega) (by omega)
          have e : ∀ n : Nat, ((2 ^ n : Nat) : Int) = (2 : Int) ^ n := fun n => by rw [Int.natCast_pow]; rfl
          rw [← e, ← e]
          omega
        omega
  rcases (by omega : d = 1 ∨ d = 2 ∨ d = 3 ∨ d = 4) with rfl | rfl | rfl | rfl
  · exact key 1 4 10 rfl (by omega) (by omega) rfl hT.c1 (hpow _ _ (.inr (by decide)) (by decide)) (by omega)
  · exact key 2 7 100 rfl (by omega) (by omega) rfl hT.c2 (hpow _ _ (.inr (by decide)) (by decide)) (by omega)
  · exact key 3 10 1000 rfl (by omega) (by omega) rfl hT.c3 (hpow _ _ (.inr (by decide)) (by decide)) (by omega)
  · exact key 4 14 10000 rfl (by omega) (by omega) rfl hT.c4 (hpow _ _ (.inr (by decide)) (by decide)) (by omega)
theorem spnew_bad (d : Int) (w : World) (h : d < 1 ∨ 4 < d) :
    Calls Tryz.prog 31 #[.int .i64 d] w fun e w' => e = .returned (.tuple #[.pointer none, .int .i64 1]) ∧ w = w' := by
  by_cases h1 : d < 1
  · clear h
    go_enter Tryz.func31, Tryz.ntmps31
    go_wp2
    go_ret2
    exact ⟨rfl, rfl⟩
  · have h2 : 4 < d := by omega
    clear h
    go_enter Tryz.func31, Tryz.ntmps31
    go_wp2
    go_ret2
    exact ⟨rfl, rfl⟩
/-- By how many bits a magnitude is cut. -/
theorem spshift_any (b m : Nat) (d : Int) (w : World) (h : SpanAt w b d) (hm : 0 < m) (hm' : m ≤ 9223372036854775808) :
    Calls Tryz.prog 135 #[.pointer (some ⟨b, 0, none⟩), .int .u64 m] w fun e w' => e = .returned (.int .i64 (kN (gOf d) m : Nat)) ∧ w = w' := by
  have HL := Lib.hid (log_nat m w hm hm')
  have f1 := h.at'.two
  have l1 := h.at'.lt
  have hl := log2_le63 hm hm'
  have hg := gOf_le d
  have HK : Hid ((kN (gOf d) m : Int) = max ((Nat.log2 m : Int) - gOf d) 0) := by show _ = _; unfold kN; omega
  obtain ⟨lg, hlg⟩ : ∃ l, Nat.log2 m = l := ⟨_, rfl⟩
  obtain ⟨g, hgg⟩ : ∃ g, gOf d = g := ⟨_, rfl⟩
  rw [hlg] at HL HK hl
  rw [hgg] at f1 HK hg ⊢
  have v1 : IntKind.i64.wrap ((lg : Int) - g) = (lg : Int) - g := by simp only [IntKind.wrap_i64]; omega
  rw [HK.out]
  clear h hm hm' hlg hgg hl hg
  go_enter Tryz.func135, Tryz.ntmps135
  go_wp2_with fail
  refine HL.out.mono ?_
  rintro e w1 ⟨rfl, rfl⟩
  go_wp2
  go_ret
  exact ⟨by first | rfl | simp, rfl⟩
set_option maxHeartbeats 1000000 in
theorem spindex_any (b m : Nat) (d : Int) (w : World) (h : SpanAt w b d) (hm : 0 < m) (hm' : m ≤ 9223372036854775808) :
    Calls Tryz.prog 133 #[.pointer (some ⟨b, 0, none⟩), .int .u64 m] w fun e w' => e = .returned (.tuple #[.int .i64 (idxN (gOf d) m : Nat), .bool true]) ∧ Below w.heap.size w w' := by
  have HS := Lib.hid (spshift_any b m d w h hm hm')
  have f1 := h.at'.two
  have l1 := h.at'.lt
  have hg := gOf_le d
  have HI : Hid (idxN (gOf d) m = kN (gOf d) m * 2 ^ gOf d + m / 2 ^ kN (gOf d) m) := rfl
  have hk : kN (gOf d) m ≤ 59 := by have := log2_le63 hm hm'; have := gOf_ge d; unfold kN; omega
  obtain ⟨g, hgg⟩ : ∃ g, gOf d = g := ⟨_, rfl⟩
  rw [hgg] at f1 HI HS hg hk ⊢
  obtain ⟨k, hkk⟩ : ∃ k, kN g m = k := ⟨_, rfl⟩
  rw [hkk] at HI HS hk
  have n0 : ((m : Int) == 0) = false := beq_eq_false_iff_ne.2 (by omega)
  have n1 : decide ((9223372036854775808 : Int) < m) = false := decide_eq_false (by omega)
  have k0 : (0 : Int) ≤ k := by omega
  have k1 : (k : Int) < 64 := by omega
  have k2 : (0 : Int) ≤ g := by omega
  have k3 : (g : Int) < 64 := by omega
  have HF : Hid (wrap64 (wrap64 ((k : Int) * 2 ^ g) + wrap64 ((m : Int) / 2 ^ k)) = ((k * 2 ^ g + m / 2 ^ k : Nat) : Int)) := by
    have e1 : (k : Int) * 2 ^ g = ((k * 2 ^ g : Nat) : Int) := by rw [Int.natCast_mul, Int.natCast_pow]; rfl
    have e2 : (m : Int) / 2 ^ k = ((m / 2 ^ k : Nat) : Int) := by rw [Int.natCast_ediv, Int.natCast_pow]; rfl
    have b1 : k * 2 ^ g ≤ 59 * 16384 := Nat.mul_le_mul hk (pow14 hg)
    have b2 : m / 2 ^ k ≤ 9223372036854775808 := Nat.le_trans (Nat.div_le_self _ _) hm'
    have b3 : m / 2 ^ k < 32768 := by
      have := qN_lt (g := g) hm
      unfold qN at this
      rw [hkk, two_pow_succ] at this
      have := pow14 hg
      omega
    show _ = _
    rw [e1, e2]
    exact wrap_sum _ _ b1 b3
  rw [HI.out]
  clear h hkk hgg hm hm' hk hg
  go_enter Tryz.func133, Tryz.ntmps133
  go_wp2_with fail
  refine HS.out.mono ?_
  rintro e w1 ⟨rfl, rfl⟩
  go_wp2
  go_quiet (fail)
  go_wp2
  go_ret2
  exact ⟨by rw [HF.out]; rfl, (Below.refl _ _).drewN _⟩
/-- A span's least and greatest magnitude, and what stands for it. -/
def loI (g i : Nat) : Nat := qI g i * 2 ^ kI g i
def hiI (g i : Nat) : Nat := min (loI g i + (2 ^ kI g i - 1)) 9223372036854775808
def repI (g i : Nat) : Nat := loI g i + (hiI g i - loI g i) / 2
theorem loI_idx {g m : Nat} (hm : 0 < m) : loI g (idxN g m) = loN g m := by
  have h1 : kI g (idxN g m) = kN g m := idx_div hm
  unfold loI qI
  rw [h1, idx_rest]
  rfl
theorem hiI_idx {g m : Nat} (hm : 0 < m) : hiI g (idxN g m) = hiN g m := by
  have h1 : kI g (idxN g m) = kN g m := idx_div hm
  unfold hiI hiN
  rw [loI_idx hm, h1]
theorem kI_le {g i : Nat} (hg : g ≤ 63) (hi : i ≤ (64 - g) * 2 ^ g) : kI g i ≤ 63 - g := by
  have hd : i / 2 ^ g ≤ 64 - g := Nat.div_le_of_le_mul (by rw [Nat.mul_comm]; exact hi)
  unfold kI
  omega
theorem lastI {g : Nat} (hg : g ≤ 14) : (64 - g) * 2 ^ g ≤ 64 * 16384 := Nat.mul_le_mul (by omega) (pow14 hg)
set_option maxHeartbeats 1000000 in
theorem spparts_any (b i : Nat) (d : Int) (w : World) (h : SpanAt w b d) (hi : 0 < i) (hi' : i ≤ (64 - gOf d) * 2 ^ gOf d) :
    Calls Tryz.prog 138 #[.pointer (some ⟨b, 0, none⟩), .int .i64 i] w fun e w' => e = .returned (.tuple #[.int .i64 (kI (gOf d) i : Nat), .int .u64 (qI (gOf d) i : Nat), .bool true]) ∧ Below w.heap.size w w' := by
  have HX := Lib.hid (spindex_any b 9223372036854775808 d w h (by omega) (Nat.le_refl _))
  have s1 := h.at'
  have hg := gOf_le d
  have hg4 := gOf_ge d
  have hlast := lastI hg
  rw [idx_top (by omega)] at HX
  obtain ⟨g, hgg⟩ : ∃ g, gOf d = g := ⟨_, rfl⟩
  rw [hgg] at s1 HX hg hg4 hi' hlast ⊢
  have hki := kI_le (by omega) hi'
  have hkm := kI_mul g i
  have HKI : Hid (kI g i = i / 2 ^ g - 1 ∧ qI g i = i - kI g i * 2 ^ g) := ⟨rfl, rfl⟩
  have HK2 : Hid (max (wrap64 (((i : Int) / 2 ^ g) - 1)) 0 = (kI g i : Int)) := by
    have e2 : (i : Int) / 2 ^ g = ((i / 2 ^ g : Nat) : Int) := by rw [Int.natCast_ediv, Int.natCast_pow]; rfl
    have b2 : i / 2 ^ g ≤ i := Nat.div_le_self _ _
    have e3 := HKI.out.1
    obtain ⟨z, hz⟩ : ∃ z, i / 2 ^ g = z := ⟨_, rfl⟩
    rw [hz] at e2 b2 e3
    show _ = _
    rw [e2]
    unfold wrap64
    omega
  obtain ⟨last, hla⟩ : ∃ l, (64 - g) * 2 ^ g = l := ⟨_, rfl⟩
  rw [hla] at HX hi' hlast
  obtain ⟨k, hkk⟩ : ∃ k, kI g i = k := ⟨_, rfl⟩
  rw [hkk] at HK2 hki hkm HKI ⊢
  have HF : Hid (IntKind.u64.wrap (wrap64 ((i : Int) - wrap64 ((k : Int) * 2 ^ g))) = (qI g i : Int)) := by
    have e1 : (k : Int) * 2 ^ g = ((k * 2 ^ g : Nat) : Int) := by rw [Int.natCast_mul, Int.natCast_pow]; rfl
    have e3 := HKI.out.2
    obtain ⟨z, hz⟩ : ∃ z, k * 2 ^ g = z := ⟨_, rfl⟩
    rw [hz] at e1 e3 hkm
    show _ = _
    rw [e1, e3]
    exact wrap_rest i z hkm (by omega)
  have n0 : decide ((i : Int) < 1) = false := decide_eq_false (by omega)
  have n1 : decide ((last : Int) < i) = false := decide_eq_false (by omega)
  have n1' : decide (last < i) = false := decide_eq_false (by omega)
  have k0 : (0 : Int) ≤ k := by omega
  have k1 : (k : Int) < 64 := by omega
  have k2 : (0 : Int) ≤ g := by omega
  have k3 : (g : Int) < 64 := by omega
  clear h hkk hgg hi hi' hki hkm hg hg4 hlast hla HKI
  go_enter Tryz.func138, Tryz.ntmps138
  go_wp2_with fail
  refine HX.out.mono ?_
  rintro e w1 ⟨rfl, hb⟩
  replace s1 := s1.below hb
  have f1 := s1.two
  have l1 := s1.lt
  clear HX
  go_wp2
  go_quiet (fail)
  go_wp2
  go_ret3
  exact ⟨by simp only [HK2.out, HF.out]; rfl, hb.drewN _⟩
set_option maxHeartbeats 1000000 in
theorem spparts_bad (b : Nat) (i d : Int) (w : World) (h : SpanAt w b d) (hi : i < 1 ∨ ((64 - gOf d) * 2 ^ gOf d : Nat) < i) :
    Calls Tryz.prog 138 #[.pointer (some ⟨b, 0, none⟩), .int .i64 i] w fun e w' => e = .returned (.tuple #[.int .i64 0, .int .u64 0, .bool false]) ∧ Below w.heap.size w w' := by
  have HX := Lib.hid (spindex_any b 9223372036854775808 d w h (by omega) (Nat.le_refl _))
  rw [idx_top (by have := gOf_le d; omega)] at HX
  obtain ⟨last, hla⟩ : ∃ l, (64 - gOf d) * 2 ^ gOf d = l := ⟨_, rfl⟩
  rw [hla] at HX hi
  clear hla h
  rcases hi with hi | hi
  · have n0 : decide (i < 1) = true := decide_eq_true hi
    clear hi
    go_enter Tryz.func138, Tryz.ntmps138
    go_wp2_with fail
    refine HX.out.mono ?_
    rintro e w1 ⟨rfl, hb⟩
    clear HX
    go_wp2
    go_ret3
    exact ⟨rfl, hb⟩
  · have n0 : decide (i < 1) = false := decide_eq_false (by omega)
    have n1 : decide ((last : Int) < i) = true := decide_eq_true hi
    clear hi
    go_enter Tryz.func138, Tryz.ntmps138
    go_wp2_with fail
    refine HX.out.mono ?_
    rintro e w1 ⟨rfl, hb⟩
    clear HX
    go_wp2
    go_ret3
    exact ⟨rfl, hb⟩
theorem wrap_low (z : Nat) (h : z ≤ 9223372036854775808) : IntKind.u64.wrap (z : Int) = (z : Int) := by simp only [IntKind.wrap_u64]; omega
theorem wrap_high (z p : Nat) (h : z ≤ 9223372036854775808) (h0 : 0 < p) (hp : p ≤ 9223372036854775808) : IntKind.u64.wrap ((z : Int) + IntKind.u64.wrap (IntKind.u64.wrap (p : Int) - 1)) = ((z + (p - 1) : Nat) : Int) := by simp only [IntKind.wrap_u64]; omega
set_option maxHeartbeats 1000000 in
theorem sprange_any (b i : Nat) (d : Int) (w : World) (h : SpanAt w b d) (hi : 0 < i) (hi' : i ≤ (64 - gOf d) * 2 ^ gOf d) :
    Calls Tryz.prog 136 #[.pointer (some ⟨b, 0, none⟩), .int .i64 i] w fun e w' => e = .returned (.tuple #[.int .u64 (loI (gOf d) i : Nat), .int .u64 (hiI (gOf d) i : Nat)]) ∧ Below w.heap.size w w' := by
  have HX := Lib.hid (spparts_any b i d w h hi hi')
  have hg := gOf_le d
  have hg4 := gOf_ge d
  obtain ⟨g, hgg⟩ : ∃ g, gOf d = g := ⟨_, rfl⟩
  rw [hgg] at HX hg hg4 hi' ⊢
  have hki := kI_le (by omega) hi'
  have hlo := (idx_of (by omega : g ≤ 63) hi hi').2.1
  have HLO : Hid (loI g i = qI g i * 2 ^ kI g i ∧ hiI g i = min (loI g i + (2 ^ kI g i - 1)) 9223372036854775808) := ⟨rfl, rfl⟩
  obtain ⟨k, hkk⟩ : ∃ k, kI g i = k := ⟨_, rfl⟩
  obtain ⟨q, hqq⟩ : ∃ k, qI g i = k := ⟨_, rfl⟩
  rw [hkk, hqq] at HX HLO hlo
  rw [hkk] at hki
  have h2k : 2 ^ k ≤ 2 ^ 59 := Nat.pow_le_pow_right (by omega) (by omega)
  have h2p : 0 < 2 ^ k := Nat.pow_pos (by omega)
  have HV1 : Hid (IntKind.u64.wrap ((q : Int) * 2 ^ k) = ((loI g i : Nat) : Int)) := by
    have e1 : (q : Int) * 2 ^ k = ((q * 2 ^ k : Nat) : Int) := by rw [Int.natCast_mul, Int.natCast_pow]; rfl
    show _ = _
    rw [e1, HLO.out.1]
    exact wrap_low _ hlo
  have HV2 : Hid (min (IntKind.u64.wrap (((loI g i : Nat) : Int) + IntKind.u64.wrap (IntKind.u64.wrap ((2 : Int) ^ k) - 1))) 9223372036854775808 = ((hiI g i : Nat) : Int)) := by
    have e1 : (2 : Int) ^ k = ((2 ^ k : Nat) : Int) := by rw [Int.natCast_pow]; rfl
    show _ = _
    rw [e1, wrap_high _ _ (by rw [HLO.out.1]; exact hlo) h2p (Nat.le_trans h2k (by decide)), HLO.out.2]
    omega
  have k0 : (0 : Int) ≤ k := by omega
  have k1 : (k : Int) < 64 := by omega
  clear h hkk hgg hi hi' hki hg hg4 hlo hqq h2k h2p
  go_enter Tryz.func136, Tryz.ntmps136
  go_wp2_with fail
  refine HX.out.mono ?_
  rintro e w1 ⟨rfl, hb⟩
  clear HX
  go_wp2
  go_quiet (fail)
  go_wp2
  go_ret2
  exact ⟨by simp only [HV1.out, HV2.out]; rfl, hb.drewN _⟩
theorem sprange_bad (b : Nat) (i d : Int) (w : World) (h : SpanAt w b d) (hi : i < 1 ∨ ((64 - gOf d) * 2 ^ gOf d : Nat) < i) :
    Calls Tryz.prog 136 #[.pointer (some ⟨b, 0, none⟩), .int .i64 i] w fun e w' => e = .returned (.tuple #[.int .u64 0, .int .u64 0]) ∧ Below w.heap.size w w' := by
  have HX := Lib.hid (spparts_bad b i d w h hi)
  clear h hi
  go_enter Tryz.func136, Tryz.ntmps136
  go_wp2_with fail
  refine HX.out.mono ?_
  rintro e w1 ⟨rfl, hb⟩
  clear HX
  go_wp2
  go_ret2
  exact ⟨rfl, hb⟩
theorem hiI_le {g i : Nat} (hg : g ≤ 63) (hi : 0 < i) (hi' : i ≤ (64 - g) * 2 ^ g) : loI g i ≤ hiI g i ∧ hiI g i ≤ 9223372036854775808 := by
  have h1 := (idx_of hg hi hi').2.1
  have h2 : loI g i = qI g i * 2 ^ kI g i := rfl
  rw [← h2] at h1
  unfold hiI
  omega
theorem wrap_mid (lo hi : Nat) (h : lo ≤ hi) (h2 : hi ≤ 9223372036854775808) : IntKind.u64.wrap ((lo : Int) + IntKind.u64.wrap (((hi : Int) - lo).tdiv 2)) = ((lo + (hi - lo) / 2 : Nat) : Int) := by
  rw [Int.tdiv_eq_ediv_of_nonneg (by omega)]; simp only [IntKind.wrap_u64]; omega
theorem sprep_any (b i : Nat) (d : Int) (w : World) (h : SpanAt w b d) (hi : 0 < i) (hi' : i ≤ (64 - gOf d) * 2 ^ gOf d) :
    Calls Tryz.prog 134 #[.pointer (some ⟨b, 0, none⟩), .int .i64 i] w fun e w' => e = .returned (.int .u64 (repI (gOf d) i : Nat)) ∧ Below w.heap.size w w' := by
  have HX := Lib.hid (sprange_any b i d w h hi hi')
  have hg := gOf_le d
  have hb := hiI_le (g := gOf d) (by omega) hi hi'
  have HR : Hid (repI (gOf d) i = loI (gOf d) i + (hiI (gOf d) i - loI (gOf d) i) / 2) := rfl
  obtain ⟨lo, hlo⟩ : ∃ l, loI (gOf d) i = l := ⟨_, rfl⟩
  obtain ⟨hi2, hhi⟩ : ∃ l, hiI (gOf d) i = l := ⟨_, rfl⟩
  rw [hlo, hhi] at HX hb HR
  rw [HR.out]
  have v1 : IntKind.u64.wrap ((hi2 : Int) - lo) = (hi2 : Int) - lo := by simp only [IntKind.wrap_u64]; omega
  have HM := Lib.hid (wrap_mid lo hi2 hb.1 hb.2)
  clear h hi hi' hg hb hlo hhi
  go_enter Tryz.func134, Tryz.ntmps134
  go_wp2_with fail
  refine HX.out.mono ?_
  rintro e w1 ⟨rfl, hb⟩
  clear HX
  go_wp2
  go_ret
  exact ⟨by rw [HM.out]; rfl, hb⟩
theorem sprep_bad (b : Nat) (i d : Int) (w : World) (h : SpanAt w b d) (hi : i < 1 ∨ ((64 - gOf d) * 2 ^ gOf d : Nat) < i) :
    Calls Tryz.prog 134 #[.pointer (some ⟨b, 0, none⟩), .int .i64 i] w fun e w' => e = .returned (.int .u64 0) ∧ Below w.heap.size w w' := by
  have HX := Lib.hid (sprange_bad b i d w h hi)
  clear h hi
  go_enter Tryz.func134, Tryz.ntmps134
  go_wp2_with fail
  refine HX.out.mono ?_
  rintro e w1 ⟨rfl, hb⟩
  clear HX
  go_wp2
  go_ret
  exact ⟨by first | rfl | simp, hb⟩
theorem spindex_zero (b : Nat) (w : World) :
    Calls Tryz.prog 133 #[.pointer (some ⟨b, 0, none⟩), .int .u64 0] w fun e w' => e = .returned (.tuple #[.int .i64 0, .bool false]) ∧ Below w.heap.size w w' := by
  go_enter Tryz.func133, Tryz.ntmps133
  go_wp2
  go_ret2
  exact ⟨rfl, Below.refl _ _⟩
end Go.Proofs.YtplfiheejecjiaaGreatDoor
