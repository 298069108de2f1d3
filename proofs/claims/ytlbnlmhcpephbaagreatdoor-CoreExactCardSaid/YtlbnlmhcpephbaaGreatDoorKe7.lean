/- Texts of this claim, joined, indents halved: WideAll, RefOne, CellsAll, SignZ. -/
import Derived.Test.YtlbnlmhcpephbaaGreatDoorProg
import Derived.WalkKit
import Derived.Lib.BitFns
import Derived.Lib.ItoaNum
import Derived.Deep.DeepCutAuto
import Derived.Maps.AppendAt
import Derived.OwnWalk
import Derived.Below
import Derived.Test.YtlbnlmhcpephbaaGreatDoorKe6
namespace Go.Proofs.YtlbnlmhcpephbaaGreatDoor
open Go.RowKit
theorem times_any (a b : Int) (w : World) (ha : 0 ≤ a) (ha' : a < 18446744073709551616) (hb : 0 ≤ b) (hb' : b < 18446744073709551616) :
  Calls Tryz.prog 122 #[.int .u64 a, .int .u64 b] w (RetW w (a * b)) := by
 obtain ⟨a, rfl⟩ := Int.eq_ofNat_of_zero_le ha
 obtain ⟨b, rfl⟩ := Int.eq_ofNat_of_zero_le hb
 go_enter Tryz.func122, Tryz.ntmps122
 go_wp2_with fail
 refine (Tryz.bits_Mul64 a b (by omega) (by omega) _).mono ?_
 rintro e w' ⟨rfl, rfl⟩
 go_wp2
 refine bodyPost_ret (by simp [results, Tryz.results122, go_sem]; rfl) rfl ?_
 have hle : a * b < 18446744073709551616 * 18446744073709551616 := Nat.mul_lt_mul'' (by omega) (by omega)
 have hc : ((a * b : Nat) : Int) = (a : Int) * b := by simp
 refine ⟨((a * b / 18446744073709551616 : Nat) : Int), ((a * b % 18446744073709551616 : Nat) : Int), by omega, by omega, by omega, by omega, by omega, by simp, (Below.refl _ _).alloc (Nat.le_refl _) _⟩
end Go.Proofs.YtlbnlmhcpephbaaGreatDoor
namespace Go.Proofs.YtlbnlmhcpephbaaGreatDoor
namespace DivM
theorem test_iff (q r y1 y0 u d : Int) (hu : u = q * y1 + r) :
  (r * 4294967296 + d < q * y0) ↔ (u * 4294967296 + d < q * (y1 * 4294967296 + y0)) := by
 have e : q * (y1 * 4294967296 + y0) = (q * y1) * 4294967296 + q * y0 := by rw [Int.mul_add, Int.mul_assoc]
 rw [e]; omega
theorem mul_le (a b c : Int) (h : a ≤ b) (hc : 0 ≤ c) : a * c ≤ b * c := Int.mul_le_mul_of_nonneg_right h hc
theorem start_ge (y1 y0 u d v t : Int) (hv : v = y1 * 4294967296 + y0) (hy1 : 2147483648 ≤ y1) (hy0 : 0 ≤ y0) (hd : d < 4294967296) (hu : 0 ≤ u) (ht : t * v ≤ u * 4294967296 + d) : t ≤ u / y1 := by
 have h1 : u < (u / y1 + 1) * y1 := by
  have := Int.lt_ediv_add_one_mul_self u (show 0 < y1 by omega); exact this
 rcases Int.lt_or_le (u / y1) t with h | h
 ·exfalso
  have h2 : (u / y1 + 1) * y1 ≤ t * y1 := mul_le _ _ _ (by omega) (by omega)
  have h3 : t * v = (t * y1) * 4294967296 + t * y0 := by rw [hv, Int.mul_add, Int.mul_assoc]
  have h4 : 0 ≤ u / y1 := Int.ediv_nonneg hu (by omega)
  have h5 : 0 ≤ t * y0 := Int.mul_nonneg (by omega) hy0
  omega
 ·exact h
theorem start_le (y1 y0 u v : Int) (hv : v = y1 * 4294967296 + y0) (hy1 : 2147483648 ≤ y1) (hy0 : y0 < 4294967296) (hu0 : 0 ≤ u) (hu : u < v) : u / y1 ≤ 4294967297 := by
 have h1 : u / y1 * y1 ≤ u := Int.ediv_mul_le u (by omega)
 rcases Int.lt_or_le 4294967297 (u / y1) with h | h
 ·exfalso
  have h2 : 4294967298 * y1 ≤ u / y1 * y1 := mul_le _ _ _ (by omega) (by omega)
  omega
 ·exact h
theorem start_r (y1 u : Int) (hy1 : 0 < y1) : 0 ≤ u - u / y1 * y1 ∧ u - u / y1 * y1 < y1 := by
 have h1 : u / y1 * y1 ≤ u := Int.ediv_mul_le u (by omega)
 have h2 := Int.lt_ediv_add_one_mul_self u hy1
 rw [Int.add_mul] at h2
 omega
theorem digit_eq (q v T : Int) (hv : 0 < v) (h1 : T / v ≤ q) (h2 : q * v ≤ T) : q = T / v := by
 have : q ≤ T / v := Int.le_ediv_of_mul_le hv h2
 omega
theorem true_lt (y1 y0 u d v t : Int) (hv : v = y1 * 4294967296 + y0) (hu : u < v) (hd : d < 4294967296) (hv0 : 0 < v) (ht : (u * 4294967296 + d) / v = t) : t ≤ 4294967295 := by
 have : (u * 4294967296 + d) / v < 4294967296 := Int.ediv_lt_of_lt_mul hv0 (by omega)
 omega
theorem ge_of_lt (q v T : Int) (hv : 0 < v) (h : T < q * v) : T / v ≤ q - 1 := by
 have := Int.ediv_lt_of_lt_mul hv h
 omega
theorem uniq (a b q r : Int) (h : a = q * b + r) (h0 : 0 ≤ r) (h1 : r < b) : a / b = q ∧ a % b = r := by
 have hb : 0 < b := by omega
 have := (Int.ediv_emod_unique (a := a) (r := r) (q := q) hb).2 ⟨by rw [h, Int.mul_comm b q]; omega, h0, h1⟩
 exact this
theorem join (u z d1 d0 v q1 u21 q0 r : Int) (hz : z = d1 * 4294967296 + d0) (h1 : u * 4294967296 + d1 = q1 * v + u21) (h2 : u21 * 4294967296 + d0 = q0 * v + r) (hr0 : 0 ≤ r) (hr1 : r < v) :
  (u * 18446744073709551616 + z) / v = q1 * 4294967296 + q0 ∧ (u * 18446744073709551616 + z) % v = r := by
 refine uniq _ _ _ _ ?_ hr0 hr1
 rw [Int.add_mul, show q1 * 4294967296 * v = (q1 * v) * 4294967296 by rw [Int.mul_assoc, Int.mul_comm 4294967296 v, ← Int.mul_assoc]]
 omega
theorem mask (x : Int) (h0 : 0 ≤ x) (h1 : x < 18446744073709551616) : bits .and .u64 x 4294967295 = x % 4294967296 := by
 obtain ⟨n, rfl⟩ := Int.eq_ofNat_of_zero_le h0
 have := bits_and_u64_nat n 4294967295 (by omega) (by omega)
 rw [show ((4294967295 : Nat) : Int) = 4294967295 from rfl] at this
 rw [this, show n &&& 4294967295 = n % 4294967296 from Nat.and_two_pow_sub_one_eq_mod n 32]
 simp
theorem brk (q r y1 y0 u d v t : Int) (hv : v = y1 * 4294967296 + y0) (hy1 : 2147483648 ≤ y1) (hy0 : 0 ≤ y0) (hy02 : y0 < 4294967296) (hd : 0 ≤ d) (hu : u = q * y1 + r) (hr : 4294967296 ≤ r) (h1 : t ≤ q) (h2 : q ≤ 4294967296)
  (ht : (u * 4294967296 + d) / v = t) : q = t := by
 have h3 := test_iff q r y1 y0 u d hu
 rw [← hv] at h3
 have h4 := mul_le q 4294967296 y0 h2 hy0
 rw [← ht] at h1
 have h5 := digit_eq q v _ (by omega) h1 (by
  rcases Int.lt_or_le (u * 4294967296 + d) (q * v) with h | h
  ·have := h3.2 h; omega
  ·exact h)
 rw [h5, ht]
theorem norm_nat (hi lo y s : Nat) (hs : s ≤ 63) (hlo : lo < 18446744073709551616) (hy : hi < y) (hv : y * 2 ^ s < 18446744073709551616) :
  hi * 2 ^ s < 18446744073709551616 ∧
  ((hi * 2 ^ s) ||| (lo / 2 ^ (64 - s))) * 18446744073709551616 + (lo * 2 ^ s) % 18446744073709551616 = (hi * 18446744073709551616 + lo) * 2 ^ s ∧
  ((hi * 2 ^ s) ||| (lo / 2 ^ (64 - s))) < y * 2 ^ s ∧ lo / 2 ^ (64 - s) < 18446744073709551616 := by
 have hP : 0 < 2 ^ s := Nat.two_pow_pos s
 have hR : 0 < 2 ^ (64 - s) := Nat.two_pow_pos _
 have hPR : 2 ^ s * 2 ^ (64 - s) = 18446744073709551616 := by rw [← Nat.pow_add, show s + (64 - s) = 64 by omega]
 have hq : lo / 2 ^ (64 - s) < 2 ^ s := by rw [Nat.div_lt_iff_lt_mul hR, hPR]; exact hlo
 have hor : (hi * 2 ^ s) ||| (lo / 2 ^ (64 - s)) = hi * 2 ^ s + lo / 2 ^ (64 - s) := by
  rw [Nat.mul_comm]
  exact (Nat.two_pow_add_eq_or_of_lt hq hi).symm
 have hdiv : lo * 2 ^ s / 18446744073709551616 = lo / 2 ^ (64 - s) := by
  rw [← hPR, Nat.mul_comm lo, Nat.mul_div_mul_left _ _ hP]
 have hmod := Nat.div_add_mod (lo * 2 ^ s) 18446744073709551616
 rw [hdiv] at hmod
 have hle : (hi + 1) * 2 ^ s ≤ y * 2 ^ s := Nat.mul_le_mul_right _ hy
 rw [Nat.add_mul, Nat.one_mul] at hle
 have hd2 : lo / 2 ^ (64 - s) ≤ lo := Nat.div_le_self _ _
 have e : (hi * 18446744073709551616 + lo) * 2 ^ s = (hi * 2 ^ s) * 18446744073709551616 + lo * 2 ^ s := by rw [Nat.add_mul, Nat.mul_right_comm]
 rw [hor, e]
 generalize hi * 2 ^ s = A at *
 refine ⟨by omega, by omega, by omega, by omega⟩
theorem shift_back (N y P v U Q Y : Int) (hU : U = N * P) (hv : v = y * P) {s : Int} (hP : P = 2 ^ s.toNat) (hq : U / v = Q) (hr : U % v = Y) : N / y = Q ∧ N % y = Y / 2 ^ s.toNat := by
 have hP0 : 0 < P := by rw [hP]; exact Int.pow_pos (by omega)
 subst hU hv
 rw [Int.mul_ediv_mul_of_pos_left _ _ hP0] at hq
 rw [Int.mul_comm N P, Int.mul_comm y P, Int.mul_emod_mul_of_pos _ _ hP0] at hr
 refine ⟨hq, ?_⟩
 rw [← hr, ← hP, Int.mul_ediv_cancel_left _ (by omega)]
theorem wrap_u64_of {x : Int} (h0 : 0 ≤ x) (h1 : x < 18446744073709551616) : IntKind.u64.wrap x = x := by
 rw [IntKind.wrap_u64]; omega
theorem norm (hi lo y : Int) (h1 : 0 ≤ lo) (h2 : lo < 18446744073709551616) (h3 : 0 < hi) (h5 : hi < y) (h4 : y < 18446744073709551616) :
  ∃ s v u z P : Int, 0 ≤ s ∧ s ≤ 63 ∧ s = 64 - (Lib.bitLen y.toNat : Int) ∧ IntKind.u64.wrap (y * 2 ^ s.toNat) = v ∧ 9223372036854775808 ≤ v ∧ v < 18446744073709551616 ∧
   bits .or .u64 (IntKind.u64.wrap (hi * 2 ^ s.toNat)) (lo / 2 ^ (64 - s).toNat) = u ∧ 0 ≤ u ∧ u < v ∧ IntKind.u64.wrap (lo * 2 ^ s.toNat) = z ∧ 0 ≤ z ∧ z < 18446744073709551616 ∧
   u * 18446744073709551616 + z = (hi * 18446744073709551616 + lo) * P ∧ v = y * P ∧ 0 < P ∧ P = 2 ^ s.toNat := by
 obtain ⟨hi, rfl⟩ := Int.eq_ofNat_of_zero_le (show 0 ≤ hi by omega)
 obtain ⟨lo, rfl⟩ := Int.eq_ofNat_of_zero_le h1
 obtain ⟨y, rfl⟩ := Int.eq_ofNat_of_zero_le (show 0 ≤ y by omega)
 have hb := Lib.bitLenAux_bounds 64 y (by simpa using (show y < 18446744073709551616 by omega)) (by omega)
 have hl : Lib.bitLen y ≤ 64 := Lib.bitLen_le y 64 (by omega) (by simpa using (show y < 18446744073709551616 by omega))
 change 1 ≤ Lib.bitLen y ∧ 2 ^ (Lib.bitLen y - 1) ≤ y ∧ y < 2 ^ Lib.bitLen y at hb
 obtain ⟨hb1, hb2, hb3⟩ := hb
 obtain ⟨s, hs⟩ : ∃ s : Nat, s = 64 - Lib.bitLen y := ⟨_, rfl⟩
 have hvlo : 9223372036854775808 ≤ y * 2 ^ s := by
  have : 2 ^ (Lib.bitLen y - 1) * 2 ^ s ≤ y * 2 ^ s := Nat.mul_le_mul_right _ hb2
  rw [← Nat.pow_add, show Lib.bitLen y - 1 + s = 63 by omega] at this
  exact this
 have hvhi : y * 2 ^ s < 18446744073709551616 := by
  have : y * 2 ^ s < 2 ^ Lib.bitLen y * 2 ^ s := Nat.mul_lt_mul_of_pos_right hb3 (Nat.two_pow_pos _)
  rw [← Nat.pow_add, show Lib.bitLen y + s = 64 by omega] at this
  exact this
 obtain ⟨n1, n2, n3, n4⟩ := norm_nat hi lo y s (by omega) (by omega) (by omega) hvhi
 have ec : ((2 ^ s : Nat) : Int) = 2 ^ s := by simp
 have e1 : (y : Int) * 2 ^ ((s : Int)).toNat = ((y * 2 ^ s : Nat) : Int) := by simp
 have e2 : (hi : Int) * 2 ^ ((s : Int)).toNat = ((hi * 2 ^ s : Nat) : Int) := by simp
 have e3 : (lo : Int) * 2 ^ ((s : Int)).toNat = ((lo * 2 ^ s : Nat) : Int) := by simp
 have e4 : (lo : Int) / 2 ^ (64 - (s : Int)).toNat = ((lo / 2 ^ (64 - s) : Nat) : Int) := by
  rw [show (64 - (s : Int)).toNat = 64 - s by omega]; simp
 refine ⟨s, ((y * 2 ^ s : Nat) : Int), (((hi * 2 ^ s) ||| (lo / 2 ^ (64 - s)) : Nat) : Int), ((lo * 2 ^ s % 18446744073709551616 : Nat) : Int), ((2 ^ s : Nat) : Int), by omega, by omega, by simp; omega, ?_, by omega, by omega, ?_, by omega, by omega, ?_, by omega, by omega, ?_, by simp, by have := Nat.two_pow_pos s; omega, by simp⟩
 ·rw [e1]; exact wrap_u64_of (by omega) (by omega)
 ·rw [e2, e4, wrap_u64_of (by omega) (by omega), bits_or_u64_nat _ _ n1 n4]
 ·rw [e3, IntKind.wrap_u64]; simp
 ·have := congrArg (fun n : Nat => (n : Int)) n2
  simpa using this
end DivM
end Go.Proofs.YtlbnlmhcpephbaaGreatDoor
namespace Go.Proofs.YtlbnlmhcpephbaaGreatDoor
open Go.RowKit
theorem div64_zero (lo y : Int) (w : World) (h1 : 0 ≤ lo) (h2 : lo < 18446744073709551616) (h3 : 0 < y) (h4 : y < 18446744073709551616) :
  Calls Tryz.prog 129 #[.int .u64 0, .int .u64 lo, .int .u64 y] w fun e w' => e = .returned (.tuple #[.int .u64 (lo / y), .int .u64 (lo % y)]) ∧ Below w.heap.size w w' := by
 have hq : 0 ≤ lo / y := Int.ediv_nonneg h1 (by omega)
 have hq2 : lo / y < 18446744073709551616 := by
  have := Int.ediv_le_self y h1
  omega
 have hr : 0 ≤ lo % y := Int.emod_nonneg _ (by omega)
 have hr2 : lo % y < 18446744073709551616 := by
  have := Int.emod_lt_of_pos lo h3
  omega
 go_enter Tryz.func129, Tryz.ntmps129
 go_wp2
 go_quiet (fail)
 go_wp2
 go_ret2
 exact ⟨rfl, (Below.refl _ _).drewN _⟩
theorem lz64_any (x : Int) (w : World) (h0 : 0 ≤ x) (h1 : x < 18446744073709551616) :
  Calls Tryz.prog 140 #[.int .u64 x] w fun e w' => e = .returned (.int .i64 (64 - (Lib.bitLen x.toNat : Int))) ∧ w = w' :=
 (Tryz.bits_LeadingZeros64 x w h0 (by omega)).mono fun _ _ h => ⟨h.1, h.2.symm⟩
set_option maxHeartbeats 1000000 in
theorem div64_big (hi lo y : Int) (w : World) (h1 : 0 ≤ lo) (h2 : lo < 18446744073709551616) (h3 : 0 < hi) (h5 : hi < y) (h4 : y < 18446744073709551616) :
  Calls Tryz.prog 129 #[.int .u64 hi, .int .u64 lo, .int .u64 y] w fun e w' => e = .returned (.tuple #[.int .u64 ((hi * 18446744073709551616 + lo) / y), .int .u64 ((hi * 18446744073709551616 + lo) % y)]) ∧ Below w.heap.size w w' := by
 obtain ⟨s, v, u, z, P, hs0, hs1, hs, hv, hv1, hv2, hu, hu1, hu2, hz, hz1, hz2, hUV, hvP, hP0, hP⟩ := DivM.norm hi lo y h1 h2 h3 h5 h4
 obtain ⟨y1, hy1, hy11, hy12⟩ : ∃ y1 : Int, v / 4294967296 = y1 ∧ 2147483648 ≤ y1 ∧ y1 < 4294967296 := ⟨_, rfl, by omega, by omega⟩
 obtain ⟨y0, hy0, hy01, hy02, HVY⟩ : ∃ y0 : Int, bits .and .u64 v 4294967295 = y0 ∧ 0 ≤ y0 ∧ y0 < 4294967296 ∧ Hid (v = y1 * 4294967296 + y0) := ⟨v % 4294967296, DivM.mask v (by omega) hv2, by omega, by omega, by show _ = _; omega⟩
 obtain ⟨d1, hd1, hd11, hd12⟩ : ∃ d1 : Int, z / 4294967296 = d1 ∧ 0 ≤ d1 ∧ d1 < 4294967296 := ⟨_, rfl, by omega, by omega⟩
 obtain ⟨d0, hd0, hd01, hd02, HZD⟩ : ∃ d0 : Int, bits .and .u64 z 4294967295 = d0 ∧ 0 ≤ d0 ∧ d0 < 4294967296 ∧ Hid (z = d1 * 4294967296 + d0) := ⟨z % 4294967296, DivM.mask z (by omega) hz2, by omega, by omega, by show _ = _; omega⟩
 obtain ⟨T, hT⟩ : ∃ T : Int, (u * 4294967296 + d1) / v = T := ⟨_, rfl⟩
 have HT := Lib.hid hT
 have HS := Lib.hid hs
 have HUV := Lib.hid hUV
 have HVP := Lib.hid hvP
 have HP := Lib.hid hP
 clear hs hUV hvP hP hT
 go_enter Tryz.func129, Tryz.ntmps129
 go_upto_block 0 with (go_at_call 140; refine (lz64_any _ _ (by omega) (by omega)).mono ?_; rintro e w' ⟨rfl, rfl⟩; rw [← HS.out])
 go_cut [15, 16] (fun a b wc => a = .int .u64 T ∧ w = wc)
 case first =>
  have hTv : T * v ≤ u * 4294967296 + d1 := by rw [← HT.out]; exact Int.ediv_mul_le _ (by omega)
  have g1 := DivM.start_ge y1 y0 u d1 v T HVY.out hy11 hy01 hd12 hu1 hTv
  have g2 := DivM.start_le y1 y0 u v HVY.out hy11 hy02 hu1 hu2
  have g3 := DivM.start_r y1 u (by omega)
  have g4 : 0 ≤ T := by rw [← HT.out]; exact Int.ediv_nonneg (by omega) (by omega)
  clear hTv
  obtain ⟨q, hq⟩ : ∃ q : Int, u / y1 = q := ⟨_, rfl⟩
  rw [hq] at g1 g2 g3
  obtain ⟨r, hr⟩ : ∃ r : Int, u - q * y1 = r := ⟨_, rfl⟩
  have b1 : 0 ≤ q * y1 := Int.mul_nonneg (by omega) (by omega)
  have b2 : q * y1 < 18446744073709551616 := by omega
  rw [hr] at g3
  have HR : Hid (u = q * y1 + r) := by show u = _; omega
  go_wp2
  go_loop [15, 16] (fun a b => ∃ q r : Int, a = .int .u64 q ∧ b = .int .u64 r ∧ T ≤ q ∧ q ≤ 4294967297 ∧ 0 ≤ r ∧ r < 4294967296 ∧ Hid (u = q * y1 + r)) (fun a _ => (intOf a).toNat)
  case atStart =>
   refine ⟨q, r, by rw [hq], ?_, by omega, by omega, by omega, by omega, HR⟩
   rw [hq, DivM.wrap_u64_of b1 b2, DivM.wrap_u64_of (by omega) (by omega), hr]
  case round =>
   clear hq hr b1 b2 g1 g2 g3 HR
   obtain ⟨q', r', rfl, rfl, g1, g2, g3, g3', HR⟩ := hrel
   have ht := DivM.test_iff q' r' y1 y0 u d1 HR.out
   rw [← HVY.out] at ht
   have HG : Hid (u * 4294967296 + d1 < q' * v → T ≤ q' - 1) := fun h => by rw [← HT.out]; exact DivM.ge_of_lt _ _ _ (by omega) h
   have HL : Hid (q' * v ≤ u * 4294967296 + d1 → q' = T) := fun h => by rw [← HT.out]; exact DivM.digit_eq _ _ _ (by omega) (by rw [HT.out]; exact g1) h
   have HSt : ∀ k : Int, k = r' + y1 → Hid (u = (q' - 1) * y1 + k) := fun k hk => by show u = _; have := HR.out; rw [Int.sub_mul]; omega
   have HB : Hid (T ≤ 4294967295) := DivM.true_lt y1 y0 u d1 v T HVY.out hu2 hd12 (by omega) HT.out
   have b1 : 0 ≤ q' * y0 := Int.mul_nonneg (by omega) (by omega)
   have BQ : Hid (q' ≤ 4294967296 → q' * y0 ≤ 4294967296 * 4294967295) := fun h => by
    have := DivM.mul_le q' 4294967296 y0 h hy01
    show _ ≤ _; omega
   have HK : Hid (q' ≤ 4294967297 → T ≤ q' - 1 → 4294967296 ≤ r' + y1 → q' - 1 = T) := fun k1 k2 k3 =>
    DivM.brk _ _ y1 y0 u d1 v T HVY.out hy11 hy01 hy02 hd11 (HSt _ rfl).out k3 k2 (by omega) HT.out
   by_cases hbig : 4294967296 ≤ q'
   ·have hk : T ≤ q' - 1 := by have := HB.out; omega
    by_cases hrr : 4294967296 ≤ r' + y1
    ·go_wp2
     go_meet
     exact ⟨by rw [HK.out g2 hk hrr], rfl⟩
    ·go_wp2
     go_round
     case rel => exact ⟨q' - 1, r' + y1, rfl, rfl, hk, by omega, by omega, by omega, HSt _ rfl⟩
     case measure => simp [intOf]; omega
   ·have b2 : q' * y0 < 18446744073709551616 := by have := BQ.out (by omega); omega
    by_cases hgo : r' * 4294967296 + d1 < q' * y0
    ·have hk := HG.out (ht.1 hgo)
     have hg2 : 4294967296 * r' + d1 < q' * y0 := by omega
     by_cases hrr : 4294967296 ≤ r' + y1
     ·go_wp2
      go_meet
      exact ⟨by rw [HK.out g2 hk hrr], rfl⟩
     ·go_wp2
      go_round
      case rel => exact ⟨q' - 1, r' + y1, rfl, rfl, hk, by omega, by omega, by omega, HSt _ rfl⟩
      case measure => simp [intOf]; omega
    ·have hk := HL.out (by have := fun h => hgo (ht.2 h); omega)
     have HK2 := Lib.hid hk
     clear hk
     have hg2 : ¬ 4294967296 * r' + d1 < q' * y0 := by omega
     go_wp2
     go_meet
     exact ⟨by rw [HK2.out], rfl⟩
 case rest =>
  obtain ⟨rfl, rfl⟩ := hcut
  have g4 : 0 ≤ T := by rw [← HT.out]; exact Int.ediv_nonneg (by omega) (by omega)
  have g5 : T ≤ 4294967295 := DivM.true_lt y1 y0 u d1 v T HVY.out hu2 hd12 (by omega) HT.out
  obtain ⟨X, hX, HXT, hX0, hX1⟩ : ∃ X : Int, u * 4294967296 + d1 - T * v = X ∧ Hid (u * 4294967296 + d1 = T * v + X) ∧ 0 ≤ X ∧ X < v := by
   have k1 : T * v ≤ u * 4294967296 + d1 := by rw [← HT.out]; exact Int.ediv_mul_le _ (by omega)
   have k2 : u * 4294967296 + d1 < (T + 1) * v := by rw [← HT.out]; exact Int.lt_ediv_add_one_mul_self _ (by omega)
   rw [Int.add_mul] at k2
   exact ⟨_, rfl, by show _ = _; omega, by omega, by omega⟩
  obtain ⟨A1, hA1, a11, a12⟩ : ∃ A1 : Int, IntKind.u64.wrap (u * 4294967296) = A1 ∧ 0 ≤ A1 ∧ A1 < 18446744073709551616 := ⟨_, rfl, by rw [IntKind.wrap_u64]; omega, by rw [IntKind.wrap_u64]; omega⟩
  obtain ⟨A2, hA2, a21, a22⟩ : ∃ A2 : Int, IntKind.u64.wrap (A1 + d1) = A2 ∧ 0 ≤ A2 ∧ A2 < 18446744073709551616 := ⟨_, rfl, by rw [IntKind.wrap_u64]; omega, by rw [IntKind.wrap_u64]; omega⟩
  obtain ⟨A3, hA3, a31, a32⟩ : ∃ A3 : Int, IntKind.u64.wrap (T * v) = A3 ∧ 0 ≤ A3 ∧ A3 < 18446744073709551616 := ⟨_, rfl, by rw [IntKind.wrap_u64]; omega, by rw [IntKind.wrap_u64]; omega⟩
  have hA4 : IntKind.u64.wrap (A2 - A3) = X := by
   have := HXT.out
   rw [IntKind.wrap_u64] at *
   omega
  clear hX
  go_upto_block 2 with fail
  obtain ⟨S0, hS0⟩ : ∃ S0 : Int, (X * 4294967296 + d0) / v = S0 := ⟨_, rfl⟩
  have HS0 := Lib.hid hS0
  clear hS0
  go_cut [16, 18] (fun b a wc => a = .int .u64 S0 ∧ w = wc)
  case first =>
   have hTv : S0 * v ≤ X * 4294967296 + d0 := by rw [← HS0.out]; exact Int.ediv_mul_le _ (by omega)
   have g1 := DivM.start_ge y1 y0 X d0 v S0 HVY.out hy11 hy01 hd02 hX0 hTv
   have g2 := DivM.start_le y1 y0 X v HVY.out hy11 hy02 hX0 hX1
   have g3 := DivM.start_r y1 X (by omega)
   have g4 : 0 ≤ S0 := by rw [← HS0.out]; exact Int.ediv_nonneg (by omega) (by omega)
   clear hTv
   obtain ⟨q, hq⟩ : ∃ q : Int, X / y1 = q := ⟨_, rfl⟩
   rw [hq] at g1 g2 g3
   obtain ⟨r, hr⟩ : ∃ r : Int, X - q * y1 = r := ⟨_, rfl⟩
   have b1 : 0 ≤ q * y1 := Int.mul_nonneg (by omega) (by omega)
   have b2 : q * y1 < 18446744073709551616 := by omega
   rw [hr] at g3
   have HR : Hid (X = q * y1 + r) := by show X = _; omega
   go_wp2
   go_loop [16, 18] (fun b a => ∃ q r : Int, a = .int .u64 q ∧ b = .int .u64 r ∧ S0 ≤ q ∧ q ≤ 4294967297 ∧ 0 ≤ r ∧ r < 4294967296 ∧ Hid (X = q * y1 + r)) (fun _ a => (intOf a).toNat)
   case atStart =>
    refine ⟨q, r, by rw [hq], ?_, by omega, by omega, by omega, by omega, HR⟩
    rw [hq, DivM.wrap_u64_of b1 b2, DivM.wrap_u64_of (by omega) (by omega), hr]
   case round =>
    clear hq hr b1 b2 g1 g2 g3 HR
    obtain ⟨q', r', rfl, rfl, g1, g2, g3, g3', HR⟩ := hrel
    have ht := DivM.test_iff q' r' y1 y0 X d0 HR.out
    rw [← HVY.out] at ht
    have HG : Hid (X * 4294967296 + d0 < q' * v → S0 ≤ q' - 1) := fun h => by rw [← HS0.out]; exact DivM.ge_of_lt _ _ _ (by omega) h
    have HL : Hid (q' * v ≤ X * 4294967296 + d0 → q' = S0) := fun h => by rw [← HS0.out]; exact DivM.digit_eq _ _ _ (by omega) (by rw [HS0.out]; exact g1) h
    have HSt : ∀ k : Int, k = r' + y1 → Hid (X = (q' - 1) * y1 + k) := fun k hk => by show X = _; have := HR.out; rw [Int.sub_mul]; omega
    have HB : Hid (S0 ≤ 4294967295) := DivM.true_lt y1 y0 X d0 v S0 HVY.out hX1 hd02 (by omega) HS0.out
    have b1 : 0 ≤ q' * y0 := Int.mul_nonneg (by omega) (by omega)
    have BQ : Hid (q' ≤ 4294967296 → q' * y0 ≤ 4294967296 * 4294967295) := fun h => by
     have := DivM.mul_le q' 4294967296 y0 h hy01
     show _ ≤ _; omega
    have HK : Hid (q' ≤ 4294967297 → S0 ≤ q' - 1 → 4294967296 ≤ r' + y1 → q' - 1 = S0) := fun k1 k2 k3 =>
     DivM.brk _ _ y1 y0 X d0 v S0 HVY.out hy11 hy01 hy02 hd01 (HSt _ rfl).out k3 k2 (by omega) HS0.out
    by_cases hbig : 4294967296 ≤ q'
    ·have hk : S0 ≤ q' - 1 := by have := HB.out; omega
     by_cases hrr : 4294967296 ≤ r' + y1
     ·go_wp2
      go_meet
      exact ⟨by rw [HK.out g2 hk hrr], rfl⟩
     ·go_wp2
      go_round
      case rel => exact ⟨q' - 1, r' + y1, rfl, rfl, hk, by omega, by omega, by omega, HSt _ rfl⟩
      case measure => simp [intOf]; omega
    ·have b2 : q' * y0 < 18446744073709551616 := by have := BQ.out (by omega); omega
     by_cases hgo : r' * 4294967296 + d0 < q' * y0
     ·have hk := HG.out (ht.1 hgo)
      have hg2 : 4294967296 * r' + d0 < q' * y0 := by omega
      by_cases hrr : 4294967296 ≤ r' + y1
      ·go_wp2
       go_meet
       exact ⟨by rw [HK.out g2 hk hrr], rfl⟩
      ·go_wp2
       go_round
       case rel => exact ⟨q' - 1, r' + y1, rfl, rfl, hk, by omega, by omega, by omega, HSt _ rfl⟩
       case measure => simp [intOf]; omega
     ·have hk := HL.out (by have := fun h => hgo (ht.2 h); omega)
      have HK2 := Lib.hid hk
      clear hk
      have hg2 : ¬ 4294967296 * r' + d0 < q' * y0 := by omega
      go_wp2
      go_meet
      exact ⟨by rw [HK2.out], rfl⟩
  case rest =>
   obtain ⟨rfl, rfl⟩ := hcut
   have g6 : 0 ≤ S0 := by rw [← HS0.out]; exact Int.ediv_nonneg (by omega) (by omega)
   have g7 : S0 ≤ 4294967295 := DivM.true_lt y1 y0 X d0 v S0 HVY.out hX1 hd02 (by omega) HS0.out
   obtain ⟨Y, hY, HYT, hY0, hY1⟩ : ∃ Y : Int, X * 4294967296 + d0 - S0 * v = Y ∧ Hid (X * 4294967296 + d0 = S0 * v + Y) ∧ 0 ≤ Y ∧ Y < v := by
    have k1 : S0 * v ≤ X * 4294967296 + d0 := by rw [← HS0.out]; exact Int.ediv_mul_le _ (by omega)
    have k2 : X * 4294967296 + d0 < (S0 + 1) * v := by rw [← HS0.out]; exact Int.lt_ediv_add_one_mul_self _ (by omega)
    rw [Int.add_mul] at k2
    exact ⟨_, rfl, by show _ = _; omega, by omega, by omega⟩
   clear hY
   obtain ⟨k1, k2⟩ := DivM.join u z d1 d0 v T X S0 Y HZD.out HXT.out HYT.out hY0 hY1
   have hfin := DivM.shift_back (hi * 18446744073709551616 + lo) y P v (u * 18446744073709551616 + z) _ Y HUV.out HVP.out HP.out k1 k2
   have HF := Lib.hid hfin
   clear k1 k2 hfin
   obtain ⟨C1, hC1, c11, c12⟩ : ∃ A1 : Int, IntKind.u64.wrap (X * 4294967296) = A1 ∧ 0 ≤ A1 ∧ A1 < 18446744073709551616 := ⟨_, rfl, by rw [IntKind.wrap_u64]; omega, by rw [IntKind.wrap_u64]; omega⟩
   obtain ⟨C2, hC2, c21, c22⟩ : ∃ A2 : Int, IntKind.u64.wrap (C1 + d0) = A2 ∧ 0 ≤ A2 ∧ A2 < 18446744073709551616 := ⟨_, rfl, by rw [IntKind.wrap_u64]; omega, by rw [IntKind.wrap_u64]; omega⟩
   obtain ⟨C3, hC3, c31, c32⟩ : ∃ A3 : Int, IntKind.u64.wrap (S0 * v) = A3 ∧ 0 ≤ A3 ∧ A3 < 18446744073709551616 := ⟨_, rfl, by rw [IntKind.wrap_u64]; omega, by rw [IntKind.wrap_u64]; omega⟩
   have hC4 : IntKind.u64.wrap (C2 - C3) = Y := by
    have := HYT.out
    rw [IntKind.wrap_u64] at *
    omega
   go_wp2
   go_ret2
   rw [HF.out.1, HF.out.2]
   exact ⟨rfl, Below.refl _ _⟩
theorem div64_any (hi lo y : Int) (w : World) (h0 : 0 ≤ hi) (h1 : 0 ≤ lo) (h2 : lo < 18446744073709551616) (h5 : hi < y) (h4 : y < 18446744073709551616) :
  Calls Tryz.prog 129 #[.int .u64 hi, .int .u64 lo, .int .u64 y] w fun e w' => e = .returned (.tuple #[.int .u64 ((hi * 18446744073709551616 + lo) / y), .int .u64 ((hi * 18446744073709551616 + lo) % y)]) ∧ Below w.heap.size w w' := by
 rcases Int.lt_or_le 0 hi with h | h
 ·exact div64_big hi lo y w h1 h2 h h5 h4
 ·obtain rfl : hi = 0 := by omega
  simpa using div64_zero lo y w h1 h2 (by omega) h4
#print axioms div64_any
end Go.Proofs.YtlbnlmhcpephbaaGreatDoor
namespace Go.Proofs.YtlbnlmhcpephbaaGreatDoor
open Go.RowKit
def overQ (X y : Int) : Int := if X < y * 18446744073709551616 then X / y else 0
def overR (X y : Int) : Int := if X < y * 18446744073709551616 then X % y else 0
def overOk (X y : Int) : Bool := decide (X < y * 18446744073709551616)
theorem over_yes (X y : Int) (h : X < y * 18446744073709551616) : overQ X y = X / y ∧ overR X y = X % y ∧ overOk X y = true := ⟨if_pos h, if_pos h, decide_eq_true h⟩
theorem over_no (X y : Int) (h : ¬ X < y * 18446744073709551616) : overQ X y = 0 ∧ overR X y = 0 ∧ overOk X y = false := ⟨if_neg h, if_neg h, decide_eq_false h⟩
theorem over_any (hi lo y : Int) (w : World) (h0 : 0 ≤ hi) (h0' : hi < 18446744073709551616) (h1 : 0 ≤ lo) (h2 : lo < 18446744073709551616) (h3 : 0 ≤ y) (h4 : y < 18446744073709551616) :
  Calls Tryz.prog 121 #[.agg #[.int .u64 hi, .int .u64 lo], .int .u64 y] w fun e w' =>
   e = .returned (.tuple #[.int .u64 (overQ (hi * 18446744073709551616 + lo) y), .int .u64 (overR (hi * 18446744073709551616 + lo) y), .bool (overOk (hi * 18446744073709551616 + lo) y)]) ∧ Below w.heap.size w w' := by
 unfold overQ overR overOk
 by_cases h : y ≤ hi
 ·have hn : ¬ hi * 18446744073709551616 + lo < y * 18446744073709551616 := by omega
  rw [if_neg hn, if_neg hn, decide_eq_false hn]
  clear hn
  go_enter Tryz.func121, Tryz.ntmps121
  go_wp2
  go_ret3
  exact ⟨rfl, (Below.refl _ _).alloc (Nat.le_refl _) _⟩
 ·have hn : hi * 18446744073709551616 + lo < y * 18446744073709551616 := by omega
  rw [if_pos hn, if_pos hn, decide_eq_true hn]
  clear hn
  go_enter Tryz.func121, Tryz.ntmps121
  go_wp2_with fail
  refine (div64_any _ _ _ _ h0 h1 h2 (by omega) h4).mono ?_
  rintro e w1 ⟨rfl, hb⟩
  go_wp2
  go_ret3
  exact ⟨rfl, ((Below.refl _ _).alloc (Nat.le_refl _) _).trans (hb.mono (by simp))⟩
theorem floor_any (a b y : Int) (w : World) (ha : 0 ≤ a) (ha' : a < 18446744073709551616) (hb : 0 ≤ b) (hb' : b < 18446744073709551616) (h3 : 0 ≤ y) (h4 : y < 18446744073709551616) :
  Calls Tryz.prog 97 #[.int .u64 a, .int .u64 b, .int .u64 y] w fun e w' =>
   e = .returned (.tuple #[.int .u64 (overQ (a * b) y), .bool (overOk (a * b) y)]) ∧ Below w.heap.size w w' := by
 go_enter Tryz.func97, Tryz.ntmps97
 go_wp2_with fail
 refine (times_any _ _ _ ha ha' hb hb').mono ?_
 rintro e w1 ⟨hi, lo, k1, k2, k3, k4, hX, rfl, hb1⟩
 have HX := Lib.hid hX
 clear hX
 go_wp2_with fail
 refine (over_any _ _ _ _ k1 k2 k3 k4 h3 h4).mono ?_
 rintro e w2 ⟨rfl, hb2⟩
 rw [HX.out]
 go_wp2
 go_ret2
 exact ⟨rfl, hb1.trans (hb2.mono hb1.size)⟩
def ceilQ (X y : Int) : Int := if X ≤ y * 18446744073709551615 ∧ 0 < y then (X + y - 1) / y else 0
def ceilOk (X y : Int) : Bool := decide (X ≤ y * 18446744073709551615 ∧ 0 < y)
theorem ceil_no (X y : Int) (h3 : 0 ≤ y) (h0 : 0 ≤ X) (h : ¬ X < y * 18446744073709551616) : ceilQ X y = 0 ∧ ceilOk X y = false := by
 have : ¬ (X ≤ y * 18446744073709551615 ∧ 0 < y) := by omega
 unfold ceilQ ceilOk
 exact ⟨if_neg this, decide_eq_false this⟩
theorem ceil_even (X y : Int) (h3 : 0 ≤ y) (h0 : 0 ≤ X) (h : X < y * 18446744073709551616) (hr : X % y = 0) : ceilQ X y = X / y ∧ ceilOk X y = true := by
 have hy : 0 < y := by omega
 have hq : X / y < 18446744073709551616 := Int.ediv_lt_of_lt_mul hy (by rw [Int.mul_comm]; exact h)
 have he := Int.ediv_mul_add_emod X y
 have hm : (X / y) * y ≤ 18446744073709551615 * y := Int.mul_le_mul_of_nonneg_right (by omega) h3
 have hc : X ≤ y * 18446744073709551615 ∧ 0 < y := by omega
 unfold ceilQ ceilOk
 refine ⟨?_, decide_eq_true hc⟩
 rw [if_pos hc]
 have hu : (X + y - 1) / y = X / y ∧ (X + y - 1) % y = y - 1 := by
  refine (Int.ediv_emod_unique hy).2 ⟨?_, by omega, by omega⟩
  rw [Int.mul_comm]; omega
 exact hu.1
theorem ceil_odd (X y : Int) (h3 : 0 ≤ y) (h0 : 0 ≤ X) (h : X < y * 18446744073709551616) (hr : ¬ X % y = 0) :
  (X / y < 18446744073709551615 → ceilQ X y = X / y + 1 ∧ ceilOk X y = true) ∧ (¬ X / y < 18446744073709551615 → ceilQ X y = 0 ∧ ceilOk X y = false) := by
 have hy : 0 < y := by omega
 have hq : X / y < 18446744073709551616 := Int.ediv_lt_of_lt_mul hy (by rw [Int.mul_comm]; exact h)
 have he := Int.ediv_mul_add_emod X y
 have hr1 := Int.emod_nonneg X (show y ≠ 0 by omega)
 have hr2 := Int.emod_lt_of_pos X hy
 refine ⟨fun hl => ?_, fun hl => ?_⟩
 ·have hm : (X / y + 1) * y ≤ 18446744073709551615 * y := Int.mul_le_mul_of_nonneg_right (by omega) h3
  rw [Int.add_mul] at hm
  have hc : X ≤ y * 18446744073709551615 ∧ 0 < y := by omega
  unfold ceilQ ceilOk
  refine ⟨?_, decide_eq_true hc⟩
  rw [if_pos hc]
  have hu : (X + y - 1) / y = X / y + 1 ∧ (X + y - 1) % y = X % y - 1 := by
   refine (Int.ediv_emod_unique hy).2 ⟨?_, by omega, by omega⟩
   rw [Int.mul_comm, Int.add_mul]; omega
  exact hu.1
 ·have e : X / y = 18446744073709551615 := by omega
  rw [e] at he
  have hc : ¬ (X ≤ y * 18446744073709551615 ∧ 0 < y) := by omega
  unfold ceilQ ceilOk
  exact ⟨if_neg hc, decide_eq_false hc⟩
theorem ceil_any (a b y : Int) (w : World) (ha : 0 ≤ a) (ha' : a < 18446744073709551616) (hb : 0 ≤ b) (hb' : b < 18446744073709551616) (h3 : 0 ≤ y) (h4 : y < 18446744073709551616) :
  Calls Tryz.prog 190 #[.int .u64 a, .int .u64 b, .int .u64 y] w fun e w' =>
   e = .returned (.tuple #[.int .u64 (ceilQ (a * b) y), .bool (ceilOk (a * b) y)]) ∧ Below w.heap.size w w' := by
 obtain ⟨X, hab⟩ : ∃ X : Int, a * b = X := ⟨_, rfl⟩
 have hX0 : 0 ≤ X := by rw [← hab]; exact Int.mul_nonneg ha hb
 have HAB := Lib.hid hab
 rw [hab]
 clear hab
 have c1 := Lib.hid (ceil_no X y h3 hX0)
 have c2 := Lib.hid (ceil_even X y h3 hX0)
 have c3 := Lib.hid (ceil_odd X y h3 hX0)
 go_enter Tryz.func190, Tryz.ntmps190
 go_wp2_with fail
 refine (times_any _ _ _ ha ha' hb hb').mono ?_
 rintro e w1 ⟨hi, lo, k1, k2, k3, k4, hX, rfl, hb1⟩
 have HX := Lib.hid hX
 clear hX
 go_wp2_with fail
 refine (over_any _ _ _ _ k1 k2 k3 k4 h3 h4).mono ?_
 rintro e w2 ⟨rfl, hb2⟩
 rw [HX.out, HAB.out]
 have HB := hb1.trans (hb2.mono hb1.size)
 clear HX hb1 hb2 k1 k2 k3 k4
 by_cases h : X < y * 18446744073709551616
 ·obtain ⟨e1, e2, e3⟩ := over_yes X y h
  rw [e1, e2, e3]
  clear e1 e2 e3
  have hy : 0 < y := by omega
  have q0 : 0 ≤ X / y := Int.ediv_nonneg hX0 h3
  have q1 : X / y < 18446744073709551616 := Int.ediv_lt_of_lt_mul hy (by rw [Int.mul_comm]; exact h)
  have r0 := Int.emod_nonneg X (show y ≠ 0 by omega)
  by_cases hr : X % y = 0
  ·have HE := Lib.hid (c2.out h hr)
   clear h c1 c2 c3
   rw [hr]
   generalize X / y = q at *
   clear hr
   go_wp2
   go_ret2
   rw [HE.out.1, HE.out.2]
   exact ⟨rfl, HB⟩
  ·have HE := Lib.hid (c3.out h hr)
   have hadd := Tryz.add64_int (X / y) 1 0 q0 (by omega) (by omega) (by omega)
   clear h c1 c2 c3
   generalize X / y = q at *
   generalize X % y = r at *
   by_cases hl : q < 18446744073709551615
   ·rw [show (q + 1 + 0) % 18446744073709551616 = q + 1 by omega, show (q + 1 + 0) / 18446744073709551616 = 0 by omega] at hadd
    go_wp2
    go_ret2
    rw [(HE.out.1 hl).1, (HE.out.1 hl).2]
    exact ⟨rfl, HB⟩
   ·rw [show (q + 1 + 0) % 18446744073709551616 = 0 by omega, show (q + 1 + 0) / 18446744073709551616 = 1 by omega] at hadd
    go_wp2
    go_ret2
    rw [(HE.out.2 hl).1, (HE.out.2 hl).2]
    exact ⟨rfl, HB⟩
 ·obtain ⟨e1, e2, e3⟩ := over_no X y h
  rw [e1, e2, e3]
  have HE := Lib.hid (ceil_no X y h3 hX0 (by omega))
  clear e1 e2 e3 c1 c2 c3 h
  go_wp2
  go_ret2
  rw [HE.out.1, HE.out.2]
  exact ⟨rfl, HB⟩
end Go.Proofs.YtlbnlmhcpephbaaGreatDoor

namespace Go.Proofs.YtlbnlmhcpephbaaGreatDoor
open Go.RowKit
def addQ (X : Int) : Int := X % 340282366920938463463374607431768211456
def addO (X : Int) : Bool := decide (340282366920938463463374607431768211456 ≤ X)
end Go.Proofs.YtlbnlmhcpephbaaGreatDoor
namespace Go.Proofs.YtlbnlmhcpephbaaGreatDoor
open Go.RowKit
def bitOf (X i : Int) : Int := X / 2 ^ i.toNat % 2
def subQ (X Y : Int) : Int := (X - Y) % 340282366920938463463374607431768211456
end Go.Proofs.YtlbnlmhcpephbaaGreatDoor
namespace Go.Proofs.YtlbnlmhcpephbaaGreatDoor
open Go.RowKit
end Go.Proofs.YtlbnlmhcpephbaaGreatDoor
namespace Go.Proofs.YtlbnlmhcpephbaaGreatDoor
open Go.RowKit
end Go.Proofs.YtlbnlmhcpephbaaGreatDoor

namespace Go.Proofs.YtlbnlmhcpephbaaGreatDoor
def mostN : Nat := 9223372036854775808
def topN : Nat := 9223372036854775807
def repR (u v low : Nat) : Nat := low * (v + u) / v
def repN (u v low : Nat) : Nat := min (repR u v low) topN
def highN (u v low : Nat) : Nat := if mostN < repR u v low then mostN else min (repR u v low * v / (v - u)) mostN
def cellsF (u v : Nat) : Nat → Nat → Option (List Nat)
  | fuel, low => if mostN < low then some [] else match fuel with
    | 0 => none
    | f + 1 => (cellsF u v f (highN u v low + 1)).map (low :: ·)
def Chain (u v : Nat) : Nat → List Nat → Prop
 | low, [] => mostN < low
 | low, x :: L => x = low ∧ low ≤ mostN ∧ Chain u v (highN u v low + 1) L
structure At' (L : List Nat) (m k : Nat) : Prop where
 le : k ≤ L.length
 under : ∀ j (h : j < L.length), j < k → L[j]'h < m
 over : ∀ h : k < L.length, m ≤ L[k]'h
end Go.Proofs.YtlbnlmhcpephbaaGreatDoor
namespace Go.Proofs.YtlbnlmhcpephbaaGreatDoor
open Go.RowKit
def OwnU (base : Nat) (w : World) (A : Option Addr) (cap : Nat) (xs : List Int) : Prop := w.ownsRow base 23 1 (.slice A xs.length cap) xs.length (xs.map (Value.int .u64))
def RdU (w : World) (A : Option Addr) (xs : List Int) : Prop := Rd w A (xs.map (Value.int .u64))
def SepA (A B : Option Addr) : Prop := ∀ a b, A = some a → B = some b → a.block ≠ b.block
end Go.Proofs.YtlbnlmhcpephbaaGreatDoor
namespace Go.Proofs.YtlbnlmhcpephbaaGreatDoor
open Go.RowKit
def goodC (u v : Int) : Bool := decide (0 < u ∧ u < v ∧ v ≤ 2147483648)
def castL (L : List Nat) : List Int := L.map fun n : Nat => (n : Int)
structure Tab (W : World) (b : Nat) (u v : Int) (L R : List Nat) : Prop where
 tab : ∃ A c A2 c2, At W b #[.int .u64 u, .int .u64 v, .slice A L.length c, .slice A2 R.length c2] 198 ∧ RdU W A (castL L) ∧ RdU W A2 (castL R)
 len : L.length ≤ 4096
 len2 : R.length ≤ 4096
def atL (L : List Nat) (i : Int) : Nat := if 0 ≤ i ∧ i < L.length then L.getD i.toNat 0 else 0
def highL (L : List Nat) (i : Int) : Nat := if 0 ≤ i ∧ i < L.length then (if i = L.length - 1 then mostN else L.getD (i.toNat + 1) 0 - 1) else 0
end Go.Proofs.YtlbnlmhcpephbaaGreatDoor
namespace Go.Proofs.YtlbnlmhcpephbaaGreatDoor
open Go.RowKit
def BsR (L : List Nat) (m : Nat) (e : Ending) : Prop := ∃ k : Nat, ∃ f : Bool, e = .returned (.tuple #[.int .i64 k, .bool f]) ∧ At' L m k ∧ (f = true ↔ k < L.length ∧ L.getD k 0 = m)
def cellAt (L : List Nat) (m : Nat) (i : Nat) : Prop := i < L.length ∧ L.getD i 0 ≤ m ∧ (i + 1 < L.length → m < L.getD (i + 1) 0)
def IxR (L : List Nat) (m : Nat) (e : Ending) : Prop := ((m = 0 ∨ mostN < m) ∧ e = .returned (.tuple #[.int .i64 0, .bool false])) ∨ (1 ≤ m ∧ m ≤ mostN ∧ ∃ i : Nat, e = .returned (.tuple #[.int .i64 i, .bool true]) ∧ cellAt L m i)
end Go.Proofs.YtlbnlmhcpephbaaGreatDoor
namespace Go.Proofs.YtlbnlmhcpephbaaGreatDoor
open Go.RowKit
structure Tb (w0 : World) (B0 b : Nat) (u v : Int) (W : World) (fa fb : Value) (A : Option Addr) (c : Nat) (xs : List Int) (A2 : Option Addr) (c2 : Nat) (ys : List Int) : Prop where
 tab : At W b #[.int .u64 u, .int .u64 v, fa, fb] 198
 own1 : OwnU (b + 1) W A c xs
 own2 : OwnU (b + 1) W A2 c2 ys
 sep : SepA A A2
 arg : At W B0 #[.int .u64 u, .int .u64 v] 25
 below : Below w0.heap.size w0 W
 lt : B0 < b
 le : w0.heap.size ≤ B0
section
variable {w0 W W' : World} {B0 b : Nat} {u v : Int} {fa fb : Value} {A A2 : Option Addr} {c c2 : Nat} {xs ys : List Int}
end
def TabW (b : Nat) (u v : Int) (fa fb : Value) (W : World) : Prop := At W b #[.int .u64 u, .int .u64 v, fa, fb] 198
def NewR (u v : Nat) (e : Ending) (w' : World) : Prop := match cellsF u v 4096 1 with
 | none => e = .returned (.tuple #[.pointer none, .int .i64 6])
 | some L => ∃ b, e = .returned (.tuple #[.pointer (some ⟨b, 0, none⟩), .int .i64 0]) ∧ Tab w' b u v L (L.map (repN u v))
def TabN (n0 : Nat) (W : World) (b : Nat) (u v : Int) (L R : List Nat) : Prop := n0 ≤ b ∧ ∃ A c A2 c2, At W b #[.int .u64 u, .int .u64 v, .slice A L.length c, .slice A2 R.length c2] 198 ∧ RdU W A (castL L) ∧ RdU W A2 (castL R) ∧ (∀ g, A = some g → n0 ≤ g.block) ∧ (∀ g, A2 = some g → n0 ≤ g.block)
def NewN (u v n0 : Nat) (e : Ending) (w' : World) : Prop := match cellsF u v 4096 1 with
 | none => e = .returned (.tuple #[.pointer none, .int .i64 6])
 | some L => ∃ b, e = .returned (.tuple #[.pointer (some ⟨b, 0, none⟩), .int .i64 0]) ∧ TabN n0 w' b u v L (L.map (repN u v))
end Go.Proofs.YtlbnlmhcpephbaaGreatDoor
namespace Go.Proofs.YtlbnlmhcpephbaaGreatDoor
open Go.RowKit
structure CellsOf (u v : Nat) (L : List Nat) : Prop where
 u0 : 0 < u
 uv : u < v
 v1 : v ≤ 2147483648
 pos : 0 < L.length
 len : L.length ≤ 4096
 first : L.getD 0 0 = 1
 sorted : L.Pairwise (· < ·)
 bd : ∀ x ∈ L, 1 ≤ x ∧ x ≤ mostN
 chain : Chain u v 1 L
def NewG (u v : Nat) (e : Ending) (w' : World) : Prop := (∃ p k, e = .returned (.tuple #[.pointer p, .int .i64 k]) ∧ (k = 1 ∨ k = 6)) ∨
 ∃ b L, e = .returned (.tuple #[.pointer (some ⟨b, 0, none⟩), .int .i64 0]) ∧ CellsOf u v L ∧ Tab w' b u v L (L.map (repN u v))
end Go.Proofs.YtlbnlmhcpephbaaGreatDoor
namespace Go.Proofs.YtlbnlmhcpephbaaGreatDoor
open Go.RowKit
structure Tw (w0 : World) (B0 : Nat) (u v : Int) (W : World) (A : Option Addr) (c : Nat) (xs : List Int) (A2 : Option Addr) (c2 : Nat) (ys : List Int) : Prop where
 own1 : OwnU (B0 + 1) W A c xs
 own2 : OwnU (B0 + 1) W A2 c2 ys
 sep : SepA A A2
 arg : At W B0 #[.int .u64 u, .int .u64 v] 25
 below : Below w0.heap.size w0 W
 le : w0.heap.size ≤ B0
section
variable {w0 W W' : World} {B0 : Nat} {u v : Int} {A A2 : Option Addr} {c c2 : Nat} {xs ys : List Int}
end
def RcR (u v : Nat) (e : Ending) (w' : World) : Prop := match cellsF u v 4096 1 with
 | none => e = .returned (.tuple #[.slice none 0 0, .slice none 0 0, .bool false])
 | some L => ∃ A c A2 c2, e = .returned (.tuple #[.slice A L.length c, .slice A2 L.length c2, .bool true]) ∧ RdU w' A (castL L) ∧ RdU w' A2 (castL (L.map (repN u v)))
def RcN (n0 : Nat) (u v : Nat) (e : Ending) (w' : World) : Prop := match cellsF u v 4096 1 with
 | none => e = .returned (.tuple #[.slice none 0 0, .slice none 0 0, .bool false])
 | some L => ∃ A c A2 c2, e = .returned (.tuple #[.slice A L.length c, .slice A2 L.length c2, .bool true]) ∧ RdU w' A (castL L) ∧ RdU w' A2 (castL (L.map (repN u v))) ∧ (∀ g, A = some g → n0 ≤ g.block) ∧ (∀ g, A2 = some g → n0 ≤ g.block)
end Go.Proofs.YtlbnlmhcpephbaaGreatDoor

namespace Go.Proofs.YtlbnlmhcpephbaaGreatDoor
open Go.RowKit
theorem xor_u64_ones (a : Int) (h0 : 0 ≤ a) (h1 : a < 18446744073709551616) : bits .xor .u64 a 18446744073709551615 = 18446744073709551615 - a := by
 obtain ⟨n, rfl⟩ := Int.eq_ofNat_of_zero_le h0
 have e : (18446744073709551615 : Int) = ((2 ^ 64 - 1 : Nat) : Int) := by decide
 rw [e, bits_xor_u64_nat _ _ (by omega) (by decide), Nat.xor_comm, Lib.xor_ones64 _ (by omega)]
 omega
theorem xor_u64_zero (a : Int) (h0 : 0 ≤ a) (h1 : a < 18446744073709551616) : bits .xor .u64 a 0 = a := by
 obtain ⟨n, rfl⟩ := Int.eq_ofNat_of_zero_le h0
 have := bits_xor_u64_nat n 0 (by omega) (by decide)
 rw [Nat.xor_zero] at this
 exact this
theorem xor_i64_zero (a : Int) (h0 : 0 ≤ a) (h1 : a < 9223372036854775808) : bits .xor .i64 a 0 = a := by
 obtain ⟨n, rfl⟩ := Int.eq_ofNat_of_zero_le h0
 show IntKind.i64.wrap ((BitVec.ofInt 64 (n : Int) ^^^ BitVec.ofInt 64 0).toNat : Int) = _
 have h2 : (BitVec.ofInt 64 (n : Int)).toNat = n := by
  rw [BitVec.ofInt_natCast, BitVec.toNat_ofNat]; exact Nat.mod_eq_of_lt (by omega)
 have h3 : (BitVec.ofInt 64 (0 : Int)).toNat = 0 := by decide
 rw [BitVec.toNat_xor, h2, h3, Nat.xor_zero, IntKind.wrap_i64]
 omega
theorem xor_i64_neg (a : Int) (h0 : 0 ≤ a) (h1 : a < 9223372036854775808) : bits .xor .i64 a (-1) = -a - 1 := by
 obtain ⟨n, rfl⟩ := Int.eq_ofNat_of_zero_le h0
 rw [← Lib.i64_not n (by omega)]
 show IntKind.i64.wrap ((BitVec.ofInt 64 (n : Int) ^^^ BitVec.ofInt 64 (-1)).toNat : Int) = IntKind.i64.wrap ((BitVec.ofInt 64 (-1) ^^^ BitVec.ofInt 64 (n : Int)).toNat : Int)
 rw [BitVec.xor_comm]
theorem zig_any (x : Int) (w : World) (h1 : -9223372036854775808 ≤ x) (h2 : x ≤ 9223372036854775807) :
  Calls Tryz.prog 206 #[.int .i64 x] w fun e w' => e = .returned (.int .u64 (zigN x : Nat)) ∧ w = w' := by
 have HZ : Hid (bits .xor .u64 (IntKind.u64.wrap (IntKind.u64.wrap x * 2)) (IntKind.u64.wrap (x / 9223372036854775808)) = (zigN x : Nat)) := by
  show _ = _
  rw [IntKind.wrap_u64, IntKind.wrap_u64, IntKind.wrap_u64]
  unfold zigN
  by_cases h : x < 0
  ·rw [if_pos h, show x / 9223372036854775808 % 18446744073709551616 = 18446744073709551615 by omega, xor_u64_ones _ (by omega) (by omega)]
   omega
  ·rw [if_neg h, show x / 9223372036854775808 % 18446744073709551616 = 0 by omega, xor_u64_zero _ (by omega) (by omega)]
   omega
 go_enter Tryz.func206, Tryz.ntmps206
 go_wp2
 go_ret
 exact ⟨by rw [← HZ.out]; rfl, rfl⟩
theorem zag_any (u : Nat) (w : World) (h : u < 18446744073709551616) :
  Calls Tryz.prog 100 #[.int .u64 (u : Int)] w fun e w' => e = .returned (.int .i64 (zagI u)) ∧ w = w' := by
 have HZ : Hid (bits .xor .i64 ((u : Int) / 2) (wrap64 (-wrap64 (bits .and .u64 u 1))) = zagI u) := by
  show _ = _
  rw [Lib.u64_and1 _ (by omega) (by omega)]
  unfold zagI
  by_cases h1 : u % 2 = 1
  ·rw [if_pos h1, show (u : Int) % 2 = 1 by omega, show wrap64 (-wrap64 1) = -1 by simp [wrap64], xor_i64_neg _ (by omega) (by omega)]
   omega
  ·rw [if_neg h1, show (u : Int) % 2 = 0 by omega, show wrap64 (-wrap64 0) = 0 by simp [wrap64], xor_i64_zero _ (by omega) (by omega)]
   omega
 go_enter Tryz.func100, Tryz.ntmps100
 go_wp2
 go_ret
 exact ⟨by rw [← HZ.out]; rfl, rfl⟩
end Go.Proofs.YtlbnlmhcpephbaaGreatDoor
