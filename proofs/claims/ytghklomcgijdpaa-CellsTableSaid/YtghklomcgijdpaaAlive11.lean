/- What the document tells of layer 11 by an example; plain laws of a table; small contracts. -/
import Derived.Test.YtghklomcgijdpaaProg
import Derived.Test.YtghklomcgijdpaaCellsB
import Derived.Test.YtghklomcgijdpaaCellsNew
import Derived.Test.YtghklomcgijdpaaRef1c
import Derived.Test.YtghklomcgijdpaaFar
namespace Go.Proofs.Ytghklomcgijdpaa
open Go.RowKit

/-- The cells of a closeness. -/
structure CellsOf (u v : Nat) (L : List Nat) : Prop where
  u0 : 0 < u
  uv : u < v
  v1 : v ≤ 2147483648
  pos : 0 < L.length
  len : L.length ≤ 4096
  first : L.getD 0 0 = 1
  sorted : L.Pairwise (· < ·)
  bd : ∀ x ∈ L, 1 ≤ x ∧ x ≤ mostN
  chain : Chain u v 1 L

theorem CellsOf.of {u v : Nat} {L : List Nat} (h : cellsF u v 4096 1 = some L) (u0 : 0 < u) (uv : u < v) (v1 : v ≤ 2147483648) : CellsOf u v L := by
  obtain ⟨hc, hl⟩ := chain_of h
  have hpos : 0 < L.length := by
    cases L with
    | nil => have h1 : mostN < 1 := hc; unfold mostN at h1; omega
    | cons x L => simp
  obtain ⟨c1, c2, c3⟩ := chain_at uv hc
  refine ⟨u0, uv, v1, hpos, hl, ?_, chain_sorted uv hc, fun x hx => ?_, hc⟩
  · rw [← getD_at hpos]; exact (c3 hpos).1
  · obtain ⟨i, hi, rfl⟩ := List.getElem_of_mem hx
    exact c1 i hi

theorem CellsOf.atL {u v : Nat} {L : List Nat} (_ : CellsOf u v L) {i : Nat} (hi : i < L.length) : atL L (i : Int) = L.getD i 0 := by
  unfold Go.Proofs.Ytghklomcgijdpaa.atL
  rw [if_pos ⟨by omega, by omega⟩]
  rfl
theorem CellsOf.repL {u v : Nat} {L : List Nat} (_ : CellsOf u v L) {i : Nat} (hi : i < L.length) : Go.Proofs.Ytghklomcgijdpaa.atL (L.map (repN u v)) (i : Int) = repN u v (L.getD i 0) := by
  unfold Go.Proofs.Ytghklomcgijdpaa.atL
  rw [if_pos ⟨by omega, by rw [List.length_map]; omega⟩, Int.toNat_natCast, List.getD_eq_getElem?_getD, List.getD_eq_getElem?_getD, List.getElem?_map, List.getElem?_eq_getElem hi]
  rfl
theorem CellsOf.at {u v : Nat} {L : List Nat} (h : CellsOf u v L) {i : Nat} (hi : i < L.length) : 1 ≤ L.getD i 0 ∧ L.getD i 0 ≤ mostN := by
  rw [← getD_at hi]
  exact h.bd _ (List.getElem_mem hi)
theorem CellsOf.next {u v : Nat} {L : List Nat} (h : CellsOf u v L) {i : Nat} (hi : i + 1 < L.length) : L.getD (i + 1) 0 = highN u v (L.getD i 0) + 1 := by
  have := (chain_at h.uv h.chain).2.1 i hi
  rw [getD_at, getD_at] at this
  exact this
theorem CellsOf.last {u v : Nat} {L : List Nat} (h : CellsOf u v L) : highN u v (L.getD (L.length - 1) 0) = mostN := by
  have := ((chain_at h.uv h.chain).2.2 h.pos).2
  rw [getD_at] at this
  exact this
theorem CellsOf.highL {u v : Nat} {L : List Nat} (h : CellsOf u v L) {i : Nat} (hi : i < L.length) : highL L (i : Int) = highN u v (L.getD i 0) := by
  unfold Go.Proofs.Ytghklomcgijdpaa.highL
  rw [if_pos ⟨by omega, by omega⟩]
  by_cases e : i + 1 < L.length
  · rw [if_neg (by omega), Int.toNat_natCast, h.next e, Nat.add_sub_cancel]
  · obtain rfl : i = L.length - 1 := by have := h.pos; omega
    have := h.pos
    rw [if_pos (by omega), h.last]
/-- Where a magnitude lies. -/
theorem CellsOf.cell {u v : Nat} {L : List Nat} (h : CellsOf u v L) {m i : Nat} (hc : cellAt L m i) (hm : m ≤ mostN) : i < L.length ∧ L.getD i 0 ≤ m ∧ m ≤ highN u v (L.getD i 0) := by
  obtain ⟨h1, h2, h3⟩ := hc
  refine ⟨h1, h2, ?_⟩
  by_cases e : i + 1 < L.length
  · have := h3 e
    rw [h.next e] at this
    omega
  · obtain rfl : i = L.length - 1 := by omega
    rw [h.last]
    exact hm
theorem CellsOf.uniq {u v : Nat} {L : List Nat} (h : CellsOf u v L) {m i j : Nat} (hc : cellAt L m i) (hj : j < L.length) (h1 : L.getD j 0 ≤ m) (h2 : m ≤ highN u v (L.getD j 0)) : i = j := by
  obtain ⟨k1, k2, k3⟩ := hc
  rcases Nat.lt_trichotomy i j with e | e | e
  · have a := k3 (by omega)
    have := sorted_getD h.sorted (x := i + 1) (y := j) (by omega) hj
    omega
  · exact e
  · have a := h.next (i := j) (by omega)
    have := sorted_getD h.sorted (x := j + 1) (y := i) (by omega) k1
    omega

theorem gap_any (a b : Nat) (w : World) (ha : a < 18446744073709551616) (hb : b < 18446744073709551616) :
    Calls Try.prog 15 #[.int .u64 a, .int .u64 b] w fun e w' => e = .returned (.int .u64 (max a b - min a b : Nat)) ∧ Below w.heap.size w w' := by
  have HE : Hid (((max a b - min a b : Nat) : Int) = max (a : Int) b - min (a : Int) b) := by show _ = _; omega
  have v1 : IntKind.u64.wrap (max (a : Int) b - min (a : Int) b) = max (a : Int) b - min (a : Int) b := by simp only [IntKind.wrap_u64]; omega
  go_enter Try.func15, Try.ntmps15
  go_wp2
  go_ret
  exact ⟨by rw [HE.out]; first | rfl | simp, Below.refl _ _⟩

set_option maxRecDepth 100000 in
theorem rtimes_fix (a b : Int) (ha : 0 ≤ a) (ha' : a < 18446744073709551616) (hb : 0 ≤ b) (hb' : b < 18446744073709551616) :
    ∃ hi lo : Int, 0 ≤ hi ∧ hi < 18446744073709551616 ∧ 0 ≤ lo ∧ lo < 18446744073709551616 ∧ hi * 18446744073709551616 + lo = a * b ∧
      ∀ W, Calls Try.prog 14 #[.int .u64 a, .int .u64 b] W fun e w' => e = .returned (.agg #[.int .u64 hi, .int .u64 lo]) ∧ Below W.heap.size W w' := by
  have h0 : 0 ≤ a * b := Int.mul_nonneg ha hb
  have h1 : a * b ≤ 18446744073709551615 * 18446744073709551615 := Int.mul_le_mul (by omega) (by omega) hb (by omega)
  refine ⟨a * b / 18446744073709551616, a * b % 18446744073709551616, by omega, by omega, by omega, by omega, by omega, fun W => ?_⟩
  refine (rtimes_any a b W ha ha' hb hb').mono ?_
  rintro e w' ⟨hi, lo, p1, p2, p3, p4, p5, rfl, hB⟩
  refine ⟨?_, hB⟩
  rw [show hi = a * b / 18446744073709551616 by omega, show lo = a * b % 18446744073709551616 by omega]

/-- What New answers, of any closeness. -/
def NewG (u v : Nat) (e : Ending) (w' : World) : Prop := (∃ p k, e = .returned (.tuple #[.pointer p, .int .i64 k]) ∧ (k = 1 ∨ k = 6)) ∨
  ∃ b L, e = .returned (.tuple #[.pointer (some ⟨b, 0, none⟩), .int .i64 0]) ∧ CellsOf u v L ∧ Tab w' b u v L (L.map (repN u v))
theorem cnew_gen (u v : Nat) (w : World) (hu : u < 18446744073709551616) (hv : v < 18446744073709551616) :
    Calls Try.prog 9 #[.agg #[.int .u64 u, .int .u64 v]] w fun e w' => NewG u v e w' ∧ Below w.heap.size w w' := by
  cases hg : goodC (u : Int) (v : Int)
  · refine (cnew_bad u v w (by omega) (by omega) (by omega) (by omega) hg).mono ?_
    rintro e w' ⟨rfl, hb⟩
    exact ⟨.inl ⟨_, _, rfl, .inl rfl⟩, hb⟩
  · obtain ⟨g1, g2, g3⟩ := goodC_iff.1 hg
    refine (cnew_good u v w (by omega) (by omega) (by omega)).mono ?_
    rintro e w' ⟨hN, hb⟩
    refine ⟨?_, hb⟩
    unfold NewR at hN
    cases hL : cellsF u v 4096 1 with
    | none =>
      rw [hL] at hN
      exact .inl ⟨_, _, hN, .inr rfl⟩
    | some L =>
      rw [hL] at hN
      obtain ⟨b, he, hTab⟩ := hN
      exact .inr ⟨b, L, he, CellsOf.of hL (by omega) (by omega) (by omega), hTab⟩

set_option maxRecDepth 100000 in
theorem alive_any (w : World) : Calls Try.prog 8 #[] w fun e w' => e = .returned (.bool true) ∧ Below w.heap.size w w' := by
  have hT := cells_tenth
  obtain ⟨L, hL⟩ : ∃ L, cellsF 1 10 4096 1 = some L := by
    cases hc : cellsF 1 10 4096 1 with
    | none => rw [hc] at hT; cases hT
    | some L => exact ⟨L, rfl⟩
  rw [hL, Option.map_some, Option.some.injEq] at hT
  have hT' : 100 < L.length := Nat.le_of_ble_eq_true hT
  have C := CellsOf.of hL (by omega) (by omega) (by omega)
  go_enter Try.func8, Try.ntmps8
  go_wp2_with fail
  refine (cnew_good 1 10 _ (by omega) (by omega) (by omega)).mono ?_
  rintro e w1 ⟨hN, hB⟩
  unfold NewR at hN
  rw [hL] at hN
  obtain ⟨b, rfl, hTab⟩ := hN
  have HI := Lib.hid hL
  clear hL hT
  go_wp2_with fail
  refine (cindex_any b _ _ L _ 100 w1 hTab C.sorted C.pos C.first (by omega)).mono ?_
  rintro e w2 ⟨hI, rfl⟩
  rcases hI with ⟨h1, _⟩ | ⟨_, _, i, rfl, hc⟩
  · exfalso; unfold mostN at h1; omega
  obtain ⟨h1, h2, h3⟩ := C.cell hc (by unfold mostN; omega)
  have hcl := close C.u0 C.uv C.v1 h2 h3
  have hrep := C.repL h1
  obtain ⟨r, hr⟩ : ∃ r, repN 1 10 (L.getD i 0) = r := ⟨_, rfl⟩
  rw [hr] at hcl hrep
  have hr1 : 90 ≤ r ∧ r ≤ 110 := by omega
  clear hc h2 h3 hcl hr
  go_wp2_with fail
  refine (crep_any b _ _ L _ i w1 hTab).mono ?_
  rintro e w2 ⟨rfl, rfl⟩
  rw [hrep]
  have q1 : (90 : Int) ≤ r := by omega
  have q2 : (r : Int) ≤ 110 := by omega
  clear hrep
  go_wp2_with fail
  refine (clen_any b _ _ L _ w1 hTab).mono ?_
  rintro e w2 ⟨rfl, rfl⟩
  have q3 : (100 : Int) < L.length := by omega
  clear HI hTab
  go_wp2
  go_ret
  exact ⟨by first | rfl | simp, hB⟩
end Go.Proofs.Ytghklomcgijdpaa

