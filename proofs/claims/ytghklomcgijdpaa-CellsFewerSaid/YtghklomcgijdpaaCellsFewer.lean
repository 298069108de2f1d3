/- The walk of the statement CellsFewer. -/
import Derived.Test.YtghklomcgijdpaaProg
import Derived.Test.YtghklomcgijdpaaOpen
import Derived.Test.YtghklomcgijdpaaAlive11
namespace Go.Proofs.Ytghklomcgijdpaa
open Go.RowKit

set_option maxRecDepth 100000 in
set_option maxHeartbeats 2000000 in
theorem cellsFewer_walk (w : World) (u : Int) (bdu : 0 ≤ u ∧ u < 18446744073709551616) (k : Int) (bdk : 0 ≤ k ∧ k < 18446744073709551616) (v : Int) (bdv : 0 ≤ v ∧ v < 18446744073709551616) (m : Int) (bdm : 0 ≤ m ∧ m < 18446744073709551616) :
    Calls Try.prog 3 #[.int .u64 u, .int .u64 k, .int .u64 v, .int .u64 m] w fun e w' => e = .returned (.bool true) ∧ Below w.heap.size w w' := by
  obtain ⟨h1, h2⟩ := bdu
  obtain ⟨h3, h4⟩ := bdk
  obtain ⟨h5, h6⟩ := bdv
  obtain ⟨h7, h8⟩ := bdm
  obtain ⟨u, rfl⟩ := Int.eq_ofNat_of_zero_le h1
  obtain ⟨k, rfl⟩ := Int.eq_ofNat_of_zero_le h3
  obtain ⟨v, rfl⟩ := Int.eq_ofNat_of_zero_le h5
  obtain ⟨m, rfl⟩ := Int.eq_ofNat_of_zero_le h7
  have HB := Lib.hid (And.intro h2 (And.intro h4 (And.intro h6 h8)))
  clear h1 h2 h3 h4 h5 h6 h7 h8
  go_enter Try.func3, Try.ntmps3
  go_wp2_with fail
  refine (alive_any _).mono ?_
  rintro e w1 ⟨rfl, hB⟩
  by_cases a1 : (100 : Int) < v
  · go_wp2
    go_ret
    exact ⟨rfl, hB⟩
  by_cases a2 : (k : Int) < u
  · go_wp2
    go_ret
    exact ⟨rfl, hB⟩
  by_cases a3 : m = 0
  · subst a3
    go_wp2
    go_ret
    exact ⟨rfl, hB⟩
  by_cases a4 : (9223372036854775808 : Int) < m
  · have a3' : ((m : Int) == 0) = false := beq_eq_false_iff_ne.2 (by omega)
    clear a3
    go_wp2
    go_ret
    exact ⟨rfl, hB⟩
  have a3' : ((m : Int) == 0) = false := beq_eq_false_iff_ne.2 (by omega)
  have HM := Lib.hid (And.intro a3 (show m ≤ mostN by unfold mostN; omega))
  have HK := Lib.hid (show u ≤ k by omega)
  clear a3
  have zB := hB.size
  go_wp2_with fail
  refine (cnew_gen u v _ (by have := HB.out; omega) (by have := HB.out; omega)).mono ?_
  rintro e w2 ⟨hN, hb⟩
  replace hB := keep1 hB hb
  clear hb
  rcases hN with ⟨p, q, rfl, hq⟩ | ⟨b, L, rfl, C, hTab⟩
  · go_wp2_with fail
    refine (cnew_gen k v _ (by have := HB.out; omega) (by have := HB.out; omega)).mono ?_
    rintro e w3 ⟨hN, hb⟩
    replace hB := keep1 hB hb
    clear hb
    rcases hq with rfl | rfl <;> rcases hN with ⟨p2, q2, rfl, hq2⟩ | ⟨b2, L2, rfl, C2, hTab2⟩
    · clear hq2
      go_wp2
      go_ret
      exact ⟨by first | rfl | simp, hB⟩
    · clear C2 hTab2
      go_wp2
      go_ret
      exact ⟨by first | rfl | simp, hB⟩
    · clear hq2
      go_wp2
      go_ret
      exact ⟨by first | rfl | simp, hB⟩
    · clear C2 hTab2
      go_wp2
      go_ret
      exact ⟨by first | rfl | simp, hB⟩
  replace C := Lib.hid C
  go_wp2_with fail
  refine (cnew_gen k v _ (by have := HB.out; omega) (by have := HB.out; omega)).mono ?_
  rintro e w3 ⟨hN, hb⟩
  replace hB := keep1 hB hb
  replace hTab := hTab.below hb
  clear hb
  rcases hN with ⟨p2, q2, rfl, hq2⟩ | ⟨b2, L2, rfl, C2, hTab2⟩
  · rcases hq2 with rfl | rfl
    · go_wp2
      go_ret
      exact ⟨by first | rfl | simp, hB⟩
    · go_wp2
      go_ret
      exact ⟨by first | rfl | simp, hB⟩
  replace C2 := Lib.hid C2
  go_wp2_with fail
  refine (cindex_any b _ _ L _ m w3 hTab C.out.sorted C.out.pos C.out.first (by have := HB.out; omega)).mono ?_
  rintro e w4 ⟨hI, rfl⟩
  rcases hI with ⟨hm, rfl⟩ | ⟨hm1, hm2, i, rfl, hc⟩
  · exfalso
    have := HM.out
    omega
  obtain ⟨k1, k2, k3⟩ := C.out.cell hc hm2
  have hcl := close C.out.u0 C.out.uv C.out.v1 k2 k3
  have e3 := C.out.repL k1
  have hr0 : repN u v (L.getD i 0) ≤ topN := by unfold repN; omega
  obtain ⟨r, hr⟩ : ∃ r, repN u v (L.getD i 0) = r := ⟨_, rfl⟩
  rw [hr] at hcl e3 hr0
  have HH := Lib.hid (And.intro hcl (And.intro e3 (And.intro hr0 hm2)))
  have hlen : L2.length ≤ L.length := chain_fewer HK.out C2.out.uv (Nat.le_refl 1) C.out.chain C2.out.chain
  clear hcl e3 hr0 hm1 hm2 k1 k2 k3 hr hc
  go_wp2_with fail
  refine (crep_any b _ _ L _ i w3 hTab).mono ?_
  rintro e w4 ⟨rfl, rfl⟩
  rw [HH.out.2.1]
  go_wp2_with fail
  refine (clen_any b2 _ _ L2 _ w3 hTab2).mono ?_
  rintro e w4 ⟨rfl, rfl⟩
  go_wp2_with fail
  refine (clen_any b _ _ L _ w3 hTab).mono ?_
  rintro e w4 ⟨rfl, rfl⟩
  have hlen' : (L2.length : Int) ≤ L.length := by omega
  obtain ⟨g, hgp⟩ : ∃ g, max r m - min r m = g := ⟨_, rfl⟩
  have hg64 : g < 18446744073709551616 := by have := HH.out.2.2.1; have := HH.out.2.2.2; unfold topN mostN at *; omega
  have hr64 : r < 18446744073709551616 := by have := HH.out.2.2.1; unfold topN at *; omega
  have hcl : Hid (g * v ≤ m * u) := by have := HH.out.1; rw [hgp] at this; exact this
  have HG := Lib.hid hgp
  clear hlen hTab hTab2 hgp
  go_wp2_with fail
  refine (rtimes_any (m : Int) (k : Int) _ (by omega) (by have := HB.out; omega) (by omega) (by have := HB.out; omega)).mono ?_
  rintro e w4 ⟨x1, y1, p1, p2, p3, p4, p5, rfl, hb⟩
  replace hB := keep1 hB hb
  replace p5 := Lib.hid p5
  clear hb
  go_wp2_with fail
  refine (gap_any r m _ hr64 (by have := HB.out; omega)).mono ?_
  rintro e w5 ⟨rfl, hb⟩
  rw [HG.out]
  replace hB := keep1 hB hb
  clear hb
  go_wp2_with fail
  refine (rtimes_any (g : Int) (v : Int) _ (by omega) (by omega) (by omega) (by have := HB.out; omega)).mono ?_
  rintro e w6 ⟨x2, y2, p6, p7, p8, p9, p10, rfl, hb⟩
  replace hB := keep1 hB hb
  replace p10 := Lib.hid p10
  clear hb
  have hL3 : decide (x1 * 18446744073709551616 + y1 < x2 * 18446744073709551616 + y2) = false := decide_eq_false (by
    rw [p5.out, p10.out]
    have h1 : m * u ≤ m * k := Nat.mul_le_mul_left _ HK.out
    have h2 : ((g * v : Nat) : Int) ≤ ((m * k : Nat) : Int) := by have := hcl.out; omega
    rw [Int.natCast_mul, Int.natCast_mul] at h2
    omega)
  replace hL3 := Lib.hid hL3
  go_wp2_with fail
  refine (rless_any x1 y1 x2 y2 _ p1 p2 p3 p4 p6 p7 p8 p9).mono ?_
  rintro e w7 ⟨rfl, hb⟩
  rw [hL3.out]
  replace hB := keep1 hB hb
  clear hb p1 p2 p3 p4 p6 p7 p8 p9
  go_wp2
  go_ret
  exact ⟨by first | rfl | simp, hB⟩
end Go.Proofs.Ytghklomcgijdpaa

