/- The walk of the statement CellsEnds. -/
import Derived.Test.YtghklomcgijdpaaProg
import Derived.Test.YtghklomcgijdpaaOpen
import Derived.Test.YtghklomcgijdpaaAlive11
namespace Go.Proofs.Ytghklomcgijdpaa
open Go.RowKit

set_option maxRecDepth 100000 in
set_option maxHeartbeats 2000000 in
theorem cellsEnds_walk (w : World) (a0 a1 : Int) (bda0 : 0 ≤ a0 ∧ a0 < 18446744073709551616) (bda1 : 0 ≤ a1 ∧ a1 < 18446744073709551616) (p : Int) (bdp : -9223372036854775808 ≤ p ∧ p ≤ 9223372036854775807) :
    Calls Try.prog 5 #[.agg #[.int .u64 a0, .int .u64 a1], .int .i64 p] w fun e w' => e = .returned (.bool true) ∧ Below w.heap.size w w' := by
  obtain ⟨h1, h2⟩ := bda0
  obtain ⟨h3, h4⟩ := bda1
  obtain ⟨h5, h6⟩ := bdp
  obtain ⟨u, rfl⟩ := Int.eq_ofNat_of_zero_le h1
  obtain ⟨v, rfl⟩ := Int.eq_ofNat_of_zero_le h3
  have HB := Lib.hid (And.intro h2 h4)
  clear h1 h2 h3 h4
  obtain ⟨A, hA⟩ : ∃ A : Nat, IntKind.u64.wrap p = A ∧ A < 18446744073709551616 := by
    refine ⟨(IntKind.u64.wrap p).toNat, ?_, ?_⟩
    · simp only [IntKind.wrap_u64]; omega
    · simp only [IntKind.wrap_u64]; omega
  obtain ⟨hA, hA64⟩ := hA
  clear h5 h6
  go_enter Try.func5, Try.ntmps5
  go_wp2_with fail
  refine (alive_any _).mono ?_
  rintro e w1 ⟨rfl, hb1⟩
  have s1 : At w1 w.heap.size #[.int .u64 u, .int .u64 v] 29 := At.below (At.new' _ _ _ rfl) hb1
  have hB : Below w.heap.size w w1 := Below.trans (by repeat (first | with_reducible assumption | with_reducible exact Below.refl _ _ | with_reducible refine Below.drew ?_ | with_reducible refine Below.drewN ?_ _ | with_reducible refine Below.setCell ?_ (by first | omega | (simp; done) | (simp; omega)) _ | with_reducible refine Below.alloc ?_ (by first | omega | (simp; done) | (simp; omega) | (simp [World.setCell]; omega)) _)) (hb1.mono (by first | omega | (simp; done) | (simp; omega) | (simp [World.setCell]; omega)))
  have f1 := s1.two
  have l1 := s1.lt
  clear hb1
  go_wp2_with fail
  refine (cnew_gen u v _ (by have := HB.out; omega) (by have := HB.out; omega)).mono ?_
  rintro e w2 ⟨hN, hb⟩
  replace hB := keep1 hB hb
  clear hb s1 f1 l1
  rcases hN with ⟨p2, q2, rfl, hq2⟩ | ⟨b, L, rfl, C, hTab⟩
  · rcases hq2 with rfl | rfl
    · go_wp2
      go_ret
      exact ⟨by first | rfl | simp, hB⟩
    · go_wp2
      go_ret
      exact ⟨by first | rfl | simp, hB⟩
  -- plain laws
  have pos := C.pos
  have len := C.len
  obtain ⟨n, hn⟩ : ∃ n, L.length = n := ⟨_, rfl⟩
  rw [hn] at pos len
  obtain ⟨i, hi⟩ : ∃ i, A % n = i := ⟨_, rfl⟩
  have hin : i < n := by rw [← hi]; exact Nat.mod_lt _ pos
  have F0 : Hid (Go.Proofs.Ytghklomcgijdpaa.atL L 0 = 1) := by have := C.atL (i := 0) (by omega); rw [C.first] at this; exact this
  have F1 : Hid (Go.Proofs.Ytghklomcgijdpaa.highL L ((n - 1 : Nat) : Int) = 9223372036854775808) := by
    have := C.highL (i := n - 1) (by omega)
    rw [← hn, C.last] at this
    rw [← hn]; exact this
  have F2 := Lib.hid (C.atL (i := i) (by omega))
  have F3 := Lib.hid (C.highL (i := i) (by omega))
  have F4 := Lib.hid (C.at (i := i) (by omega))
  have F5 := Lib.hid (highN_ge C.uv F4.out.2)
  have F6 := Lib.hid (highN_le (u := u) (v := v) (low := L.getD i 0))
  have FR := Lib.hid (C.repL (i := i) (by omega))
  have F7 : Hid (i + 1 < n → L.getD (i + 1) 0 = highN u v (L.getD i 0) + 1 ∧ repN u v (L.getD i 0) ≤ repN u v (L.getD (i + 1) 0) ∧ L.getD i 0 ≤ repN u v (L.getD i 0) ∧ repN u v (L.getD i 0) ≤ highN u v (L.getD i 0) ∧ Go.Proofs.Ytghklomcgijdpaa.atL (L.map (repN u v)) ((i + 1 : Nat) : Int) = repN u v (L.getD (i + 1) 0) ∧ Go.Proofs.Ytghklomcgijdpaa.atL L ((i + 1 : Nat) : Int) = L.getD (i + 1) 0) := fun h => by
    have e := C.next (i := i) (by omega)
    have hlt := C.at (i := i + 1) (by omega)
    have r := repN_in C.uv F4.out.2 (by omega)
    exact ⟨e, repN_mono (by omega), r.1, r.2, C.repL (by omega), C.atL (by omega)⟩
  have HX : Hid (∀ m j, cellAt L m j → L.getD i 0 ≤ m → m ≤ highN u v (L.getD i 0) → j = i) := fun m j hc h1 h2 => C.uniq hc (by omega) h1 h2
  obtain ⟨lo, hlo⟩ : ∃ lo, L.getD i 0 = lo := ⟨_, rfl⟩
  rw [hlo] at F2 F3 F4 F5 F6 FR F7 HX
  obtain ⟨hi', hhi⟩ : ∃ hi', highN u v lo = hi' := ⟨_, rfl⟩
  rw [hhi] at F3 F5 F6 F7 HX
  have hm : (A : Int) % n = i := by omega
  have hn0 : ¬ ((n : Int) = 0) := by omega
  have v1 : IntKind.u64.wrap (n : Int) = n := by simp only [IntKind.wrap_u64]; omega
  have v2 : IntKind.i64.wrap (i : Int) = i := by simp only [IntKind.wrap_i64]; omega
  have v3 : IntKind.i64.wrap ((n : Int) - 1) = ((n - 1 : Nat) : Int) := by simp only [IntKind.wrap_i64]; omega
  have hnL := Lib.hid hn
  have HIN := Lib.hid (And.intro hin (And.intro pos len))
  have HT := Lib.hid hTab
  have HC := Lib.hid C
  clear hTab C hi hin hlo hhi pos len hn
  go_wp2_with fail
  refine (clen_any b _ _ L _ w2 HT.out).mono ?_
  rintro e w3 ⟨rfl, rfl⟩
  rw [hnL.out]
  go_wp2_with fail
  refine (crange_any b _ _ L _ 0 w2 HT.out HC.out.bd).mono ?_
  rintro e w3 ⟨rfl, hb⟩
  rw [F0.out]
  replace HT := Lib.hid (HT.out.below hb)
  replace hB := keep1 hB hb
  clear hb
  go_wp2_with fail
  refine (crange_any b _ _ L _ ((n - 1 : Nat) : Int) w3 HT.out HC.out.bd).mono ?_
  rintro e w4 ⟨rfl, hb⟩
  rw [F1.out]
  replace HT := Lib.hid (HT.out.below hb)
  replace hB := keep1 hB hb
  clear hb
  go_wp2_with fail
  refine (crange_any b _ _ L _ (i : Int) w4 HT.out HC.out.bd).mono ?_
  rintro e w5 ⟨rfl, hb⟩
  rw [F2.out, F3.out]
  replace HT := Lib.hid (HT.out.below hb)
  replace hB := keep1 hB hb
  clear hb
  go_wp2_with fail
  refine (cindex_any b _ _ L _ lo w5 HT.out HC.out.sorted HC.out.pos HC.out.first (by have := F4.out.2; unfold mostN at this; omega)).mono ?_
  rintro e w6 ⟨hI, rfl⟩
  rcases hI with ⟨hm, rfl⟩ | ⟨hm1, hm2, j, rfl, hc⟩
  · exfalso
    have := F4.out
    omega
  obtain rfl := HX.out lo j hc (Nat.le_refl _) F5.out
  clear hm1 hm2 hc
  go_wp2_with fail
  refine (cindex_any b _ _ L _ hi' w5 HT.out HC.out.sorted HC.out.pos HC.out.first (by have := F6.out; unfold mostN at this; omega)).mono ?_
  rintro e w6 ⟨hI, rfl⟩
  rcases hI with ⟨hm, rfl⟩ | ⟨hm1, hm2, k, rfl, hc⟩
  · exfalso
    have := F4.out
    have := F5.out
    have := F6.out
    omega
  obtain rfl := HX.out hi' k hc F5.out (Nat.le_refl _)
  clear hm1 hm2 hc HX
  have le1 : (lo : Int) ≤ hi' := by have := F5.out; omega
  by_cases hlast : k + 1 = n
  · have e1 : ((k : Int) == ((n - 1 : Nat) : Int)) = true := beq_iff_eq.2 (by omega)
    clear F7 hlast
    go_wp2
    go_ret
    exact ⟨by first | rfl | simp, hB⟩
  · have e1 : ((k : Int) == ((n - 1 : Nat) : Int)) = false := beq_eq_false_iff_ne.2 (by have := HIN.out; omega)
    obtain ⟨x1, x2, x3, x4, x5, x6⟩ := F7.out (by have := HIN.out; omega)
    have v4 : IntKind.i64.wrap ((k : Int) + 1) = ((k + 1 : Nat) : Int) := by have := HIN.out; simp only [IntKind.wrap_i64]; omega
    have v5 : IntKind.u64.wrap ((hi' : Int) + 1) = ((hi' + 1 : Nat) : Int) := by have := F6.out; unfold mostN at this; simp only [IntKind.wrap_u64]; omega
    rw [x1] at x6
    obtain ⟨r, hr⟩ : ∃ r, repN u v lo = r := ⟨_, rfl⟩
    obtain ⟨r2, hr2⟩ : ∃ r2, repN u v (L.getD (k + 1) 0) = r2 := ⟨_, rfl⟩
    rw [hr2] at x5 x2
    rw [hr] at x2 x3 x4 FR
    have y2 : (r : Int) ≤ r2 := by omega
    have y3 : (lo : Int) ≤ r := by omega
    have y4 : (r : Int) ≤ hi' := by omega
    have X5 := Lib.hid x5
    have X6 := Lib.hid x6
    clear x1 x2 x3 x4 x5 x6 hr hr2 F7 hlast
    go_wp2_with fail
    refine (crange_any b _ _ L _ ((k + 1 : Nat) : Int) w5 HT.out HC.out.bd).mono ?_
    rintro e w6 ⟨rfl, hb⟩
    rw [X6.out]
    replace HT := Lib.hid (HT.out.below hb)
    replace hB := keep1 hB hb
    clear hb
    go_wp2_with fail
    refine (crep_any b _ _ L _ (k : Int) w6 HT.out).mono ?_
    rintro e w7 ⟨rfl, rfl⟩
    rw [FR.out]
    go_wp2_with fail
    refine (crep_any b _ _ L _ (k : Int) w6 HT.out).mono ?_
    rintro e w7 ⟨rfl, rfl⟩
    rw [FR.out]
    go_wp2_with fail
    refine (crep_any b _ _ L _ ((k + 1 : Nat) : Int) w6 HT.out).mono ?_
    rintro e w7 ⟨rfl, rfl⟩
    rw [X5.out]
    go_wp2_with fail
    refine (crep_any b _ _ L _ (k : Int) w6 HT.out).mono ?_
    rintro e w7 ⟨rfl, rfl⟩
    rw [FR.out]
    go_wp2
    go_ret
    exact ⟨by first | rfl | simp, hB⟩
end Go.Proofs.Ytghklomcgijdpaa

