/- The walk of the statement CellsClose. -/
import Derived.Test.YtghklomcgijdpaaProg
import Derived.Test.YtghklomcgijdpaaOpen
import Derived.Test.YtghklomcgijdpaaAlive11
namespace Go.Proofs.Ytghklomcgijdpaa
open Go.RowKit

set_option maxRecDepth 100000 in
set_option maxHeartbeats 2000000 in
theorem cellsClose_walk (w : World) (a0 a1 : Int) (bda0 : 0 ≤ a0 ∧ a0 < 18446744073709551616) (bda1 : 0 ≤ a1 ∧ a1 < 18446744073709551616) (m : Int) (bdm : 0 ≤ m ∧ m < 18446744073709551616) :
    Calls Try.prog 4 #[.agg #[.int .u64 a0, .int .u64 a1], .int .u64 m] w fun e w' => e = .returned (.bool true) ∧ Below w.heap.size w w' := by
  obtain ⟨h1, h2⟩ := bda0
  obtain ⟨h3, h4⟩ := bda1
  obtain ⟨h5, h6⟩ := bdm
  go_enter Try.func4, Try.ntmps4
  go_wp2_with fail
  refine (alive_any _).mono ?_
  rintro e w1 ⟨rfl, hb1⟩
  have s1 : At w1 w.heap.size #[.int .u64 a0, .int .u64 a1] 29 := At.below (At.new' _ _ _ rfl) hb1
  have hB : Below w.heap.size w w1 := Below.trans (by repeat (first | with_reducible assumption | with_reducible exact Below.refl _ _ | with_reducible refine Below.drew ?_ | with_reducible refine Below.drewN ?_ _ | with_reducible refine Below.setCell ?_ (by first | omega | (simp; done) | (simp; omega)) _ | with_reducible refine Below.alloc ?_ (by first | omega | (simp; done) | (simp; omega) | (simp [World.setCell]; omega)) _)) (hb1.mono (by first | omega | (simp; done) | (simp; omega) | (simp [World.setCell]; omega)))
  have f1 := s1.two
  have l1 := s1.lt
  have zB := hB.size
  clear hb1
  cases hg : goodC a0 a1
  · go_wp2_with fail
    refine (cnew_bad a0 a1 _ h1 h2 h3 h4 hg).mono ?_
    rintro e w2 ⟨rfl, hb⟩
    replace s1 : At w2 (w.heap.size) _ _ := At.below (by repeat (first | with_reducible assumption | (with_reducible apply At.new'; (first | with_reducible rfl | (simp; done))) | with_reducible apply At.set2 | with_reducible apply At.alloc | with_reducible apply At.drew | with_reducible apply At.drewN | (with_reducible apply At.set_other; (case hne => first | (simp; done) | (simp; omega))))) hb
    replace hB : Below w.heap.size w w2 := Below.trans (by repeat (first | with_reducible assumption | with_reducible exact Below.refl _ _ | with_reducible refine Below.drew ?_ | with_reducible refine Below.drewN ?_ _ | with_reducible refine Below.setCell ?_ (by first | omega | (simp; done) | (simp; omega)) _ | with_reducible refine Below.alloc ?_ (by first | omega | (simp; done) | (simp; omega) | (simp [World.setCell]; omega)) _)) (hb.mono (by first | omega | (simp; done) | (simp; omega) | (simp [World.setCell]; omega)))
    replace f1 := s1.two
    replace l1 := s1.lt
    replace zhB := hB.size
    clear hb
    go_wp2_with fail
    refine (rgoodC_any a0 a1 _ h1 h2 h3 h4).mono ?_
    rintro e w3 ⟨rfl, hb⟩
    rw [hg]
    replace s1 : At w3 (w.heap.size) _ _ := At.below (by repeat (first | with_reducible assumption | (with_reducible apply At.new'; (first | with_reducible rfl | (simp; done))) | with_reducible apply At.set2 | with_reducible apply At.alloc | with_reducible apply At.drew | with_reducible apply At.drewN | (with_reducible apply At.set_other; (case hne => first | (simp; done) | (simp; omega))))) hb
    replace hB : Below w.heap.size w w3 := Below.trans (by repeat (first | with_reducible assumption | with_reducible exact Below.refl _ _ | with_reducible refine Below.drew ?_ | with_reducible refine Below.drewN ?_ _ | with_reducible refine Below.setCell ?_ (by first | omega | (simp; done) | (simp; omega)) _ | with_reducible refine Below.alloc ?_ (by first | omega | (simp; done) | (simp; omega) | (simp [World.setCell]; omega)) _)) (hb.mono (by first | omega | (simp; done) | (simp; omega) | (simp [World.setCell]; omega)))
    replace f1 := s1.two
    replace l1 := s1.lt
    replace zhB := hB.size
    clear hb
    clear hg
    go_wp2
    go_ret
    exact ⟨by first | rfl | simp, hB⟩
  have G := goodC_iff.1 hg
  obtain ⟨u, rfl⟩ := Int.eq_ofNat_of_zero_le h1
  obtain ⟨v, rfl⟩ := Int.eq_ofNat_of_zero_le h3
  obtain ⟨m, rfl⟩ := Int.eq_ofNat_of_zero_le h5
  obtain ⟨g1, g2, g3⟩ := G
  go_wp2_with fail
  refine (cnew_good u v _ (by omega) (by omega) (by omega)).mono ?_
  rintro e w2 ⟨hN, hb⟩
  replace s1 : At w2 (w.heap.size) _ _ := At.below (by repeat (first | with_reducible assumption | (with_reducible apply At.new'; (first | with_reducible rfl | (simp; done))) | with_reducible apply At.set2 | with_reducible apply At.alloc | with_reducible apply At.drew | with_reducible apply At.drewN | (with_reducible apply At.set_other; (case hne => first | (simp; done) | (simp; omega))))) hb
  replace hB : Below w.heap.size w w2 := Below.trans (by repeat (first | with_reducible assumption | with_reducible exact Below.refl _ _ | with_reducible refine Below.drew ?_ | with_reducible refine Below.drewN ?_ _ | with_reducible refine Below.setCell ?_ (by first | omega | (simp; done) | (simp; omega)) _ | with_reducible refine Below.alloc ?_ (by first | omega | (simp; done) | (simp; omega) | (simp [World.setCell]; omega)) _)) (hb.mono (by first | omega | (simp; done) | (simp; omega) | (simp [World.setCell]; omega)))
  replace f1 := s1.two
  replace l1 := s1.lt
  replace zhB := hB.size
  clear hb
  unfold NewR at hN
  cases hL : cellsF u v 4096 1 with
  | none =>
    rw [hL] at hN
    subst hN
    clear hL
    go_wp2_with fail
    refine (rgoodC_any u v _ h1 h2 h3 h4).mono ?_
    rintro e w3 ⟨rfl, hb⟩
    rw [hg]
    replace s1 : At w3 (w.heap.size) _ _ := At.below (by repeat (first | with_reducible assumption | (with_reducible apply At.new'; (first | with_reducible rfl | (simp; done))) | with_reducible apply At.set2 | with_reducible apply At.alloc | with_reducible apply At.drew | with_reducible apply At.drewN | (with_reducible apply At.set_other; (case hne => first | (simp; done) | (simp; omega))))) hb
    replace hB : Below w.heap.size w w3 := Below.trans (by repeat (first | with_reducible assumption | with_reducible exact Below.refl _ _ | with_reducible refine Below.drew ?_ | with_reducible refine Below.drewN ?_ _ | with_reducible refine Below.setCell ?_ (by first | omega | (simp; done) | (simp; omega)) _ | with_reducible refine Below.alloc ?_ (by first | omega | (simp; done) | (simp; omega) | (simp [World.setCell]; omega)) _)) (hb.mono (by first | omega | (simp; done) | (simp; omega) | (simp [World.setCell]; omega)))
    replace f1 := s1.two
    replace l1 := s1.lt
    replace zhB := hB.size
    clear hb
    clear hg
    go_wp2
    go_ret
    exact ⟨by first | rfl | simp, hB⟩
  | some L =>
    rw [hL] at hN
    obtain ⟨b, rfl, hTab⟩ := hN
    have C := CellsOf.of hL (by omega) (by omega) (by omega)
    clear hL hg
    go_wp2_with fail
    refine (cindex_any b _ _ L _ m w2 hTab C.sorted C.pos C.first (by omega)).mono ?_
    rintro e w3 ⟨hI, rfl⟩
    rcases hI with ⟨hm, rfl⟩ | ⟨hm1, hm2, i, rfl, hc⟩
    · rcases hm with rfl | hm
      · go_wp2
        go_ret
        exact ⟨by first | rfl | simp, hB⟩
      · have hm' : (9223372036854775808 : Int) < m := by unfold mostN at hm; omega
        have hm0 : ((m : Int) == 0) = false := beq_eq_false_iff_ne.2 (by omega)
        clear hm
        go_wp2
        go_ret
        exact ⟨by first | rfl | simp, hB⟩
    obtain ⟨k1, k2, k3⟩ := C.cell hc hm2
    have hcl := close C.u0 C.uv C.v1 k2 k3
    have e1 := C.atL k1
    have e2 := C.highL k1
    have e3 := C.repL k1
    have hm0 : ((m : Int) == 0) = false := beq_eq_false_iff_ne.2 (by omega)
    have hm' : ¬ (9223372036854775808 : Int) < m := by unfold mostN at hm2; omega
    have hr0 : repN u v (L.getD i 0) ≤ topN := by unfold repN; omega
    have hh0 := highN_le (u := u) (v := v) (low := L.getD i 0)
    obtain ⟨r, hr⟩ : ∃ r, repN u v (L.getD i 0) = r := ⟨_, rfl⟩
    obtain ⟨hi, hhi⟩ : ∃ hi, highN u v (L.getD i 0) = hi := ⟨_, rfl⟩
    obtain ⟨lo, hlo⟩ : ∃ lo, L.getD i 0 = lo := ⟨_, rfl⟩
    rw [hr] at hcl e3 hr0
    rw [hhi] at k3 e2 hh0
    rw [hlo] at k2 e1
    clear hr hhi hlo hc
    have HH := Lib.hid (And.intro hcl (And.intro e1 (And.intro e2 (And.intro e3 (And.intro hr0 (And.intro hh0 (And.intro k2 (And.intro k3 (And.intro hm1 hm2)))))))))
    replace C := Lib.hid C
    have HB6 := Lib.hid (And.intro h6 (And.intro g1 (And.intro g2 g3)))
    clear hcl e1 e2 e3 hr0 hh0 k1 k2 k3 hm1 hm2 h1 h2 h3 h4 h5 h6 g1 g2 g3
    go_wp2_with fail
    refine (crange_any b _ _ L _ i w2 hTab C.out.bd).mono ?_
    rintro e w3 ⟨rfl, hb⟩
    rw [HH.out.2.1, HH.out.2.2.1]
    replace hTab := hTab.below hb
    replace s1 : At w3 (w.heap.size) _ _ := At.below (by repeat (first | with_reducible assumption | (with_reducible apply At.new'; (first | with_reducible rfl | (simp; done))) | with_reducible apply At.set2 | with_reducible apply At.alloc | with_reducible apply At.drew | with_reducible apply At.drewN | (with_reducible apply At.set_other; (case hne => first | (simp; done) | (simp; omega))))) hb
    replace hB : Below w.heap.size w w3 := Below.trans (by repeat (first | with_reducible assumption | with_reducible exact Below.refl _ _ | with_reducible refine Below.drew ?_ | with_reducible refine Below.drewN ?_ _ | with_reducible refine Below.setCell ?_ (by first | omega | (simp; done) | (simp; omega)) _ | with_reducible refine Below.alloc ?_ (by first | omega | (simp; done) | (simp; omega) | (simp [World.setCell]; omega)) _)) (hb.mono (by first | omega | (simp; done) | (simp; omega) | (simp [World.setCell]; omega)))
    replace f1 := s1.two
    replace l1 := s1.lt
    replace zhB := hB.size
    clear hb
    go_wp2_with fail
    refine (crep_any b _ _ L _ i w3 hTab).mono ?_
    rintro e w4 ⟨rfl, rfl⟩
    rw [HH.out.2.2.2.1]
    obtain ⟨h6, g1, g2, g3⟩ := HB6.out
    obtain ⟨hcl, e1, e2, e3, hr0, hh0, k2, k3, hm1, hm2⟩ := HH.out
    clear HH
    obtain ⟨g, hgp⟩ : ∃ g, max r m - min r m = g := ⟨_, rfl⟩
    rw [hgp] at hcl
    have hg64 : g < 18446744073709551616 := by unfold topN at hr0; unfold mostN at hm2; omega
    have hGap := Lib.hid (fun W => gap_any r m W (by unfold topN at hr0; omega) (by omega))
    rw [hgp] at hGap
    obtain ⟨x1, y1, p1, p2, p3, p4, p5, H1⟩ := rtimes_fix (m : Int) (u : Int) (by omega) (by omega) (by omega) (by omega)
    obtain ⟨x2, y2, p6, p7, p8, p9, p10, H2⟩ := rtimes_fix (g : Int) (v : Int) (by omega) (by omega) (by omega) (by omega)
    have hcl' : ((g * v : Nat) : Int) ≤ ((m * u : Nat) : Int) := by exact_mod_cast hcl
    rw [Int.natCast_mul, Int.natCast_mul] at hcl'
    have hL3 : decide (x1 * 18446744073709551616 + y1 < x2 * 18446744073709551616 + y2) = false := decide_eq_false (by rw [p5, p10]; omega)
    have H3 := Lib.hid (fun W => by
      have := rless_any x1 y1 x2 y2 W p1 p2 p3 p4 p6 p7 p8 p9
      rw [hL3] at this
      exact this)
    replace H1 := Lib.hid H1
    replace H2 := Lib.hid H2
    have q1 : (lo : Int) ≤ m := by omega
    have q2 : (m : Int) ≤ hi := by omega
    clear hL3 hcl hcl' p5 p10 e1 e2 e3 hTab C hgp
    go_wp2
    have hfar1 := fun x : Far w3 => (x.at s1).two
    refine wp_region_far (by kernel_rfl) (by kernel_rfl) ?_
    repeat (first | go_big_quiet_skip | (go_big_quiet_want; go_big_quiet_op; first | go_big_quiet_on | (apply Exists.intro; refine ⟨fun _ => ?_, ?_⟩; (focus (first | (go_at_call 14; with_reducible exact far_of (H1.out _)) | (go_at_call 14; with_reducible exact far_of (H2.out _)) | (go_at_call 15; exact far_of (hGap.out _)) | (go_at_call 13; exact far_of (H3.out _)))); go_big_quiet_on)))
    refine wpQuiet_nil ?_
    rintro _ ⟨xq, rfl⟩
    clear hfar1
    have hxb := keep1 hB xq.below
    go_wp2
    go_ret
    exact ⟨by first | rfl | simp, hxb⟩
end Go.Proofs.Ytghklomcgijdpaa

