/- The walk of the statement SharePlaces. -/
import Derived.Test.YtadnnpjnmfddmaaProg
import Derived.Test.YtadnnpjnmfddmaaOpen
import Derived.Test.YtadnnpjnmfddmaaAlive03
import Derived.Test.YtadnnpjnmfddmaaPlaces
import Derived.Test.YtadnnpjnmfddmaaFewer
namespace Go.Proofs.Ytadnnpjnmfddmaa
open Go.RowKit

set_option maxHeartbeats 2000000 in
theorem sharePlaces_walk (w : World) (p0 p1 : Int) (bdp0 : 0 ≤ p0 ∧ p0 < 18446744073709551616) (bdp1 : 0 ≤ p1 ∧ p1 < 18446744073709551616) (q0 q1 : Int) (bdq0 : 0 ≤ q0 ∧ q0 < 18446744073709551616) (bdq1 : 0 ≤ q1 ∧ q1 < 18446744073709551616) (n : Int) (bdn : 0 ≤ n ∧ n < 18446744073709551616) :
    Calls Try.prog 4 #[.agg #[.int .u64 p0, .int .u64 p1], .agg #[.int .u64 q0, .int .u64 q1], .int .u64 n] w fun e w' => e = .returned (.bool true) ∧ Below w.heap.size w w' := by
  obtain ⟨h1, h2⟩ := bdp0
  obtain ⟨h3, h4⟩ := bdp1
  obtain ⟨h5, h6⟩ := bdq0
  obtain ⟨h7, h8⟩ := bdq1
  obtain ⟨h9, h10⟩ := bdn
  go_enter Try.func4, Try.ntmps4
  go_wp2_with fail
  refine (alive_any _).mono ?_
  rintro e w1 ⟨rfl, hb⟩
  have s1 : At w1 w.heap.size #[.int .u64 p0, .int .u64 p1] 24 := At.below ((At.new' _ _ _ rfl).alloc _) hb
  have s2 : At w1 (w.heap.size + 1) #[.int .u64 q0, .int .u64 q1] 24 := At.below (At.new' _ _ _ (by simp)) hb
  have hB : Below w.heap.size w w1 := Below.trans (by repeat (first | with_reducible assumption | with_reducible exact Below.refl _ _ | with_reducible refine Below.drew ?_ | with_reducible refine Below.drewN ?_ _ | with_reducible refine Below.setCell ?_ (by first | omega | (simp; done) | (simp; omega)) _ | with_reducible refine Below.alloc ?_ (by first | omega | (simp; done) | (simp; omega) | (simp [World.setCell]; omega)) _)) (hb.mono (by first | omega | (simp; done) | (simp; omega) | (simp [World.setCell]; omega)))
  have f1 := s1.two
  have f2 := s2.two
  have zhB := hB.size
  clear hb
  go_wp2_with fail
  refine (rgood_any _ _ _ h1 h2 h3 h4).mono ?_
  rintro e w2 ⟨rfl, hb⟩
  replace s1 : At w2 (w.heap.size) _ _ := At.below (by repeat (first | with_reducible assumption | (with_reducible apply At.new'; (first | with_reducible rfl | (simp; done))) | with_reducible apply At.set2 | with_reducible apply At.alloc | with_reducible apply At.drew | with_reducible apply At.drewN | (with_reducible apply At.set_other; (case hne => first | (simp; done) | (simp; omega))))) hb
  replace s2 : At w2 ((w.heap.size + 1)) _ _ := At.below (by repeat (first | with_reducible assumption | (with_reducible apply At.new'; (first | with_reducible rfl | (simp; done))) | with_reducible apply At.set2 | with_reducible apply At.alloc | with_reducible apply At.drew | with_reducible apply At.drewN | (with_reducible apply At.set_other; (case hne => first | (simp; done) | (simp; omega))))) hb
  replace hB : Below w.heap.size w w2 := Below.trans (by repeat (first | with_reducible assumption | with_reducible exact Below.refl _ _ | with_reducible refine Below.drew ?_ | with_reducible refine Below.drewN ?_ _ | with_reducible refine Below.setCell ?_ (by first | omega | (simp; done) | (simp; omega)) _ | with_reducible refine Below.alloc ?_ (by first | omega | (simp; done) | (simp; omega) | (simp [World.setCell]; omega)) _)) (hb.mono (by first | omega | (simp; done) | (simp; omega) | (simp [World.setCell]; omega)))
  replace f1 := s1.two
  replace l1 := s1.lt
  replace f2 := s2.two
  replace l2 := s2.lt
  replace zhB := hB.size
  clear hb
  cases hg : goodF p0 p1
  · go_wp2
    go_ret
    exact ⟨rfl, hB⟩
  go_wp2_with fail
  refine (rgood_any _ _ _ h5 h6 h7 h8).mono ?_
  rintro e w3 ⟨rfl, hb⟩
  replace s1 : At w3 (w.heap.size) _ _ := At.below (by repeat (first | with_reducible assumption | (with_reducible apply At.new'; (first | with_reducible rfl | (simp; done))) | with_reducible apply At.set2 | with_reducible apply At.alloc | with_reducible apply At.drew | with_reducible apply At.drewN | (with_reducible apply At.set_other; (case hne => first | (simp; done) | (simp; omega))))) hb
  replace s2 : At w3 ((w.heap.size + 1)) _ _ := At.below (by repeat (first | with_reducible assumption | (with_reducible apply At.new'; (first | with_reducible rfl | (simp; done))) | with_reducible apply At.set2 | with_reducible apply At.alloc | with_reducible apply At.drew | with_reducible apply At.drewN | (with_reducible apply At.set_other; (case hne => first | (simp; done) | (simp; omega))))) hb
  replace hB : Below w.heap.size w w3 := Below.trans (by repeat (first | with_reducible assumption | with_reducible exact Below.refl _ _ | with_reducible refine Below.drew ?_ | with_reducible refine Below.drewN ?_ _ | with_reducible refine Below.setCell ?_ (by first | omega | (simp; done) | (simp; omega)) _ | with_reducible refine Below.alloc ?_ (by first | omega | (simp; done) | (simp; omega) | (simp [World.setCell]; omega)) _)) (hb.mono (by first | omega | (simp; done) | (simp; omega) | (simp [World.setCell]; omega)))
  replace f1 := s1.two
  replace l1 := s1.lt
  replace f2 := s2.two
  replace l2 := s2.lt
  replace zhB := hB.size
  clear hb
  cases hk : goodF q0 q1
  · go_wp2
    go_ret
    exact ⟨rfl, hB⟩
  by_cases hn : n = 0
  · subst hn
    go_wp2
    go_ret
    exact ⟨rfl, hB⟩
  have hn' : (n == 0) = false := beq_eq_false_iff_ne.2 hn
  have HT := Lib.hid (placeT_is h1 (show 0 < n by omega) h10 hg)
  have HU := Lib.hid (placeT_is h5 (show 0 < n by omega) h10 hk)
  have HG := Lib.hid (goodF_iff.1 hg)
  have HK := Lib.hid (goodF_iff.1 hk)
  have HW := Lib.hid (placeT_whole HG.out.1 (show 0 < n by omega) h10)
  clear hg hk
  obtain ⟨e1, he1⟩ : ∃ e, placeE p0 p1 n = e := ⟨_, rfl⟩
  obtain ⟨e2, he2⟩ : ∃ e, placeE q0 q1 n = e := ⟨_, rfl⟩
  obtain ⟨e3, he3⟩ : ∃ e, placeE p1 p1 n = e := ⟨_, rfl⟩
  obtain ⟨t, ht⟩ : ∃ t, placeT p0 p1 n = t := ⟨_, rfl⟩
  obtain ⟨u, hu⟩ : ∃ t, placeT q0 q1 n = t := ⟨_, rfl⟩
  have hp := fun W => place_any p0 p1 n W h1 h2 h3 h4 h9 h10
  have hq := fun W => place_any q0 q1 n W h5 h6 h7 h8 h9 h10
  have hw := fun W => place_any p1 p1 n W h3 h4 h3 h4 h9 h10
  simp only [ht, he1] at hp
  simp only [hu, he2] at hq
  simp only [HW.out, he3] at hw
  rw [ht] at HT
  rw [hu] at HU
  replace hp := Lib.hid hp
  replace hq := Lib.hid hq
  replace hw := Lib.hid hw
  clear ht hu he1 he2 he3
  have t1 := HT.out.one
  have t2 := HT.out.le
  have u1 := HU.out.one
  have u2 := HU.out.le
  go_wp2_with fail
  refine (hp.out _).mono ?_
  rintro e w4 ⟨rfl, hb⟩
  replace s1 : At w4 (w.heap.size) _ _ := At.below (by repeat (first | with_reducible assumption | (with_reducible apply At.new'; (first | with_reducible rfl | (simp; done))) | with_reducible apply At.set2 | with_reducible apply At.alloc | with_reducible apply At.drew | with_reducible apply At.drewN | (with_reducible apply At.set_other; (case hne => first | (simp; done) | (simp; omega))))) hb
  replace s2 : At w4 ((w.heap.size + 1)) _ _ := At.below (by repeat (first | with_reducible assumption | (with_reducible apply At.new'; (first | with_reducible rfl | (simp; done))) | with_reducible apply At.set2 | with_reducible apply At.alloc | with_reducible apply At.drew | with_reducible apply At.drewN | (with_reducible apply At.set_other; (case hne => first | (simp; done) | (simp; omega))))) hb
  replace hB : Below w.heap.size w w4 := Below.trans (by repeat (first | with_reducible assumption | with_reducible exact Below.refl _ _ | with_reducible refine Below.drew ?_ | with_reducible refine Below.drewN ?_ _ | with_reducible refine Below.setCell ?_ (by first | omega | (simp; done) | (simp; omega)) _ | with_reducible refine Below.alloc ?_ (by first | omega | (simp; done) | (simp; omega) | (simp [World.setCell]; omega)) _)) (hb.mono (by first | omega | (simp; done) | (simp; omega) | (simp [World.setCell]; omega)))
  replace f1 := s1.two
  replace l1 := s1.lt
  replace f2 := s2.two
  replace l2 := s2.lt
  replace zhB := hB.size
  clear hb
  go_wp2_with fail
  refine (hq.out _).mono ?_
  rintro e w5 ⟨rfl, hb⟩
  replace s1 : At w5 (w.heap.size) _ _ := At.below (by repeat (first | with_reducible assumption | (with_reducible apply At.new'; (first | with_reducible rfl | (simp; done))) | with_reducible apply At.set2 | with_reducible apply At.alloc | with_reducible apply At.drew | with_reducible apply At.drewN | (with_reducible apply At.set_other; (case hne => first | (simp; done) | (simp; omega))))) hb
  replace s2 : At w5 ((w.heap.size + 1)) _ _ := At.below (by repeat (first | with_reducible assumption | (with_reducible apply At.new'; (first | with_reducible rfl | (simp; done))) | with_reducible apply At.set2 | with_reducible apply At.alloc | with_reducible apply At.drew | with_reducible apply At.drewN | (with_reducible apply At.set_other; (case hne => first | (simp; done) | (simp; omega))))) hb
  replace hB : Below w.heap.size w w5 := Below.trans (by repeat (first | with_reducible assumption | with_reducible exact Below.refl _ _ | with_reducible refine Below.drew ?_ | with_reducible refine Below.drewN ?_ _ | with_reducible refine Below.setCell ?_ (by first | omega | (simp; done) | (simp; omega)) _ | with_reducible refine Below.alloc ?_ (by first | omega | (simp; done) | (simp; omega) | (simp [World.setCell]; omega)) _)) (hb.mono (by first | omega | (simp; done) | (simp; omega) | (simp [World.setCell]; omega)))
  replace f1 := s1.two
  replace l1 := s1.lt
  replace f2 := s2.two
  replace l2 := s2.lt
  replace zhB := hB.size
  clear hb
  go_wp2_with fail
  refine (hw.out _).mono ?_
  rintro e w6 ⟨rfl, hb⟩
  replace s1 : At w6 (w.heap.size) _ _ := At.below (by repeat (first | with_reducible assumption | (with_reducible apply At.new'; (first | with_reducible rfl | (simp; done))) | with_reducible apply At.set2 | with_reducible apply At.alloc | with_reducible apply At.drew | with_reducible apply At.drewN | (with_reducible apply At.set_other; (case hne => first | (simp; done) | (simp; omega))))) hb
  replace s2 : At w6 ((w.heap.size + 1)) _ _ := At.below (by repeat (first | with_reducible assumption | (with_reducible apply At.new'; (first | with_reducible rfl | (simp; done))) | with_reducible apply At.set2 | with_reducible apply At.alloc | with_reducible apply At.drew | with_reducible apply At.drewN | (with_reducible apply At.set_other; (case hne => first | (simp; done) | (simp; omega))))) hb
  replace hB : Below w.heap.size w w6 := Below.trans (by repeat (first | with_reducible assumption | with_reducible exact Below.refl _ _ | with_reducible refine Below.drew ?_ | with_reducible refine Below.drewN ?_ _ | with_reducible refine Below.setCell ?_ (by first | omega | (simp; done) | (simp; omega)) _ | with_reducible refine Below.alloc ?_ (by first | omega | (simp; done) | (simp; omega) | (simp [World.setCell]; omega)) _)) (hb.mono (by first | omega | (simp; done) | (simp; omega) | (simp [World.setCell]; omega)))
  replace f1 := s1.two
  replace l1 := s1.lt
  replace f2 := s2.two
  replace l2 := s2.lt
  replace zhB := hB.size
  clear hb
  have F1 : Hid (t < u → lessF p0 p1 q0 q1 = true) := fun h => by
    rw [lessF_pos HG.out.1 HK.out.1, decide_eq_true_eq]
    rcases Int.lt_or_le (p0 * q1) (q0 * p1) with h' | h'
    · exact h'
    · have := HT.out.mono HG.out.1 HK.out.1 (show 0 < n by omega) HU.out h'; omega
  have F2 : Hid (t = 1 ∨ lessF (t - 1) n p0 p1 = true) := HT.out.least.imp id fun h => by
    rw [lessF_pos (by omega) HG.out.1, decide_eq_true_eq]; exact h
  have F3 : Hid (lessF t n p0 p1 = false) := by
    show _ = _
    rw [lessF_pos (by omega) HG.out.1, decide_eq_false_iff_not]
    have := HT.out.up
    omega
  clear HT HU HG HK HW hp hq hw
  have hw1 : IntKind.u64.wrap (t - 1) = t - 1 := by simp only [IntKind.wrap_u64]; omega
  by_cases htu : t < u
  · have F1' := Lib.hid (F1.out htu)
    go_wp2_with fail
    refine (fewer_any p0 p1 q0 q1 _ h1 h2 h3 h4 h5 h6 h7 h8).mono ?_
    rintro e w7 ⟨rfl, hb⟩
    rw [F1'.out]
    replace s1 : At w7 (w.heap.size) _ _ := At.below (by repeat (first | with_reducible assumption | (with_reducible apply At.new'; (first | with_reducible rfl | (simp; done))) | with_reducible apply At.set2 | with_reducible apply At.alloc | with_reducible apply At.drew | with_reducible apply At.drewN | (with_reducible apply At.set_other; (case hne => first | (simp; done) | (simp; omega))))) hb
    replace s2 : At w7 ((w.heap.size + 1)) _ _ := At.below (by repeat (first | with_reducible assumption | (with_reducible apply At.new'; (first | with_reducible rfl | (simp; done))) | with_reducible apply At.set2 | with_reducible apply At.alloc | with_reducible apply At.drew | with_reducible apply At.drewN | (with_reducible apply At.set_other; (case hne => first | (simp; done) | (simp; omega))))) hb
    replace hB : Below w.heap.size w w7 := Below.trans (by repeat (first | with_reducible assumption | with_reducible exact Below.refl _ _ | with_reducible refine Below.drew ?_ | with_reducible refine Below.drewN ?_ _ | with_reducible refine Below.setCell ?_ (by first | omega | (simp; done) | (simp; omega)) _ | with_reducible refine Below.alloc ?_ (by first | omega | (simp; done) | (simp; omega) | (simp [World.setCell]; omega)) _)) (hb.mono (by first | omega | (simp; done) | (simp; omega) | (simp [World.setCell]; omega)))
    replace f1 := s1.two
    replace l1 := s1.lt
    replace f2 := s2.two
    replace l2 := s2.lt
    replace zhB := hB.size
    clear hb
    by_cases h1' : t = 1
    · subst h1'
      go_wp2_with fail
      refine (fewer_any 1 n p0 p1 _ (by omega) (by omega) h9 h10 h1 h2 h3 h4).mono ?_
      rintro e w8 ⟨rfl, hb⟩
      rw [F3.out]
      go_wp2
      go_ret
      exact ⟨by first | rfl | simp, keep1 hB hb⟩
    · have g1 : (t == 1) = false := beq_eq_false_iff_ne.2 h1'
      have F2' := F2.out.resolve_left h1'
      replace F2' := Lib.hid F2'
      go_wp2_with fail
      refine (fewer_any (t - 1) n p0 p1 _ (by omega) (by omega) h9 h10 h1 h2 h3 h4).mono ?_
      rintro e w8 ⟨rfl, hb⟩
      rw [F2'.out]
      replace s1 : At w8 (w.heap.size) _ _ := At.below (by repeat (first | with_reducible assumption | (with_reducible apply At.new'; (first | with_reducible rfl | (simp; done))) | with_reducible apply At.set2 | with_reducible apply At.alloc | with_reducible apply At.drew | with_reducible apply At.drewN | (with_reducible apply At.set_other; (case hne => first | (simp; done) | (simp; omega))))) hb
      replace s2 : At w8 ((w.heap.size + 1)) _ _ := At.below (by repeat (first | with_reducible assumption | (with_reducible apply At.new'; (first | with_reducible rfl | (simp; done))) | with_reducible apply At.set2 | with_reducible apply At.alloc | with_reducible apply At.drew | with_reducible apply At.drewN | (with_reducible apply At.set_other; (case hne => first | (simp; done) | (simp; omega))))) hb
      replace hB : Below w.heap.size w w8 := Below.trans (by repeat (first | with_reducible assumption | with_reducible exact Below.refl _ _ | with_reducible refine Below.drew ?_ | with_reducible refine Below.drewN ?_ _ | with_reducible refine Below.setCell ?_ (by first | omega | (simp; done) | (simp; omega)) _ | with_reducible refine Below.alloc ?_ (by first | omega | (simp; done) | (simp; omega) | (simp [World.setCell]; omega)) _)) (hb.mono (by first | omega | (simp; done) | (simp; omega) | (simp [World.setCell]; omega)))
      replace f1 := s1.two
      replace l1 := s1.lt
      replace f2 := s2.two
      replace l2 := s2.lt
      replace zhB := hB.size
      clear hb
      go_wp2_with fail
      refine (fewer_any t n p0 p1 _ (by omega) (by omega) h9 h10 h1 h2 h3 h4).mono ?_
      rintro e w9 ⟨rfl, hb⟩
      rw [F3.out]
      go_wp2
      go_ret
      exact ⟨by first | rfl | simp, keep1 hB hb⟩
  · skip
    by_cases h1' : t = 1
    · subst h1'
      go_wp2_with fail
      refine (fewer_any 1 n p0 p1 _ (by omega) (by omega) h9 h10 h1 h2 h3 h4).mono ?_
      rintro e w8 ⟨rfl, hb⟩
      rw [F3.out]
      go_wp2
      go_ret
      exact ⟨by first | rfl | simp, keep1 hB hb⟩
    · have g1 : (t == 1) = false := beq_eq_false_iff_ne.2 h1'
      have F2' := F2.out.resolve_left h1'
      replace F2' := Lib.hid F2'
      go_wp2_with fail
      refine (fewer_any (t - 1) n p0 p1 _ (by omega) (by omega) h9 h10 h1 h2 h3 h4).mono ?_
      rintro e w8 ⟨rfl, hb⟩
      rw [F2'.out]
      replace s1 : At w8 (w.heap.size) _ _ := At.below (by repeat (first | with_reducible assumption | (with_reducible apply At.new'; (first | with_reducible rfl | (simp; done))) | with_reducible apply At.set2 | with_reducible apply At.alloc | with_reducible apply At.drew | with_reducible apply At.drewN | (with_reducible apply At.set_other; (case hne => first | (simp; done) | (simp; omega))))) hb
      replace s2 : At w8 ((w.heap.size + 1)) _ _ := At.below (by repeat (first | with_reducible assumption | (with_reducible apply At.new'; (first | with_reducible rfl | (simp; done))) | with_reducible apply At.set2 | with_reducible apply At.alloc | with_reducible apply At.drew | with_reducible apply At.drewN | (with_reducible apply At.set_other; (case hne => first | (simp; done) | (simp; omega))))) hb
      replace hB : Below w.heap.size w w8 := Below.trans (by repeat (first | with_reducible assumption | with_reducible exact Below.refl _ _ | with_reducible refine Below.drew ?_ | with_reducible refine Below.drewN ?_ _ | with_reducible refine Below.setCell ?_ (by first | omega | (simp; done) | (simp; omega)) _ | with_reducible refine Below.alloc ?_ (by first | omega | (simp; done) | (simp; omega) | (simp [World.setCell]; omega)) _)) (hb.mono (by first | omega | (simp; done) | (simp; omega) | (simp [World.setCell]; omega)))
      replace f1 := s1.two
      replace l1 := s1.lt
      replace f2 := s2.two
      replace l2 := s2.lt
      replace zhB := hB.size
      clear hb
      go_wp2_with fail
      refine (fewer_any t n p0 p1 _ (by omega) (by omega) h9 h10 h1 h2 h3 h4).mono ?_
      rintro e w9 ⟨rfl, hb⟩
      rw [F3.out]
      go_wp2
      go_ret
      exact ⟨by first | rfl | simp, keep1 hB hb⟩
end Go.Proofs.Ytadnnpjnmfddmaa

