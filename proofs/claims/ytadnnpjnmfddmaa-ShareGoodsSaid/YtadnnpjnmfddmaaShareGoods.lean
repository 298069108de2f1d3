/- The walk of the statement ShareGoods. -/
import Derived.Test.YtadnnpjnmfddmaaProg
import Derived.Test.YtadnnpjnmfddmaaOpen
import Derived.Test.YtadnnpjnmfddmaaAlive03
import Derived.Test.YtadnnpjnmfddmaaFar
namespace Go.Proofs.Ytadnnpjnmfddmaa
open Go.RowKit Go.BigFrame

set_option maxHeartbeats 2000000 in
theorem shareGoods_walk (w : World) (p0 p1 : Int) (bdp0 : 0 ≤ p0 ∧ p0 < 18446744073709551616) (bdp1 : 0 ≤ p1 ∧ p1 < 18446744073709551616) (n : Int) (bdn : 0 ≤ n ∧ n < 18446744073709551616) :
    Calls Try.prog 3 #[.agg #[.int .u64 p0, .int .u64 p1], .int .u64 n] w fun e w' => e = .returned (.bool true) ∧ Below w.heap.size w w' := by
  obtain ⟨h1, h2⟩ := bdp0
  obtain ⟨h3, h4⟩ := bdp1
  obtain ⟨h5, h6⟩ := bdn
  go_enter Try.func3, Try.ntmps3
  go_wp2_with fail
  refine (alive_any _).mono ?_
  rintro e w1 ⟨rfl, hb⟩
  have s1 : At w1 w.heap.size #[.int .u64 p0, .int .u64 p1] 24 := At.below (At.new' _ _ _ rfl) hb
  have hB : Below w.heap.size w w1 := Below.trans (by repeat (first | with_reducible assumption | with_reducible exact Below.refl _ _ | with_reducible refine Below.drew ?_ | with_reducible refine Below.drewN ?_ _ | with_reducible refine Below.setCell ?_ (by first | omega | (simp; done) | (simp; omega)) _ | with_reducible refine Below.alloc ?_ (by first | omega | (simp; done) | (simp; omega) | (simp [World.setCell]; omega)) _)) (hb.mono (by first | omega | (simp; done) | (simp; omega) | (simp [World.setCell]; omega)))
  have f1 := s1.two
  have zhB := hB.size
  clear hb
  go_wp2_with fail
  refine (place_any _ _ _ _ h1 h2 h3 h4 h5 h6).mono ?_
  rintro e w2 ⟨rfl, hb⟩
  replace s1 : At w2 (w.heap.size) _ _ := At.below (by repeat (first | with_reducible assumption | (with_reducible apply At.new'; (first | with_reducible rfl | (simp; done))) | with_reducible apply At.set2 | with_reducible apply At.alloc | with_reducible apply At.drew | with_reducible apply At.drewN | (with_reducible apply At.set_other; (case hne => first | (simp; done) | (simp; omega))))) hb
  replace hB : Below w.heap.size w w2 := Below.trans (by repeat (first | with_reducible assumption | with_reducible exact Below.refl _ _ | with_reducible refine Below.drew ?_ | with_reducible refine Below.drewN ?_ _ | with_reducible refine Below.setCell ?_ (by first | omega | (simp; done) | (simp; omega)) _ | with_reducible refine Below.alloc ?_ (by first | omega | (simp; done) | (simp; omega) | (simp [World.setCell]; omega)) _)) (hb.mono (by first | omega | (simp; done) | (simp; omega) | (simp [World.setCell]; omega)))
  replace f1 := s1.two
  replace l1 := s1.lt
  replace zhB := hB.size
  clear hb
  go_wp2_with fail
  refine (rplace_any _ _ _ _ h1 h2 h3 h4 h5 h6).mono ?_
  rintro e w3 ⟨rfl, hb⟩
  replace s1 : At w3 (w.heap.size) _ _ := At.below (by repeat (first | with_reducible assumption | (with_reducible apply At.new'; (first | with_reducible rfl | (simp; done))) | with_reducible apply At.set2 | with_reducible apply At.alloc | with_reducible apply At.drew | with_reducible apply At.drewN | (with_reducible apply At.set_other; (case hne => first | (simp; done) | (simp; omega))))) hb
  replace hB : Below w.heap.size w w3 := Below.trans (by repeat (first | with_reducible assumption | with_reducible exact Below.refl _ _ | with_reducible refine Below.drew ?_ | with_reducible refine Below.drewN ?_ _ | with_reducible refine Below.setCell ?_ (by first | omega | (simp; done) | (simp; omega)) _ | with_reducible refine Below.alloc ?_ (by first | omega | (simp; done) | (simp; omega) | (simp [World.setCell]; omega)) _)) (hb.mono (by first | omega | (simp; done) | (simp; omega) | (simp [World.setCell]; omega)))
  replace f1 := s1.two
  replace l1 := s1.lt
  replace zhB := hB.size
  clear hb
  generalize placeT p0 p1 n = t
  generalize placeE p0 p1 n = e
  go_wp2
  cases hG : goodF p0 p1
  all_goals
    have hs := fun W => sgood_any p0 p1 W h1 h2 h3 h4
    have hr := fun W => rgood_any p0 p1 W h1 h2 h3 h4
    simp only [hG] at hs hr
    replace hs := Lib.hid hs
    replace hr := Lib.hid hr
    clear hG
    have hfar1 := fun x : Far w3 => (x.at s1).two
    refine wp_region_far (by kernel_rfl) (by kernel_rfl) ?_
    repeat (first | go_big_quiet_skip | (go_big_quiet_want; go_big_quiet_op; first | go_big_quiet_on | (apply Exists.intro; refine ⟨fun _ => ?_, ?_⟩; (focus (first | (go_at_call 12; exact far_of (hs.out _)) | (go_at_call 13; exact far_of (hr.out _)))); go_big_quiet_on)))
    refine wpQuiet_nil ?_
    rintro _ ⟨xq, rfl⟩
    clear hfar1
    go_wp2
    go_ret
    exact ⟨by first | rfl | simp, keep1 hB xq.below⟩
end Go.Proofs.Ytadnnpjnmfddmaa

