/- The walk of the statement SharePercent. -/
import Derived.Test.YtadnnpjnmfddmaaProg
import Derived.Test.YtadnnpjnmfddmaaOpen
import Derived.Test.YtadnnpjnmfddmaaAlive03
import Derived.Test.YtadnnpjnmfddmaaDivisor
import Derived.Test.YtadnnpjnmfddmaaPlaces
import Derived.Laws.BytesArg
namespace Go.Proofs.Ytadnnpjnmfddmaa
open Go.RowKit

theorem place_least {a d n : Int} {g x y : Nat} (hg : 0 < g) (ha : a = (g * x : Nat)) (hd : d = (g * y : Nat)) (hd0 : 0 < d) (had : a ≤ d) (hn : 0 ≤ n) (hn' : n < 18446744073709551616) :
    placeT x y n = placeT a d n ∧ placeE x y n = placeE a d n := by
  have hy : 0 < y := by
    rcases Nat.eq_zero_or_pos y with rfl | h
    · rw [Nat.mul_zero] at hd; omega
    · exact h
  have hxy : x ≤ y := by
    have h1 : g * x ≤ g * y := by omega
    exact Nat.le_of_mul_le_mul_left h1 hg
  have g1 : goodF a d = true := goodF_iff.2 ⟨hd0, had⟩
  have g2 : goodF x y = true := goodF_iff.2 ⟨by omega, by omega⟩
  refine ⟨?_, by unfold placeE; rw [g1, g2]⟩
  by_cases h0 : n = 0
  · unfold placeT
    rw [g1, g2, if_pos h0, if_pos h0]
  · have p1 := placeT_is (a := x) (d := y) (n := n) (by omega) (by omega) hn' g2
    have p2 := placeT_is (a := a) (d := d) (n := n) (by omega) (by omega) hn' g1
    have e : a * y = x * d := by
      rw [ha, hd]
      have h1 : g * x * y = x * (g * y) := by rw [Nat.mul_comm g x, Nat.mul_assoc]
      exact_mod_cast h1
    have l1 := p1.mono (by omega) hd0 (by omega) p2 (by omega)
    have l2 := p2.mono hd0 (by omega) (by omega) p1 (by omega)
    omega
theorem place_leastF {K : Nat} {n : Int} (hK : K ≤ 100) (hn : 0 ≤ n) (hn' : n < 18446744073709551616) :
    placeT ((leastF K 100).1 : Nat) ((leastF K 100).2 : Nat) n = placeT K 100 n ∧ placeE ((leastF K 100).1 : Nat) ((leastF K 100).2 : Nat) n = placeE K 100 n := by
  have hg : 0 < Nat.gcd K 100 := Nat.gcd_pos_of_pos_right _ (by omega)
  unfold leastF
  rw [if_neg (by omega)]
  exact place_least hg (by rw [Nat.mul_div_cancel' (Nat.gcd_dvd_left K 100)]) (by rw [Nat.mul_div_cancel' (Nat.gcd_dvd_right K 100)]; rfl) (by omega) (by omega) hn hn'
theorem leastF_bd {K : Nat} (hK : K ≤ 100) : (leastF K 100).1 ≤ 100 ∧ (leastF K 100).2 ≤ 100 := by
  unfold leastF
  split
  · exact ⟨hK, Nat.le_refl _⟩
  · exact ⟨Nat.le_trans (Nat.div_le_self _ _) hK, Nat.div_le_self _ _⟩

def Told (T : ByteArray) (K : Nat) : Prop := readV (T ++ ⟨#[37]⟩) = (((K : Int), 100), true) ∧ readV (T ++ ⟨#[47, 49, 48, 48]⟩) = (((K : Int), 100), true) ∧ (T ++ ⟨#[37]⟩).size ≤ 10 ∧ (T ++ ⟨#[47, 49, 48, 48]⟩).size ≤ 10
instance (T : ByteArray) (K : Nat) : Decidable (Told T K) := by unfold Told; infer_instance
theorem told_one : ∀ K : Fin 10, Told ((strOfNums [48 + (K.1 : Int) / 10, 48 + (K.1 : Int) % 10]).extract 1 2) K.1 := by decide +kernel
theorem told_two : ∀ K : Fin 100, 10 ≤ K.1 → Told (strOfNums [48 + (K.1 : Int) / 10, 48 + (K.1 : Int) % 10]) K.1 := by decide +kernel
theorem told_all : Told ⟨#[49, 48, 48]⟩ 100 := by decide +kernel

set_option maxRecDepth 100000 in
set_option maxHeartbeats 2000000 in
theorem sharePercent_walk (w : World) (k : Int) (bdk : -9223372036854775808 ≤ k ∧ k ≤ 9223372036854775807) (n : Int) (bdn : 0 ≤ n ∧ n < 18446744073709551616) :
    Calls Try.prog 8 #[.int .i64 k, .int .u64 n] w fun e w' => e = .returned (.bool true) ∧ Below w.heap.size w w' := by
  obtain ⟨h1, h2⟩ := bdk
  obtain ⟨h3, h4⟩ := bdn
  go_enter Try.func8, Try.ntmps8
  go_wp2_with fail
  refine (alive_any _).mono ?_
  rintro e w1 ⟨rfl, hb1⟩
  have z1 := hb1.size
  by_cases hk0 : k < 0
  · go_wp2
    go_ret
    exact ⟨rfl, hb1⟩
  by_cases hk1 : 100 < k
  · go_wp2
    go_ret
    exact ⟨rfl, hb1⟩
  obtain ⟨K, rfl⟩ : ∃ K : Nat, k = K := ⟨k.toNat, by omega⟩
  have hK : K ≤ 100 := by omega
  clear hk0 hk1 h1 h2
  have hk0 : ¬ ((K : Int) < 0) := by omega
  have hk1 : ¬ ((100 : Int) < K) := by omega
  have hcv := run_convert_bytes_arg (P := Try.prog) (w1.alloc (.cells #[.int .u8 (48 + (K : Int) / 10), .int .u8 (48 + (K : Int) % 10)] 5)) 44 5 (by kernel_rfl) (by kernel_rfl) w1.heap.size 0 2 2 [48 + (K : Int) / 10, 48 + (K : Int) % 10] rfl
    (fun i hi => by
      have h := At.new w1 #[.int .u8 (48 + (K : Int) / 10), .int .u8 (48 + (K : Int) % 10)] 5
      rcases (show i = 0 ∨ i = 1 by omega) with rfl | rfl
      · exact h.cell rfl
      · exact h.cell rfl) 9 (by kernel_rfl)
  by_cases hk2 : K < 10
  · have HT := told_one ⟨K, hk2⟩
    have hk2' : (K : Int) < 10 := by omega
    dsimp only at HT
    obtain ⟨T0, hT0⟩ : ∃ T0, strOfNums [48 + (K : Int) / 10, 48 + (K : Int) % 10] = T0 := ⟨_, rfl⟩
    have hsz : T0.size = 2 := by rw [← hT0]; rfl
    rw [hT0] at hcv HT
    clear hT0
    obtain ⟨HA, HB, zA, zB⟩ := HT
    replace HA := Lib.hid HA
    replace HB := Lib.hid HB
    replace zA := Lib.hid zA
    replace zB := Lib.hid zB
    go_wp2_with fail
    refine (read_any _ _ ?hs).mono ?_
    case hs => exact Nat.le_trans zA.out (by decide)
    rintro e w2 ⟨rfl, hb⟩
    rw [HA.out]
    have hB : Below w.heap.size w w2 := Below.trans (by repeat (first | with_reducible assumption | with_reducible exact Below.refl _ _ | with_reducible refine Below.drew ?_ | with_reducible refine Below.drewN ?_ _ | with_reducible refine Below.setCell ?_ (by first | omega | (simp; done) | (simp; omega)) _ | with_reducible refine Below.alloc ?_ (by first | omega | (simp; done) | (simp; omega) | (simp [World.setCell]; omega)) _)) (hb.mono (by first | omega | (simp; done) | (simp; omega) | (simp [World.setCell]; omega)))
    have z2 := hB.size
    clear hb hcv HA
    unfold partV
    dsimp only
    go_wp2_with fail
    refine (read_any _ _ ?hs).mono ?_
    case hs => exact Nat.le_trans zB.out (by decide)
    rintro e w3 ⟨rfl, hb'⟩
    rw [HB.out]
    have s1 : At w3 w2.heap.size #[.int .u64 K, .int .u64 100] 24 := At.below (At.new' _ _ _ rfl) hb'
    replace hB : Below w.heap.size w w3 := Below.trans (by repeat (first | with_reducible assumption | with_reducible exact Below.refl _ _ | with_reducible refine Below.drew ?_ | with_reducible refine Below.drewN ?_ _ | with_reducible refine Below.setCell ?_ (by first | omega | (simp; done) | (simp; omega)) _ | with_reducible refine Below.alloc ?_ (by first | omega | (simp; done) | (simp; omega) | (simp [World.setCell]; omega)) _)) (hb'.mono (by first | omega | (simp; done) | (simp; omega) | (simp [World.setCell]; omega)))
    have z3 := hB.size
    have f1 := s1.two
    have l1 := s1.lt
    clear hb' HB z2
    unfold partV
    dsimp only
    have HP := Lib.hid (place_leastF hK h3 h4)
    have s2 := At.new w3 #[.int .u64 K, .int .u64 100] 24
    go_wp2_with fail
    refine (place_any K 100 n _ (by omega) (by omega) (by omega) (by omega) h3 h4).mono ?_
    rintro e w4 ⟨rfl, hb'⟩
    replace s1 : At w4 (w2.heap.size) _ _ := At.below (by repeat (first | with_reducible assumption | (with_reducible apply At.new'; (first | with_reducible rfl | (simp; done))) | with_reducible apply At.set2 | with_reducible apply At.alloc | with_reducible apply At.drew | with_reducible apply At.drewN | (with_reducible apply At.set_other; (case hne => first | (simp; done) | (simp; omega))))) hb'
    replace s2 : At w4 (w3.heap.size) _ _ := At.below (by repeat (first | with_reducible assumption | (with_reducible apply At.new'; (first | with_reducible rfl | (simp; done))) | with_reducible apply At.set2 | with_reducible apply At.alloc | with_reducible apply At.drew | with_reducible apply At.drewN | (with_reducible apply At.set_other; (case hne => first | (simp; done) | (simp; omega))))) hb'
    replace hB : Below w.heap.size w w4 := Below.trans (by repeat (first | with_reducible assumption | with_reducible exact Below.refl _ _ | with_reducible refine Below.drew ?_ | with_reducible refine Below.drewN ?_ _ | with_reducible refine Below.setCell ?_ (by first | omega | (simp; done) | (simp; omega)) _ | with_reducible refine Below.alloc ?_ (by first | omega | (simp; done) | (simp; omega) | (simp [World.setCell]; omega)) _)) (hb'.mono (by first | omega | (simp; done) | (simp; omega) | (simp [World.setCell]; omega)))
    replace f1 := s1.two
    replace l1 := s1.lt
    replace f2 := s2.two
    replace l2 := s2.lt
    replace zhB := hB.size
    clear hb'
    go_wp2_with fail
    refine (least_any K 100 _ (by omega) (by omega)).mono ?_
    rintro e w5 ⟨rfl, hb'⟩
    replace s1 : At w5 (w2.heap.size) _ _ := At.below (by repeat (first | with_reducible assumption | (with_reducible apply At.new'; (first | with_reducible rfl | (simp; done))) | with_reducible apply At.set2 | with_reducible apply At.alloc | with_reducible apply At.drew | with_reducible apply At.drewN | (with_reducible apply At.set_other; (case hne => first | (simp; done) | (simp; omega))))) hb'
    replace s2 : At w5 (w3.heap.size) _ _ := At.below (by repeat (first | with_reducible assumption | (with_reducible apply At.new'; (first | with_reducible rfl | (simp; done))) | with_reducible apply At.set2 | with_reducible apply At.alloc | with_reducible apply At.drew | with_reducible apply At.drewN | (with_reducible apply At.set_other; (case hne => first | (simp; done) | (simp; omega))))) hb'
    replace hB : Below w.heap.size w w5 := Below.trans (by repeat (first | with_reducible assumption | with_reducible exact Below.refl _ _ | with_reducible refine Below.drew ?_ | with_reducible refine Below.drewN ?_ _ | with_reducible refine Below.setCell ?_ (by first | omega | (simp; done) | (simp; omega)) _ | with_reducible refine Below.alloc ?_ (by first | omega | (simp; done) | (simp; omega) | (simp [World.setCell]; omega)) _)) (hb'.mono (by first | omega | (simp; done) | (simp; omega) | (simp [World.setCell]; omega)))
    replace f1 := s1.two
    replace l1 := s1.lt
    replace f2 := s2.two
    replace l2 := s2.lt
    replace zhB := hB.size
    clear hb'
    have lb := leastF_bd hK
    go_wp2_with fail
    refine (place_any _ _ n _ (by omega) (by omega) (by omega) (by omega) h3 h4).mono ?_
    rintro e w6 ⟨rfl, hb'⟩
    rw [HP.out.1, HP.out.2]
    replace s1 : At w6 (w2.heap.size) _ _ := At.below (by repeat (first | with_reducible assumption | (with_reducible apply At.new'; (first | with_reducible rfl | (simp; done))) | with_reducible apply At.set2 | with_reducible apply At.alloc | with_reducible apply At.drew | with_reducible apply At.drewN | (with_reducible apply At.set_other; (case hne => first | (simp; done) | (simp; omega))))) hb'
    replace s2 : At w6 (w3.heap.size) _ _ := At.below (by repeat (first | with_reducible assumption | (with_reducible apply At.new'; (first | with_reducible rfl | (simp; done))) | with_reducible apply At.set2 | with_reducible apply At.alloc | with_reducible apply At.drew | with_reducible apply At.drewN | (with_reducible apply At.set_other; (case hne => first | (simp; done) | (simp; omega))))) hb'
    replace hB : Below w.heap.size w w6 := Below.trans (by repeat (first | with_reducible assumption | with_reducible exact Below.refl _ _ | with_reducible refine Below.drew ?_ | with_reducible refine Below.drewN ?_ _ | with_reducible refine Below.setCell ?_ (by first | omega | (simp; done) | (simp; omega)) _ | with_reducible refine Below.alloc ?_ (by first | omega | (simp; done) | (simp; omega) | (simp [World.setCell]; omega)) _)) (hb'.mono (by first | omega | (simp; done) | (simp; omega) | (simp [World.setCell]; omega)))
    replace f1 := s1.two
    replace l1 := s1.lt
    replace f2 := s2.two
    replace l2 := s2.lt
    replace zhB := hB.size
    clear hb'
    go_wp2
    go_ret
    exact ⟨by first | rfl | simp, (by repeat (first | with_reducible assumption | with_reducible exact Below.refl _ _ | with_reducible refine Below.drew ?_ | with_reducible refine Below.drewN ?_ _ | with_reducible refine Below.setCell ?_ (by first | omega | (simp; done) | (simp; omega)) _ | with_reducible refine Below.alloc ?_ (by first | omega | (simp; done) | (simp; omega) | (simp [World.setCell]; omega)) _))⟩
  by_cases hk3 : K = 100
  · have HT := told_all
    rw [← hk3] at HT
    have hk3' : ((K : Int) == 100) = true := by rw [hk3]; rfl
    have hk2' : ¬ (K : Int) < 10 := by omega
    clear hk3
    obtain ⟨HA, HB, zA, zB⟩ := HT
    replace HA := Lib.hid HA
    replace HB := Lib.hid HB
    replace zA := Lib.hid zA
    replace zB := Lib.hid zB
    go_wp2_with fail
    refine (read_any _ _ ?hs).mono ?_
    case hs => exact Nat.le_trans zA.out (by decide)
    rintro e w2 ⟨rfl, hb⟩
    rw [HA.out]
    have hB : Below w.heap.size w w2 := Below.trans (by repeat (first | with_reducible assumption | with_reducible exact Below.refl _ _ | with_reducible refine Below.drew ?_ | with_reducible refine Below.drewN ?_ _ | with_reducible refine Below.setCell ?_ (by first | omega | (simp; done) | (simp; omega)) _ | with_reducible refine Below.alloc ?_ (by first | omega | (simp; done) | (simp; omega) | (simp [World.setCell]; omega)) _)) (hb.mono (by first | omega | (simp; done) | (simp; omega) | (simp [World.setCell]; omega)))
    have z2 := hB.size
    clear hb hcv HA
    unfold partV
    dsimp only
    go_wp2_with fail
    refine (read_any _ _ ?hs).mono ?_
    case hs => exact Nat.le_trans zB.out (by decide)
    rintro e w3 ⟨rfl, hb'⟩
    rw [HB.out]
    have s1 : At w3 w2.heap.size #[.int .u64 K, .int .u64 100] 24 := At.below (At.new' _ _ _ rfl) hb'
    replace hB : Below w.heap.size w w3 := Below.trans (by repeat (first | with_reducible assumption | with_reducible exact Below.refl _ _ | with_reducible refine Below.drew ?_ | with_reducible refine Below.drewN ?_ _ | with_reducible refine Below.setCell ?_ (by first | omega | (simp; done) | (simp; omega)) _ | with_reducible refine Below.alloc ?_ (by first | omega | (simp; done) | (simp; omega) | (simp [World.setCell]; omega)) _)) (hb'.mono (by first | omega | (simp; done) | (simp; omega) | (simp [World.setCell]; omega)))
    have z3 := hB.size
    have f1 := s1.two
    have l1 := s1.lt
    clear hb' HB z2
    unfold partV
    dsimp only
    have HP := Lib.hid (place_leastF hK h3 h4)
    have s2 := At.new w3 #[.int .u64 K, .int .u64 100] 24
    go_wp2_with fail
    refine (place_any K 100 n _ (by omega) (by omega) (by omega) (by omega) h3 h4).mono ?_
    rintro e w4 ⟨rfl, hb'⟩
    replace s1 : At w4 (w2.heap.size) _ _ := At.below (by repeat (first | with_reducible assumption | (with_reducible apply At.new'; (first | with_reducible rfl | (simp; done))) | with_reducible apply At.set2 | with_reducible apply At.alloc | with_reducible apply At.drew | with_reducible apply At.drewN | (with_reducible apply At.set_other; (case hne => first | (simp; done) | (simp; omega))))) hb'
    replace s2 : At w4 (w3.heap.size) _ _ := At.below (by repeat (first | with_reducible assumption | (with_reducible apply At.new'; (first | with_reducible rfl | (simp; done))) | with_reducible apply At.set2 | with_reducible apply At.alloc | with_reducible apply At.drew | with_reducible apply At.drewN | (with_reducible apply At.set_other; (case hne => first | (simp; done) | (simp; omega))))) hb'
    replace hB : Below w.heap.size w w4 := Below.trans (by repeat (first | with_reducible assumption | with_reducible exact Below.refl _ _ | with_reducible refine Below.drew ?_ | with_reducible refine Below.drewN ?_ _ | with_reducible refine Below.setCell ?_ (by first | omega | (simp; done) | (simp; omega)) _ | with_reducible refine Below.alloc ?_ (by first | omega | (simp; done) | (simp; omega) | (simp [World.setCell]; omega)) _)) (hb'.mono (by first | omega | (simp; done) | (simp; omega) | (simp [World.setCell]; omega)))
    replace f1 := s1.two
    replace l1 := s1.lt
    replace f2 := s2.two
    replace l2 := s2.lt
    replace zhB := hB.size
    clear hb'
    go_wp2_with fail
    refine (least_any K 100 _ (by omega) (by omega)).mono ?_
    rintro e w5 ⟨rfl, hb'⟩
    replace s1 : At w5 (w2.heap.size) _ _ := At.below (by repeat (first | with_reducible assumption | (with_reducible apply At.new'; (first | with_reducible rfl | (simp; done))) | with_reducible apply At.set2 | with_reducible apply At.alloc | with_reducible apply At.drew | with_reducible apply At.drewN | (with_reducible apply At.set_other; (case hne => first | (simp; done) | (simp; omega))))) hb'
    replace s2 : At w5 (w3.heap.size) _ _ := At.below (by repeat (first | with_reducible assumption | (with_reducible apply At.new'; (first | with_reducible rfl | (simp; done))) | with_reducible apply At.set2 | with_reducible apply At.alloc | with_reducible apply At.drew | with_reducible apply At.drewN | (with_reducible apply At.set_other; (case hne => first | (simp; done) | (simp; omega))))) hb'
    replace hB : Below w.heap.size w w5 := Below.trans (by repeat (first | with_reducible assumption | with_reducible exact Below.refl _ _ | with_reducible refine Below.drew ?_ | with_reducible refine Below.drewN ?_ _ | with_reducible refine Below.setCell ?_ (by first | omega | (simp; done) | (simp; omega)) _ | with_reducible refine Below.alloc ?_ (by first | omega | (simp; done) | (simp; omega) | (simp [World.setCell]; omega)) _)) (hb'.mono (by first | omega | (simp; done) | (simp; omega) | (simp [World.setCell]; omega)))
    replace f1 := s1.two
    replace l1 := s1.lt
    replace f2 := s2.two
    replace l2 := s2.lt
    replace zhB := hB.size
    clear hb'
    have lb := leastF_bd hK
    go_wp2_with fail
    refine (place_any _ _ n _ (by omega) (by omega) (by omega) (by omega) h3 h4).mono ?_
    rintro e w6 ⟨rfl, hb'⟩
    rw [HP.out.1, HP.out.2]
    replace s1 : At w6 (w2.heap.size) _ _ := At.below (by repeat (first | with_reducible assumption | (with_reducible apply At.new'; (first | with_reducible rfl | (simp; done))) | with_reducible apply At.set2 | with_reducible apply At.alloc | with_reducible apply At.drew | with_reducible apply At.drewN | (with_reducible apply At.set_other; (case hne => first | (simp; done) | (simp; omega))))) hb'
    replace s2 : At w6 (w3.heap.size) _ _ := At.below (by repeat (first | with_reducible assumption | (with_reducible apply At.new'; (first | with_reducible rfl | (simp; done))) | with_reducible apply At.set2 | with_reducible apply At.alloc | with_reducible apply At.drew | with_reducible apply At.drewN | (with_reducible apply At.set_other; (case hne => first | (simp; done) | (simp; omega))))) hb'
    replace hB : Below w.heap.size w w6 := Below.trans (by repeat (first | with_reducible assumption | with_reducible exact Below.refl _ _ | with_reducible refine Below.drew ?_ | with_reducible refine Below.drewN ?_ _ | with_reducible refine Below.setCell ?_ (by first | omega | (simp; done) | (simp; omega)) _ | with_reducible refine Below.alloc ?_ (by first | omega | (simp; done) | (simp; omega) | (simp [World.setCell]; omega)) _)) (hb'.mono (by first | omega | (simp; done) | (simp; omega) | (simp [World.setCell]; omega)))
    replace f1 := s1.two
    replace l1 := s1.lt
    replace f2 := s2.two
    replace l2 := s2.lt
    replace zhB := hB.size
    clear hb'
    go_wp2
    go_ret
    exact ⟨by first | rfl | simp, (by repeat (first | with_reducible assumption | with_reducible exact Below.refl _ _ | with_reducible refine Below.drew ?_ | with_reducible refine Below.drewN ?_ _ | with_reducible refine Below.setCell ?_ (by first | omega | (simp; done) | (simp; omega)) _ | with_reducible refine Below.alloc ?_ (by first | omega | (simp; done) | (simp; omega) | (simp [World.setCell]; omega)) _))⟩
  · have HT := told_two ⟨K, by omega⟩ (by show 10 ≤ K; omega)
    have hk3' : ((K : Int) == 100) = false := beq_eq_false_iff_ne.2 (by omega)
    have hk2' : ¬ (K : Int) < 10 := by omega
    dsimp only at HT
    obtain ⟨T0, hT0⟩ : ∃ T0, strOfNums [48 + (K : Int) / 10, 48 + (K : Int) % 10] = T0 := ⟨_, rfl⟩
    have hsz : T0.size = 2 := by rw [← hT0]; rfl
    rw [hT0] at hcv HT
    clear hT0 hk3
    obtain ⟨HA, HB, zA, zB⟩ := HT
    replace HA := Lib.hid HA
    replace HB := Lib.hid HB
    replace zA := Lib.hid zA
    replace zB := Lib.hid zB
    go_wp2_with fail
    refine (read_any _ _ ?hs).mono ?_
    case hs => exact Nat.le_trans zA.out (by decide)
    rintro e w2 ⟨rfl, hb⟩
    rw [HA.out]
    have hB : Below w.heap.size w w2 := Below.trans (by repeat (first | with_reducible assumption | with_reducible exact Below.refl _ _ | with_reducible refine Below.drew ?_ | with_reducible refine Below.drewN ?_ _ | with_reducible refine Below.setCell ?_ (by first | omega | (simp; done) | (simp; omega)) _ | with_reducible refine Below.alloc ?_ (by first | omega | (simp; done) | (simp; omega) | (simp [World.setCell]; omega)) _)) (hb.mono (by first | omega | (simp; done) | (simp; omega) | (simp [World.setCell]; omega)))
    have z2 := hB.size
    clear hb hcv HA
    unfold partV
    dsimp only
    go_wp2_with fail
    refine (read_any _ _ ?hs).mono ?_
    case hs => exact Nat.le_trans zB.out (by decide)
    rintro e w3 ⟨rfl, hb'⟩
    rw [HB.out]
    have s1 : At w3 w2.heap.size #[.int .u64 K, .int .u64 100] 24 := At.below (At.new' _ _ _ rfl) hb'
    replace hB : Below w.heap.size w w3 := Below.trans (by repeat (first | with_reducible assumption | with_reducible exact Below.refl _ _ | with_reducible refine Below.drew ?_ | with_reducible refine Below.drewN ?_ _ | with_reducible refine Below.setCell ?_ (by first | omega | (simp; done) | (simp; omega)) _ | with_reducible refine Below.alloc ?_ (by first | omega | (simp; done) | (simp; omega) | (simp [World.setCell]; omega)) _)) (hb'.mono (by first | omega | (simp; done) | (simp; omega) | (simp [World.setCell]; omega)))
    have z3 := hB.size
    have f1 := s1.two
    have l1 := s1.lt
    clear hb' HB z2
    unfold partV
    dsimp only
    have HP := Lib.hid (place_leastF hK h3 h4)
    have s2 := At.new w3 #[.int .u64 K, .int .u64 100] 24
    go_wp2_with fail
    refine (place_any K 100 n _ (by omega) (by omega) (by omega) (by omega) h3 h4).mono ?_
    rintro e w4 ⟨rfl, hb'⟩
    replace s1 : At w4 (w2.heap.size) _ _ := At.below (by repeat (first | with_reducible assumption | (with_reducible apply At.new'; (first | with_reducible rfl | (simp; done))) | with_reducible apply At.set2 | with_reducible apply At.alloc | with_reducible apply At.drew | with_reducible apply At.drewN | (with_reducible apply At.set_other; (case hne => first | (simp; done) | (simp; omega))))) hb'
    replace s2 : At w4 (w3.heap.size) _ _ := At.below (by repeat (first | with_reducible assumption | (with_reducible apply At.new'; (first | with_reducible rfl | (simp; done))) | with_reducible apply At.set2 | with_reducible apply At.alloc | with_reducible apply At.drew | with_reducible apply At.drewN | (with_reducible apply At.set_other; (case hne => first | (simp; done) | (simp; omega))))) hb'
    replace hB : Below w.heap.size w w4 := Below.trans (by repeat (first | with_reducible assumption | with_reducible exact Below.refl _ _ | with_reducible refine Below.drew ?_ | with_reducible refine Below.drewN ?_ _ | with_reducible refine Below.setCell ?_ (by first | omega | (simp; done) | (simp; omega)) _ | with_reducible refine Below.alloc ?_ (by first | omega | (simp; done) | (simp; omega) | (simp [World.setCell]; omega)) _)) (hb'.mono (by first | omega | (simp; done) | (simp; omega) | (simp [World.setCell]; omega)))
    replace f1 := s1.two
    replace l1 := s1.lt
    replace f2 := s2.two
    replace l2 := s2.lt
    replace zhB := hB.size
    clear hb'
    go_wp2_with fail
    refine (least_any K 100 _ (by omega) (by omega)).mono ?_
    rintro e w5 ⟨rfl, hb'⟩
    replace s1 : At w5 (w2.heap.size) _ _ := At.below (by repeat (first | with_reducible assumption | (with_reducible apply At.new'; (first | with_reducible rfl | (simp; done))) | with_reducible apply At.set2 | with_reducible apply At.alloc | with_reducible apply At.drew | with_reducible apply At.drewN | (with_reducible apply At.set_other; (case hne => first | (simp; done) | (simp; omega))))) hb'
    replace s2 : At w5 (w3.heap.size) _ _ := At.below (by repeat (first | with_reducible assumption | (with_reducible apply At.new'; (first | with_reducible rfl | (simp; done))) | with_reducible apply At.set2 | with_reducible apply At.alloc | with_reducible apply At.drew | with_reducible apply At.drewN | (with_reducible apply At.set_other; (case hne => first | (simp; done) | (simp; omega))))) hb'
    replace hB : Below w.heap.size w w5 := Below.trans (by repeat (first | with_reducible assumption | with_reducible exact Below.refl _ _ | with_reducible refine Below.drew ?_ | with_reducible refine Below.drewN ?_ _ | with_reducible refine Below.setCell ?_ (by first | omega | (simp; done) | (simp; omega)) _ | with_reducible refine Below.alloc ?_ (by first | omega | (simp; done) | (simp; omega) | (simp [World.setCell]; omega)) _)) (hb'.mono (by first | omega | (simp; done) | (simp; omega) | (simp [World.setCell]; omega)))
    replace f1 := s1.two
    replace l1 := s1.lt
    replace f2 := s2.two
    replace l2 := s2.lt
    replace zhB := hB.size
    clear hb'
    have lb := leastF_bd hK
    go_wp2_with fail
    refine (place_any _ _ n _ (by omega) (by omega) (by omega) (by omega) h3 h4).mono ?_
    rintro e w6 ⟨rfl, hb'⟩
    rw [HP.out.1, HP.out.2]
    replace s1 : At w6 (w2.heap.size) _ _ := At.below (by repeat (first | with_reducible assumption | (with_reducible apply At.new'; (first | with_reducible rfl | (simp; done))) | with_reducible apply At.set2 | with_reducible apply At.alloc | with_reducible apply At.drew | with_reducible apply At.drewN | (with_reducible apply At.set_other; (case hne => first | (simp; done) | (simp; omega))))) hb'
    replace s2 : At w6 (w3.heap.size) _ _ := At.below (by repeat (first | with_reducible assumption | (with_reducible apply At.new'; (first | with_reducible rfl | (simp; done))) | with_reducible apply At.set2 | with_reducible apply At.alloc | with_reducible apply At.drew | with_reducible apply At.drewN | (with_reducible apply At.set_other; (case hne => first | (simp; done) | (simp; omega))))) hb'
    replace hB : Below w.heap.size w w6 := Below.trans (by repeat (first | with_reducible assumption | with_reducible exact Below.refl _ _ | with_reducible refine Below.drew ?_ | with_reducible refine Below.drewN ?_ _ | with_reducible refine Below.setCell ?_ (by first | omega | (simp; done) | (simp; omega)) _ | with_reducible refine Below.alloc ?_ (by first | omega | (simp; done) | (simp; omega) | (simp [World.setCell]; omega)) _)) (hb'.mono (by first | omega | (simp; done) | (simp; omega) | (simp [World.setCell]; omega)))
    replace f1 := s1.two
    replace l1 := s1.lt
    replace f2 := s2.two
    replace l2 := s2.lt
    replace zhB := hB.size
    clear hb'
    go_wp2
    go_ret
    exact ⟨by first | rfl | simp, (by repeat (first | with_reducible assumption | with_reducible exact Below.refl _ _ | with_reducible refine Below.drew ?_ | with_reducible refine Below.drewN ?_ _ | with_reducible refine Below.setCell ?_ (by first | omega | (simp; done) | (simp; omega)) _ | with_reducible refine Below.alloc ?_ (by first | omega | (simp; done) | (simp; omega) | (simp [World.setCell]; omega)) _))⟩
end Go.Proofs.Ytadnnpjnmfddmaa

