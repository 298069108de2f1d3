/- Contracts of the document's answer for layer 1: divided, bit by bit. -/
import Derived.Test.YtbmnebpjjghkpaaProg
import Derived.Test.YtbmnebpjjghkpaaBase
import Derived.Test.YtbmnebpjjghkpaaRef1b
import Derived.Test.YtbmnebpjjghkpaaRef1c
import Derived.Test.YtbmnebpjjghkpaaOver
namespace Go.Proofs.Ytbmnebpjjghkpaa
open Go.RowKit

theorem half_step (A i : Int) (hA : 0 ≤ A) (hi : 0 ≤ i) : A / 2 ^ i.toNat = A / 2 ^ (i + 1).toNat * 2 + bitOf A i := by
  unfold bitOf
  obtain ⟨n, rfl⟩ := Int.eq_ofNat_of_zero_le hi
  have e : (2 : Int) ^ ((n : Int) + 1).toNat = 2 ^ n * 2 := by rw [show ((n : Int) + 1).toNat = n + 1 by omega, Int.pow_succ]
  rw [e, ← Int.ediv_ediv_of_nonneg (Int.pow_nonneg (by omega))]
  simp only [Int.toNat_natCast]
  omega

theorem over_step (A y q r k bt : Int) (hA : 0 ≤ A) (hA2 : A < 340282366920938463463374607431768211456) (hk : 0 ≤ k) (hy : 0 < y) (hr : 0 ≤ r) (hq : 0 ≤ q) (hbt : bitOf A k = bt) (h : A / 2 ^ (k + 1).toNat = q * y + r) :
    A / 2 ^ k.toNat = 2 * q * y + (2 * r + bt) ∧ 2 * q + 1 < 340282366920938463463374607431768211456 ∨ A / 2 ^ k.toNat = 2 * q * y + (2 * r + bt) ∧ 2 * q + 1 = 340282366920938463463374607431768211456 ∧ False := by
  have h1 := half_step A k hA hk
  have hb := bitOf_bd A k
  rw [h, hbt] at h1
  have h2 : A / 2 ^ k.toNat ≤ A := Int.ediv_le_self _ hA
  have h3 : q * 1 ≤ q * y := Int.mul_le_mul_of_nonneg_left hy hq
  have h4 : 2 * q * y = 2 * (q * y) := by rw [Int.mul_assoc]
  left
  rw [h4]
  omega

theorem over_end (A y q r : Int) (hy : 0 < y) (hr : 0 ≤ r) (hr2 : r < y) (hq : 0 ≤ q) (h : A = q * y + r) :
    (q < 18446744073709551616 → overQ A y = q ∧ overR A y = r ∧ overOk A y = true) ∧ (¬ q < 18446744073709551616 → overQ A y = 0 ∧ overR A y = 0 ∧ overOk A y = false) := by
  obtain ⟨h1, h2⟩ := DivM.uniq A y q r h hr hr2
  have h3 : 0 ≤ q * y := Int.mul_nonneg hq (by omega)
  refine ⟨fun hl => ?_, fun hl => ?_⟩
  · have : A < y * 18446744073709551616 := by
      have h4 : (q + 1) * y ≤ 18446744073709551616 * y := Int.mul_le_mul_of_nonneg_right (by omega) (by omega)
      rw [Int.add_mul] at h4
      omega
    obtain ⟨e1, e2, e3⟩ := over_yes A y this
    exact ⟨e1.trans h1, e2.trans h2, e3⟩
  · have : ¬ A < y * 18446744073709551616 := by
      have h4 : 18446744073709551616 * y ≤ q * y := Int.mul_le_mul_of_nonneg_right (by omega) (by omega)
      omega
    exact over_no A y this

set_option maxHeartbeats 2000000 in
theorem rover_loop (ah al y : Int) (w : World) (h1 : 0 ≤ ah) (h2 : ah < 18446744073709551616) (h3 : 0 ≤ al) (h4 : al < 18446744073709551616) (hy : 0 < y) (hy' : y < 18446744073709551616) :
    Calls Try.prog 52 #[.agg #[.int .u64 ah, .int .u64 al], .int .u64 y] w fun e w' =>
      e = .returned (.tuple #[.int .u64 (overQ (ah * 18446744073709551616 + al) y), .int .u64 (overR (ah * 18446744073709551616 + al) y), .bool (overOk (ah * 18446744073709551616 + al) y)]) ∧ Below w.heap.size w w' := by
  obtain ⟨A, HA⟩ : ∃ A, Hid (ah * 18446744073709551616 + al = A) := ⟨_, rfl⟩
  rw [HA.out]
  have HA0 : Hid (0 ≤ A ∧ A < 340282366920938463463374607431768211456) := by have := HA.out; constructor <;> omega
  have hy0 : (y == 0) = false := by simp; omega
  go_enter Try.func52, Try.ntmps52
  go_wp2
  go_loopw [10] (fun i wr => ∃ k q r : Int, -1 ≤ k ∧ k ≤ 127 ∧ i = .int .i64 k ∧ Below w.heap.size w wr ∧ At wr w.heap.size #[.int .u64 ah, .int .u64 al] 96 ∧ At wr (w.heap.size + 1) #[.int .u64 0, .int .u64 y] 96 ∧
      0 ≤ r ∧ r < y ∧ At wr (w.heap.size + 1 + 1) #[.int .u64 0, .int .u64 r] 96 ∧
      ∃ qh ql : Int, 0 ≤ qh ∧ qh < 18446744073709551616 ∧ 0 ≤ ql ∧ ql < 18446744073709551616 ∧ At wr (w.heap.size + 1 + 1 + 1) #[.int .u64 qh, .int .u64 ql] 96 ∧
      Hid (qh * 18446744073709551616 + ql = q ∧ A / 2 ^ (k + 1).toNat = q * y + r))
    (fun i _ => (intOf i + 1).toNat)
  case atStart =>
    refine ⟨127, 0, 0, by omega, by omega, rfl, (by repeat (first | with_reducible assumption | with_reducible exact Below.refl _ _ | with_reducible refine Below.drew ?_ | with_reducible refine Below.drewN ?_ _ | with_reducible refine Below.setCell ?_ (by first | omega | (simp; done) | (simp; omega)) _ | with_reducible refine Below.alloc ?_ (by first | omega | (simp; done) | (simp; omega) | (simp [World.setCell]; omega)) _)), (by repeat (first | with_reducible assumption | (with_reducible apply At.new'; (first | with_reducible rfl | (simp; done))) | with_reducible apply At.set2 | with_reducible apply At.alloc | with_reducible apply At.drew | with_reducible apply At.drewN | (with_reducible apply At.set_other; (case hne => first | (simp; done) | (simp; omega))))), (by repeat (first | with_reducible assumption | (with_reducible apply At.new'; (first | with_reducible rfl | (simp; done))) | with_reducible apply At.set2 | with_reducible apply At.alloc | with_reducible apply At.drew | with_reducible apply At.drewN | (with_reducible apply At.set_other; (case hne => first | (simp; done) | (simp; omega))))), by omega, by omega, (by repeat (first | with_reducible assumption | (with_reducible apply At.new'; (first | with_reducible rfl | (simp; done))) | with_reducible apply At.set2 | with_reducible apply At.alloc | with_reducible apply At.drew | with_reducible apply At.drewN | (with_reducible apply At.set_other; (case hne => first | (simp; done) | (simp; omega))))), 0, 0, by omega, by omega, by omega, by omega, (by repeat (first | with_reducible assumption | (with_reducible apply At.new'; (first | with_reducible rfl | (simp; done))) | with_reducible apply At.set2 | with_reducible apply At.alloc | with_reducible apply At.drew | with_reducible apply At.drewN | (with_reducible apply At.set_other; (case hne => first | (simp; done) | (simp; omega))))), by simp, ?_⟩
    have := HA0.out
    rw [Int.ediv_eq_zero_of_lt this.1 (by simpa using this.2)]
    simp
  case round =>
    obtain ⟨k, q, r, hk1, hk2, rfl, hB, a1, a2, hr1, hr2, a3, qh, ql, k1, k2, k3, k4, a4, HR⟩ := hrel
    have z1 := a4.lt
    have f1 := a1.two
    have f2 := a2.two
    have f3 := a3.two
    have f4 := a4.two
    by_cases hk : 0 ≤ k
    · go_wp2_with fail
      refine (rdouble_any _ _ _ (by omega) (by omega) hr1 (by omega)).mono ?_
      rintro e w1 ⟨rh, rl, l1, l2, l3, l4, hX, rfl, hb⟩
      have HX : Hid (rh * 18446744073709551616 + rl = 2 * r) := by show _ = _; rw [hX]; unfold addQ; omega
      clear hX
      have b1 : At w1 w.heap.size #[.int .u64 ah, .int .u64 al] 96 := At.below (by repeat (first | with_reducible assumption | (with_reducible apply At.new'; (first | with_reducible rfl | (simp; done))) | with_reducible apply At.set2 | with_reducible apply At.alloc | with_reducible apply At.drew | with_reducible apply At.drewN | (with_reducible apply At.set_other; (case hne => first | (simp; done) | (simp; omega))))) hb
      have b2 : At w1 (w.heap.size + 1) #[.int .u64 0, .int .u64 y] 96 := At.below (by repeat (first | with_reducible assumption | (with_reducible apply At.new'; (first | with_reducible rfl | (simp; done))) | with_reducible apply At.set2 | with_reducible apply At.alloc | with_reducible apply At.drew | with_reducible apply At.drewN | (with_reducible apply At.set_other; (case hne => first | (simp; done) | (simp; omega))))) hb
      have b3 : At w1 (w.heap.size + 1 + 1) #[.int .u64 0, .int .u64 r] 96 := At.below (by repeat (first | with_reducible assumption | (with_reducible apply At.new'; (first | with_reducible rfl | (simp; done))) | with_reducible apply At.set2 | with_reducible apply At.alloc | with_reducible apply At.drew | with_reducible apply At.drewN | (with_reducible apply At.set_other; (case hne => first | (simp; done) | (simp; omega))))) hb
      have b4 : At w1 (w.heap.size + 1 + 1 + 1) #[.int .u64 qh, .int .u64 ql] 96 := At.below (by repeat (first | with_reducible assumption | (with_reducible apply At.new'; (first | with_reducible rfl | (simp; done))) | with_reducible apply At.set2 | with_reducible apply At.alloc | with_reducible apply At.drew | with_reducible apply At.drewN | (with_reducible apply At.set_other; (case hne => first | (simp; done) | (simp; omega))))) hb
      have hB1 : Below w.heap.size w w1 := hB.trans (hb.mono hB.size)
      clear hb f1 f2 f3 f4 a1 a2 a3 a4 hB
      have g3 := b3.two
      go_wp2
      refine gen_world (fun W => At W w.heap.size #[.int .u64 ah, .int .u64 al] 96 ∧ At W (w.heap.size + 1) #[.int .u64 0, .int .u64 y] 96 ∧ At W (w.heap.size + 1 + 1) #[.int .u64 rh, .int .u64 rl] 96 ∧
        At W (w.heap.size + 1 + 1 + 1) #[.int .u64 qh, .int .u64 ql] 96 ∧ Below w.heap.size w W)
        ⟨(by repeat (first | with_reducible assumption | (with_reducible apply At.new'; (first | with_reducible rfl | (simp; done))) | with_reducible apply At.set2 | with_reducible apply At.alloc | with_reducible apply At.drew | with_reducible apply At.drewN | (with_reducible apply At.set_other; (case hne => first | (simp; done) | (simp; omega))))), (by repeat (first | with_reducible assumption | (with_reducible apply At.new'; (first | with_reducible rfl | (simp; done))) | with_reducible apply At.set2 | with_reducible apply At.alloc | with_reducible apply At.drew | with_reducible apply At.drewN | (with_reducible apply At.set_other; (case hne => first | (simp; done) | (simp; omega))))), (by repeat (first | with_reducible assumption | (with_reducible apply At.new'; (first | with_reducible rfl | (simp; done))) | with_reducible apply At.set2 | with_reducible apply At.alloc | with_reducible apply At.drew | with_reducible apply At.drewN | (with_reducible apply At.set_other; (case hne => first | (simp; done) | (simp; omega))))), (by repeat (first | with_reducible assumption | (with_reducible apply At.new'; (first | with_reducible rfl | (simp; done))) | with_reducible apply At.set2 | with_reducible apply At.alloc | with_reducible apply At.drew | with_reducible apply At.drewN | (with_reducible apply At.set_other; (case hne => first | (simp; done) | (simp; omega))))), (by repeat (first | with_reducible assumption | with_reducible exact Below.refl _ _ | with_reducible refine Below.drew ?_ | with_reducible refine Below.drewN ?_ _ | with_reducible refine Below.setCell ?_ (by first | omega | (simp; done) | (simp; omega)) _ | with_reducible refine Below.alloc ?_ (by first | omega | (simp; done) | (simp; omega) | (simp [World.setCell]; omega)) _))⟩ ?_
      rintro W ⟨c1, c2, c3, c4, hB⟩
      clear b1 b2 b3 b4 hB1 g3
      have f1 := c1.two
      have f3 := c3.two
      obtain ⟨bt, hbt, HBT⟩ : ∃ bt : Int, (0 ≤ bt ∧ bt ≤ 1) ∧ Hid (bitOf A k = bt) := ⟨_, bitOf_bd A k, rfl⟩
      have hlo : rl + bt < 18446744073709551616 := by have := HX.out; omega
      go_cut [] (fun wc => At wc w.heap.size #[.int .u64 ah, .int .u64 al] 96 ∧ At wc (w.heap.size + 1) #[.int .u64 0, .int .u64 y] 96 ∧ At wc (w.heap.size + 1 + 1) #[.int .u64 rh, .int .u64 (rl + bt)] 96 ∧
        At wc (w.heap.size + 1 + 1 + 1) #[.int .u64 qh, .int .u64 ql] 96 ∧ Below w.heap.size w wc)
      case first =>
        go_region_with ((go_at_call 62; refine (bit_any _ _ _ _ h1 h2 h3 h4 hk hk2).mono ?_; rintro e w2 ⟨rfl, hb⟩; have d1 := At.below c1.drew hb; have d2 := At.below c2.drew hb; have d3 := At.below c3.drew hb; have d4 := At.below c4.drew hb; have hB2 := hB.drew.trans (hb.mono hB.size); have e3 := d3.two; rw [HA.out, HBT.out]))
        all_goals
          go_wp2_with fail
          go_meet
          exact ⟨(by repeat (first | with_reducible assumption | (with_reducible apply At.new'; (first | with_reducible rfl | (simp; done))) | with_reducible apply At.set2 | with_reducible apply At.alloc | with_reducible apply At.drew | with_reducible apply At.drewN | (with_reducible apply At.set_other; (case hne => first | (simp; done) | (simp; omega))))), (by repeat (first | with_reducible assumption | (with_reducible apply At.new'; (first | with_reducible rfl | (simp; done))) | with_reducible apply At.set2 | with_reducible apply At.alloc | with_reducible apply At.drew | with_reducible apply At.drewN | (with_reducible apply At.set_other; (case hne => first | (simp; done) | (simp; omega))))), d3.set_any 1 _ (by rw [DivM.wrap_u64_of (by omega) hlo]; rfl), (by repeat (first | with_reducible assumption | (with_reducible apply At.new'; (first | with_reducible rfl | (simp; done))) | with_reducible apply At.set2 | with_reducible apply At.alloc | with_reducible apply At.drew | with_reducible apply At.drewN | (with_reducible apply At.set_other; (case hne => first | (simp; done) | (simp; omega))))), (by repeat (first | with_reducible assumption | with_reducible exact Below.refl _ _ | with_reducible refine Below.drew ?_ | with_reducible refine Below.drewN ?_ _ | with_reducible refine Below.setCell ?_ (by first | omega | (simp; done) | (simp; omega)) _ | with_reducible refine Below.alloc ?_ (by first | omega | (simp; done) | (simp; omega) | (simp [World.setCell]; omega)) _))⟩
      case rest =>
        obtain ⟨d1, d2, d3, d4, hB2⟩ := hcut
        clear c1 c2 c3 c4 hB f1 f3
        have f4 := d4.two
        obtain ⟨bb, ha0, ha1⟩ : ∃ bb, bb = rl + bt ∧ True := ⟨_, rfl, trivial⟩
        rw [← ha0] at d3 hlo
        have HRB : Hid (rh * 18446744073709551616 + bb = 2 * r + bt) := by have := HX.out; show _ = _; omega
        have hbb : 0 ≤ bb := by omega
        clear ha0 ha1 HX
        go_wp2_with fail
        refine (rdouble_any _ _ _ k1 k2 k3 k4).mono ?_
        rintro e w3 ⟨qh2, ql2, m1, m2, m3, m4, hX, rfl, hb⟩
        have HXQ := Lib.hid hX
        clear hX f4
        have e1 : At w3 w.heap.size #[.int .u64 ah, .int .u64 al] 96 := At.below (by repeat (first | with_reducible assumption | (with_reducible apply At.new'; (first | with_reducible rfl | (simp; done))) | with_reducible apply At.set2 | with_reducible apply At.alloc | with_reducible apply At.drew | with_reducible apply At.drewN | (with_reducible apply At.set_other; (case hne => first | (simp; done) | (simp; omega))))) hb
        have e2 : At w3 (w.heap.size + 1) #[.int .u64 0, .int .u64 y] 96 := At.below (by repeat (first | with_reducible assumption | (with_reducible apply At.new'; (first | with_reducible rfl | (simp; done))) | with_reducible apply At.set2 | with_reducible apply At.alloc | with_reducible apply At.drew | with_reducible apply At.drewN | (with_reducible apply At.set_other; (case hne => first | (simp; done) | (simp; omega))))) hb
        have e3 : At w3 (w.heap.size + 1 + 1) #[.int .u64 rh, .int .u64 bb] 96 := At.below (by repeat (first | with_reducible assumption | (with_reducible apply At.new'; (first | with_reducible rfl | (simp; done))) | with_reducible apply At.set2 | with_reducible apply At.alloc | with_reducible apply At.drew | with_reducible apply At.drewN | (with_reducible apply At.set_other; (case hne => first | (simp; done) | (simp; omega))))) hb
        have e4 : At w3 (w.heap.size + 1 + 1 + 1) #[.int .u64 qh, .int .u64 ql] 96 := At.below (by repeat (first | with_reducible assumption | (with_reducible apply At.new'; (first | with_reducible rfl | (simp; done))) | with_reducible apply At.set2 | with_reducible apply At.alloc | with_reducible apply At.drew | with_reducible apply At.drewN | (with_reducible apply At.set_other; (case hne => first | (simp; done) | (simp; omega))))) hb
        have hB3 : Below w.heap.size w w3 := hB2.trans (hb.mono hB2.size)
        have z3 := hB3.size
        clear hb d1 d2 d3 d4 hB2
        have f2 := e2.two
        have f3 := e3.two
        have f4 := e4.two
        go_wp2_with fail
        refine (rless_any _ _ _ _ _ l1 l2 (by omega) (by omega) (by omega) (by omega) (by omega) (by omega)).mono ?_
        rintro e w4 ⟨rfl, hb⟩
        have a1 : At w4 w.heap.size #[.int .u64 ah, .int .u64 al] 96 := At.below (by repeat (first | with_reducible assumption | (with_reducible apply At.new'; (first | with_reducible rfl | (simp; done))) | with_reducible apply At.set2 | with_reducible apply At.alloc | with_reducible apply At.drew | with_reducible apply At.drewN | (with_reducible apply At.set_other; (case hne => first | (simp; done) | (simp; omega))))) hb
        have a2 : At w4 (w.heap.size + 1) #[.int .u64 0, .int .u64 y] 96 := At.below (by repeat (first | with_reducible assumption | (with_reducible apply At.new'; (first | with_reducible rfl | (simp; done))) | with_reducible apply At.set2 | with_reducible apply At.alloc | with_reducible apply At.drew | with_reducible apply At.drewN | (with_reducible apply At.set_other; (case hne => first | (simp; done) | (simp; omega))))) hb
        have a3 : At w4 (w.heap.size + 1 + 1) #[.int .u64 rh, .int .u64 bb] 96 := At.below (by repeat (first | with_reducible assumption | (with_reducible apply At.new'; (first | with_reducible rfl | (simp; done))) | with_reducible apply At.set2 | with_reducible apply At.alloc | with_reducible apply At.drew | with_reducible apply At.drewN | (with_reducible apply At.set_other; (case hne => first | (simp; done) | (simp; omega))))) hb
        have a4 : At w4 (w.heap.size + 1 + 1 + 1) #[.int .u64 qh2, .int .u64 ql2] 96 := At.below (by repeat (first | with_reducible assumption | (with_reducible apply At.new'; (first | with_reducible rfl | (simp; done))) | with_reducible apply At.set2 | with_reducible apply At.alloc | with_reducible apply At.drew | with_reducible apply At.drewN | (with_reducible apply At.set_other; (case hne => first | (simp; done) | (simp; omega))))) hb
        have hB4 : Below w.heap.size w w4 := Below.trans (by repeat (first | with_reducible assumption | with_reducible exact Below.refl _ _ | with_reducible refine Below.drew ?_ | with_reducible refine Below.drewN ?_ _ | with_reducible refine Below.setCell ?_ (by first | omega | (simp; done) | (simp; omega)) _ | with_reducible refine Below.alloc ?_ (by first | omega | (simp; done) | (simp; omega) | (simp [World.setCell]; omega)) _)) (hb.mono (by first | omega | (simp; done) | (simp; omega) | (simp [World.setCell]; omega)))
        have z4 := hB4.size
        clear hb e1 e2 e3 e4 hB3 f2 f3 f4
        have f2 := a2.two
        have f3 := a3.two
        have f4 := a4.two
        by_cases hge : rh * 18446744073709551616 + bb < 0 * 18446744073709551616 + y
        · rw [decide_eq_true hge]
          have HGE := Lib.hid hge
          clear hge
          go_wp2
          go_roundw
          case rel =>
            obtain rfl : rh = 0 := by have := HGE.out; omega
            have st := over_step A y q r k bt HA0.out.1 HA0.out.2 hk hy hr1 (by have := HR.out.1; omega) HBT.out HR.out.2
            have h5 := HXQ.out
            have h6 := HR.out.1
            have h7 := HRB.out
            have h8 := HGE.out
            refine ⟨k - 1, 2 * q, bb, by omega, by omega, rfl, hB4, a1, a2, hbb, by omega, a3, qh2, ql2, m1, m2, m3, m4, a4, ?_, ?_⟩
            · rw [h5, h6]; unfold addQ; omega
            · rw [show k - 1 + 1 = k by omega]; rcases st with st | st
              · rw [st.1]; omega
              · exact st.2.2.elim
          case measure => simp [intOf]; omega
        · rw [decide_eq_false hge]
          have HGE := Lib.hid hge
          clear hge
          go_wp2_with fail
          refine (rsub_any _ _ _ _ _ l1 l2 (by omega) (by omega) (by omega) (by omega) (by omega) (by omega)).mono ?_
          rintro e w5 ⟨sh, sl, n1, n2, n3, n4, hX, rfl, hb⟩
          have HXS : Hid (sh = 0 ∧ sl = rh * 18446744073709551616 + bb - y) := by
            have h7 := HRB.out
            have h8 := HGE.out
            unfold subQ at hX
            show _ ∧ _
            omega
          obtain rfl : sh = 0 := HXS.out.1
          clear hX
          have b1 : At w5 w.heap.size #[.int .u64 ah, .int .u64 al] 96 := At.below (by repeat (first | with_reducible assumption | (with_reducible apply At.new'; (first | with_reducible rfl | (simp; done))) | with_reducible apply At.set2 | with_reducible apply At.alloc | with_reducible apply At.drew | with_reducible apply At.drewN | (with_reducible apply At.set_other; (case hne => first | (simp; done) | (simp; omega))))) hb
          have b2 : At w5 (w.heap.size + 1) #[.int .u64 0, .int .u64 y] 96 := At.below (by repeat (first | with_reducible assumption | (with_reducible apply At.new'; (first | with_reducible rfl | (simp; done))) | with_reducible apply At.set2 | with_reducible apply At.alloc | with_reducible apply At.drew | with_reducible apply At.drewN | (with_reducible apply At.set_other; (case hne => first | (simp; done) | (simp; omega))))) hb
          have b3 : At w5 (w.heap.size + 1 + 1) #[.int .u64 rh, .int .u64 bb] 96 := At.below (by repeat (first | with_reducible assumption | (with_reducible apply At.new'; (first | with_reducible rfl | (simp; done))) | with_reducible apply At.set2 | with_reducible apply At.alloc | with_reducible apply At.drew | with_reducible apply At.drewN | (with_reducible apply At.set_other; (case hne => first | (simp; done) | (simp; omega))))) hb
          have b4 : At w5 (w.heap.size + 1 + 1 + 1) #[.int .u64 qh2, .int .u64 ql2] 96 := At.below (by repeat (first | with_reducible assumption | (with_reducible apply At.new'; (first | with_reducible rfl | (simp; done))) | with_reducible apply At.set2 | with_reducible apply At.alloc | with_reducible apply At.drew | with_reducible apply At.drewN | (with_reducible apply At.set_other; (case hne => first | (simp; done) | (simp; omega))))) hb
          have hB5 : Below w.heap.size w w5 := Below.trans (by repeat (first | with_reducible assumption | with_reducible exact Below.refl _ _ | with_reducible refine Below.drew ?_ | with_reducible refine Below.drewN ?_ _ | with_reducible refine Below.setCell ?_ (by first | omega | (simp; done) | (simp; omega)) _ | with_reducible refine Below.alloc ?_ (by first | omega | (simp; done) | (simp; omega) | (simp [World.setCell]; omega)) _)) (hb.mono (by first | omega | (simp; done) | (simp; omega) | (simp [World.setCell]; omega)))
          have z5 := hB5.size
          clear hb a1 a2 a3 a4 hB4 f2 f3 f4
          have f3 := b3.two
          have f4 := b4.two
          have hq2 : Hid (qh2 * 18446744073709551616 + ql2 = 2 * q) := by
            have st := over_step A y q r k bt HA0.out.1 HA0.out.2 hk hy hr1 (by have := HR.out.1; omega) HBT.out HR.out.2
            have h5 := HXQ.out
            have h6 := HR.out.1
            show _ = _
            rw [h5, h6]; unfold addQ; omega
          have hql : ql2 + 1 < 18446744073709551616 := by have := hq2.out; omega
          go_wp2
          go_roundw
          case rel =>
            have st := over_step A y q r k bt HA0.out.1 HA0.out.2 hk hy hr1 (by have := HR.out.1; omega) HBT.out HR.out.2
            have h6 := hq2.out
            have h7 := HRB.out
            have h8 := HGE.out
            have h9 := HXS.out.2
            refine ⟨k - 1, 2 * q + 1, sl, by omega, by omega, rfl, (by repeat (first | with_reducible assumption | with_reducible exact Below.refl _ _ | with_reducible refine Below.drew ?_ | with_reducible refine Below.drewN ?_ _ | with_reducible refine Below.setCell ?_ (by first | omega | (simp; done) | (simp; omega)) _ | with_reducible refine Below.alloc ?_ (by first | omega | (simp; done) | (simp; omega) | (simp [World.setCell]; omega)) _)), (by repeat (first | with_reducible assumption | (with_reducible apply At.new'; (first | with_reducible rfl | (simp; done))) | with_reducible apply At.set2 | with_reducible apply At.alloc | with_reducible apply At.drew | with_reducible apply At.drewN | (with_reducible apply At.set_other; (case hne => first | (simp; done) | (simp; omega))))), (by repeat (first | with_reducible assumption | (with_reducible apply At.new'; (first | with_reducible rfl | (simp; done))) | with_reducible apply At.set2 | with_reducible apply At.alloc | with_reducible apply At.drew | with_reducible apply At.drewN | (with_reducible apply At.set_other; (case hne => first | (simp; done) | (simp; omega))))), by omega, by omega, (by repeat (first | with_reducible assumption | (with_reducible apply At.new'; (first | with_reducible rfl | (simp; done))) | with_reducible apply At.set2 | with_reducible apply At.alloc | with_reducible apply At.drew | with_reducible apply At.drewN | (with_reducible apply At.set_other; (case hne => first | (simp; done) | (simp; omega))))), qh2, ql2 + 1, m1, m2, by omega, by omega, (At.set_other (At.set_other b4 (by first | omega | (simp; done) | (simp; omega) | (simp [World.setCell]; omega)) _) (by first | omega | (simp; done) | (simp; omega) | (simp [World.setCell]; omega)) _).set_any 1 _ rfl, by omega, ?_⟩
            rw [show k - 1 + 1 = k by omega, Int.add_mul]; rcases st with st | st
            · rw [st.1]; omega
            · exact st.2.2.elim
          case measure => simp [intOf]; omega
    · obtain rfl : k = -1 := by omega
      have hq0 : 0 ≤ q := by have := HR.out.1; omega
      have HE : Hid (A = q * y + r) := by
        have := HR.out.2
        rw [show ((-1 : Int) + 1).toNat = 0 from rfl] at this
        show A = _
        simpa using this
      have HO := Lib.hid (over_end A y q r hy hr1 hr2 hq0 HE.out)
      by_cases hqh : 0 < qh
      · have h5 : ¬ q < 18446744073709551616 := by have := HR.out.1; omega
        have HP := Lib.hid (HO.out.2 h5)
        clear h5
        go_wp2
        go_ret3
        rw [HP.out.1, HP.out.2.1, HP.out.2.2]
        exact ⟨rfl, hB⟩
      · have h5 : q < 18446744073709551616 := by have := HR.out.1; omega
        have HP := Lib.hid (HO.out.1 h5)
        obtain rfl : qh = 0 := by omega
        obtain rfl : ql = q := by have := HR.out.1; omega
        clear h5
        go_wp2
        go_quiet (fail)
        go_wp2
        go_ret3
        rw [HP.out.1, HP.out.2.1, HP.out.2.2]
        exact ⟨rfl, hB.drewN _⟩

theorem rover_any (ah al y : Int) (w : World) (h1 : 0 ≤ ah) (h2 : ah < 18446744073709551616) (h3 : 0 ≤ al) (h4 : al < 18446744073709551616) (hy : 0 ≤ y) (hy' : y < 18446744073709551616) :
    Calls Try.prog 52 #[.agg #[.int .u64 ah, .int .u64 al], .int .u64 y] w fun e w' =>
      e = .returned (.tuple #[.int .u64 (overQ (ah * 18446744073709551616 + al) y), .int .u64 (overR (ah * 18446744073709551616 + al) y), .bool (overOk (ah * 18446744073709551616 + al) y)]) ∧ Below w.heap.size w w' := by
  by_cases h : 0 < y
  · exact rover_loop ah al y w h1 h2 h3 h4 h hy'
  · obtain rfl : y = 0 := by omega
    have HP := Lib.hid (over_no (ah * 18446744073709551616 + al) 0 (by omega))
    go_enter Try.func52, Try.ntmps52
    go_wp2
    go_ret3
    rw [HP.out.1, HP.out.2.1, HP.out.2.2]
    exact ⟨rfl, (Below.refl _ _).alloc (Nat.le_refl _) _⟩

theorem rceil_any (a b y : Int) (w : World) (ha : 0 ≤ a) (ha' : a < 18446744073709551616) (hb : 0 ≤ b) (hb' : b < 18446744073709551616) (h3 : 0 ≤ y) (h4 : y < 18446744073709551616) :
    Calls Try.prog 42 #[.int .u64 a, .int .u64 b, .int .u64 y] w fun e w' =>
      e = .returned (.tuple #[.int .u64 (ceilQ (a * b) y), .bool (ceilOk (a * b) y)]) ∧ Below w.heap.size w w' := by
  obtain ⟨X, hab⟩ : ∃ X : Int, a * b = X := ⟨_, rfl⟩
  have hX0 : 0 ≤ X := by rw [← hab]; exact Int.mul_nonneg ha hb
  have HAB := Lib.hid hab
  rw [hab]
  clear hab
  go_enter Try.func42, Try.ntmps42
  go_wp2_with fail
  refine (rtimes_any _ _ _ ha ha' hb hb').mono ?_
  rintro e w1 ⟨hi, lo, k1, k2, k3, k4, hX, rfl, hb1⟩
  have HX := Lib.hid hX
  clear hX
  go_wp2_with fail
  refine (rover_any _ _ _ _ k1 k2 k3 k4 h3 h4).mono ?_
  rintro e w2 ⟨rfl, hb2⟩
  rw [HX.out, HAB.out]
  have HB := hb1.trans (hb2.mono hb1.size)
  clear HX hb1 hb2 k1 k2 k3 k4
  by_cases h : X < y * 18446744073709551616
  · obtain ⟨e1, e2, e3⟩ := over_yes X y h
    rw [e1, e2, e3]
    clear e1 e2 e3
    have hy : 0 < y := by omega
    have q0 : 0 ≤ X / y := Int.ediv_nonneg hX0 h3
    have q1 : X / y < 18446744073709551616 := Int.ediv_lt_of_lt_mul hy (by rw [Int.mul_comm]; exact h)
    have r0 := Int.emod_nonneg X (show y ≠ 0 by omega)
    by_cases hr : X % y = 0
    · have HE := Lib.hid (ceil_even X y h3 hX0 h hr)
      clear h
      rw [hr]
      generalize X / y = q at *
      clear hr
      go_wp2
      go_ret2
      rw [HE.out.1, HE.out.2]
      exact ⟨rfl, HB⟩
    · have HE := Lib.hid (ceil_odd X y h3 hX0 h hr)
      have hr' : 0 < X % y := by omega
      clear h hr
      generalize X / y = q at *
      generalize X % y = r at *
      by_cases hl : q < 18446744073709551615
      · have hl' : (q == 18446744073709551615) = false := by simp; omega
        go_wp2
        go_ret2
        rw [(HE.out.1 hl).1, (HE.out.1 hl).2]
        exact ⟨rfl, HB⟩
      · obtain rfl : q = 18446744073709551615 := by omega
        go_wp2
        go_ret2
        rw [(HE.out.2 hl).1, (HE.out.2 hl).2]
        exact ⟨rfl, HB⟩
  · obtain ⟨e1, e2, e3⟩ := over_no X y h
    rw [e1, e2, e3]
    have HE := Lib.hid (ceil_no X y h3 hX0 h)
    clear e1 e2 e3 h
    go_wp2
    go_ret2
    rw [HE.out.1, HE.out.2]
    exact ⟨rfl, HB⟩
end Go.Proofs.Ytbmnebpjjghkpaa

