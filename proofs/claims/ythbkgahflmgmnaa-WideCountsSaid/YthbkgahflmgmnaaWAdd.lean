/- Contracts of package wide's Add, Sub, Log. -/
import Derived.Test.YthbkgahflmgmnaaProg
import Derived.Test.YthbkgahflmgmnaaBase
import Derived.Test.YthbkgahflmgmnaaShelf
import Derived.Test.YthbkgahflmgmnaaRef1b
namespace Go.Proofs.Ythbkgahflmgmnaa
open Go.RowKit

set_option maxHeartbeats 1000000 in
theorem wsub_any (ah al bh bl : Int) (w : World) (h1 : 0 ≤ ah) (h2 : ah < 18446744073709551616) (h3 : 0 ≤ al) (h4 : al < 18446744073709551616) (h5 : 0 ≤ bh) (h6 : bh < 18446744073709551616)
   (h7 : 0 ≤ bl) (h8 : bl < 18446744073709551616) :
    Calls Try.prog 21 #[.agg #[.int .u64 ah, .int .u64 al], .agg #[.int .u64 bh, .int .u64 bl]] w
      (RetWB w (subQ (ah * 18446744073709551616 + al) (bh * 18446744073709551616 + bl)) (decide (ah * 18446744073709551616 + al < bh * 18446744073709551616 + bl))) := by
  obtain ⟨o, HO⟩ : ∃ o, Hid (decide (ah * 18446744073709551616 + al < bh * 18446744073709551616 + bl) = o) := ⟨_, rfl⟩
  obtain ⟨q, HQ⟩ : ∃ o, Hid (subQ (ah * 18446744073709551616 + al) (bh * 18446744073709551616 + bl) = o) := ⟨_, rfl⟩
  rw [HO.out, HQ.out]
  have e1 := Try.sub64_int al bl 0 h3 h4 h7 h8 (by omega) (by omega)
  obtain ⟨lo, hlo, lo1, lo2, HLO⟩ : ∃ lo : Int, (al - bl - 0) % 18446744073709551616 = lo ∧ 0 ≤ lo ∧ lo < 18446744073709551616 ∧ Hid ((al - bl) % 18446744073709551616 = lo) := ⟨_, rfl, by omega, by omega, by show _ = _; simp⟩
  obtain ⟨c, hc, c1, c2, HC⟩ : ∃ c : Int, (if al < bl + 0 then (1 : Int) else 0) = c ∧ 0 ≤ c ∧ c ≤ 1 ∧ Hid ((al < bl ∧ c = 1) ∨ (¬ al < bl ∧ c = 0)) := ⟨_, rfl, by split <;> omega, by split <;> omega, by show _ ∨ _; split <;> omega⟩
  rw [hlo, hc] at e1
  have e2 := Try.sub64_int ah bh c h1 h2 h5 h6 c1 c2
  obtain ⟨hi, hhi, hi1, hi2, HHI⟩ : ∃ lo : Int, (ah - bh - c) % 18446744073709551616 = lo ∧ 0 ≤ lo ∧ lo < 18446744073709551616 ∧ Hid ((ah - bh - c) % 18446744073709551616 = lo) := ⟨_, rfl, by omega, by omega, rfl⟩
  rw [hhi] at e2
  clear hlo hc hhi
  have HQ2 : Hid (hi * 18446744073709551616 + lo = q) := by
    rw [← HQ.out]
    have := HLO.out
    have := HHI.out
    have := HC.out
    unfold subQ
    show _ = _
    omega
  by_cases hlt : ah < bh + c
  · rw [if_pos hlt] at e2
    have HO2 : Hid (o = true) := by rw [← HO.out]; have := HC.out; show _ = _; simp; omega
    rw [HO2.out]
    clear hlt
    go_enter Try.func21, Try.ntmps21
    go_wp2
    refine bodyPost_ret (by simp [results, Try.results21, go_sem]; rfl) rfl ?_
    exact ⟨hi, lo, hi1, hi2, lo1, lo2, HQ2.out, rfl, (by repeat (first | with_reducible assumption | with_reducible exact Below.refl _ _ | with_reducible refine Below.drew ?_ | with_reducible refine Below.setCell ?_ (by first | omega | (simp; done) | (simp; omega)) _ | with_reducible refine Below.alloc ?_ (by first | omega | (simp; done) | (simp; omega) | (simp [World.setCell]; omega)) _))⟩
  · rw [if_neg hlt] at e2
    have HO2 : Hid (o = false) := by rw [← HO.out]; have := HC.out; show _ = _; simp; omega
    rw [HO2.out]
    clear hlt
    go_enter Try.func21, Try.ntmps21
    go_wp2
    refine bodyPost_ret (by simp [results, Try.results21, go_sem]; rfl) rfl ?_
    exact ⟨hi, lo, hi1, hi2, lo1, lo2, HQ2.out, rfl, (by repeat (first | with_reducible assumption | with_reducible exact Below.refl _ _ | with_reducible refine Below.drew ?_ | with_reducible refine Below.setCell ?_ (by first | omega | (simp; done) | (simp; omega)) _ | with_reducible refine Below.alloc ?_ (by first | omega | (simp; done) | (simp; omega) | (simp [World.setCell]; omega)) _))⟩

theorem log_any (a : Int) (w : World) (h1 : 0 ≤ a) (h2 : a < 18446744073709551616) :
    Calls Try.prog 16 #[.int .u64 a] w fun e w' => e = .returned (.tuple #[.int .i64 ((Lib.bitLen a.toNat : Int) - 1), .bool (a != 0)]) ∧ w = w' := by
  have hb : Lib.bitLen a.toNat ≤ 64 := Lib.bitLen_le _ 64 (by omega) (by have : a.toNat < 18446744073709551616 := by omega
                                                                         simpa using this)
  obtain ⟨k, HK⟩ : ∃ k : Nat, Hid (Lib.bitLen a.toNat = k) := ⟨_, rfl⟩
  rw [HK.out] at hb ⊢
  go_enter Try.func16, Try.ntmps16
  go_wp2_with fail
  refine (Try.bits_Len64 a w h1 (by omega)).mono ?_
  rintro e w1 ⟨rfl, hw⟩
  subst hw
  rw [HK.out]
  go_wp2
  go_ret2
  exact ⟨rfl, rfl⟩

/-- The sum of wide numbers, modulo 2^128, and whether it was ever above. -/
def sumF : Int → Bool → List (Int × Int) → Int × Bool
  | s, o, [] => (s, o)
  | s, o, x :: l => sumF (addQ (s + (x.1 * 18446744073709551616 + x.2))) (o || addO (s + (x.1 * 18446744073709551616 + x.2))) l

theorem add_parts (sh sl xh xl : Int) (h1 : 0 ≤ sh) (h2 : sh < 18446744073709551616) (h3 : 0 ≤ sl) (h4 : sl < 18446744073709551616) (k1 : 0 ≤ xh) (k2 : xh < 18446744073709551616) (k3 : 0 ≤ xl) (k4 : xl < 18446744073709551616) :
    ∃ lo c hi d : Int, (sl + xl + 0) % 18446744073709551616 = lo ∧ (sl + xl + 0) / 18446744073709551616 = c ∧ (sh + xh + c) % 18446744073709551616 = hi ∧ (sh + xh + c) / 18446744073709551616 = d ∧
      0 ≤ lo ∧ lo < 18446744073709551616 ∧ 0 ≤ c ∧ c ≤ 1 ∧ 0 ≤ hi ∧ hi < 18446744073709551616 ∧ 0 ≤ d ∧ d ≤ 1 ∧
      Hid (hi * 18446744073709551616 + lo = addQ (sh * 18446744073709551616 + sl + (xh * 18446744073709551616 + xl)) ∧ (d != 0) = addO (sh * 18446744073709551616 + sl + (xh * 18446744073709551616 + xl))) := by
  refine ⟨_, _, _, _, rfl, rfl, rfl, rfl, by omega, by omega, by omega, by omega, by omega, by omega, by omega, by omega, ?_, ?_⟩
  · unfold addQ; omega
  · unfold addO
    rw [Bool.eq_iff_iff, bne_iff_ne, decide_eq_true_iff]
    omega

set_option maxHeartbeats 2000000 in
theorem wadd_any (g : Nat) (cap : Nat) (xs : List (Int × Int)) (w : World) (hm : xs.length ≤ 4611686018427387904) (hg : g < w.heap.size)
    (hx : ∀ x ∈ xs, 0 ≤ x.1 ∧ x.1 < 18446744073709551616 ∧ 0 ≤ x.2 ∧ x.2 < 18446744073709551616)
    (hc : ∀ j (h : j < xs.length), w.cell? ⟨g, j * 2, none⟩ = some (.int .u64 (xs[j]).1) ∧ w.cell? ⟨g, j * 2 + 1, none⟩ = some (.int .u64 (xs[j]).2)) :
    Calls Try.prog 20 #[.slice (some ⟨g, 0, none⟩) xs.length cap] w (RetWB w (sumF 0 false xs).1 (sumF 0 false xs).2) := by
  obtain ⟨X, HX⟩ : ∃ X, Hid (sumF 0 false xs = X) := ⟨_, rfl⟩
  rw [HX.out]
  go_enter Try.func20, Try.ntmps20
  go_wp2
  go_loopw [5, 14] (fun ov i wr => ∃ (k : Nat) (o : Bool) (sh sl : Int), k ≤ xs.length ∧ i = .int .i64 k ∧ ov = .bool o ∧ 0 ≤ sh ∧ sh < 18446744073709551616 ∧ 0 ≤ sl ∧ sl < 18446744073709551616 ∧
      At wr (w.heap.size + 1) #[.int .u64 sh, .int .u64 sl] 24 ∧ At wr w.heap.size #[.int .u64 0, .int .u64 0] 24 ∧ Below w.heap.size w wr ∧ Hid (sumF (sh * 18446744073709551616 + sl) o (xs.drop k) = X)) (fun _ i _ => xs.length - (intOf i).toNat)
  case atStart => exact ⟨0, false, 0, 0, by omega, rfl, rfl, by omega, by omega, by omega, by omega, (by repeat (first | with_reducible assumption | with_reducible (refine At.new' _ _ _ ?_; first | rfl | (simp; done)) | with_reducible apply At.set2 | with_reducible refine At.alloc ?_ _ | with_reducible refine At.drew ?_ | with_reducible refine At.set_other ?_ (by first | (simp; done) | (simp; omega)) _)), (by repeat (first | with_reducible assumption | with_reducible (refine At.new' _ _ _ ?_; first | rfl | (simp; done)) | with_reducible apply At.set2 | with_reducible refine At.alloc ?_ _ | with_reducible refine At.drew ?_ | with_reducible refine At.set_other ?_ (by first | (simp; done) | (simp; omega)) _)), (by repeat (first | with_reducible assumption | with_reducible exact Below.refl _ _ | with_reducible refine Below.drew ?_ | with_reducible refine Below.setCell ?_ (by first | omega | (simp; done) | (simp; omega)) _ | with_reducible refine Below.alloc ?_ (by first | omega | (simp; done) | (simp; omega) | (simp [World.setCell]; omega)) _)), HX.out⟩
  case round =>
    obtain ⟨k, o, sh, sl, hk, rfl, rfl, h1, h2, h3, h4, a1, a0, hB, HF⟩ := hrel
    have z1 := a1.lt
    have f1 := a1.two
    have f0 := a0.two
    by_cases hlt : k < xs.length
    · obtain ⟨⟨xh, xl⟩, hxk⟩ : ∃ x, xs[k] = x := ⟨_, rfl⟩
      have hb := hx _ (List.getElem_mem hlt)
      rw [hxk] at hb
      obtain ⟨k1, k2, k3, k4⟩ := hb
      have c0 : wr.cell? ⟨g, k * 2, none⟩ = some (.int .u64 xh) := cellB hB hg (by rw [(hc k hlt).1, hxk])
      have c1 : wr.cell? ⟨g, k * 2 + 1, none⟩ = some (.int .u64 xl) := cellB hB hg (by rw [(hc k hlt).2, hxk])
      have HD := Lib.hid (show xs.drop k = (xh, xl) :: xs.drop (k+1) by rw [← hxk]; exact List.drop_eq_getElem_cons hlt)
      clear hc hx hxk
      obtain ⟨lo, c, hi, d, e1, e2, e3, e4, b1, b2, b3, b4, b5, b6, b7, b8, HP⟩ := add_parts sh sl xh xl h1 h2 h3 h4 k1 k2 k3 k4
      have r1 := Try.add64_int sl xl 0 h3 k3 (by omega) (by omega)
      have r2 := Try.add64_int sh xh c h1 k1 b3 b4
      rw [e1, e2] at r1
      rw [e3, e4] at r2
      clear e1 e2 e3 e4
      have hd : (d != 0) = false ∨ (d != 0) = true := by cases (d != 0) <;> simp
      have HP1 := Lib.hid HP.out.1
      have HP2 := Lib.hid HP.out.2
      clear HP
      cases o
      · rcases hd with hd | hd
        · go_wp2
          go_roundw
          case rel =>
            refine ⟨k + 1, false, hi, lo, by omega, by go_num, rfl, b5, b6, b1, b2, (by repeat (first | with_reducible assumption | with_reducible (refine At.new' _ _ _ ?_; first | rfl | (simp; done)) | with_reducible apply At.set2 | with_reducible refine At.alloc ?_ _ | with_reducible refine At.drew ?_ | with_reducible refine At.set_other ?_ (by first | (simp; done) | (simp; omega)) _)), (by repeat (first | with_reducible assumption | with_reducible (refine At.new' _ _ _ ?_; first | rfl | (simp; done)) | with_reducible apply At.set2 | with_reducible refine At.alloc ?_ _ | with_reducible refine At.drew ?_ | with_reducible refine At.set_other ?_ (by first | (simp; done) | (simp; omega)) _)), (by repeat (first | with_reducible assumption | with_reducible exact Below.refl _ _ | with_reducible refine Below.drew ?_ | with_reducible refine Below.setCell ?_ (by first | omega | (simp; done) | (simp; omega)) _ | with_reducible refine Below.alloc ?_ (by first | omega | (simp; done) | (simp; omega) | (simp [World.setCell]; omega)) _)), ?_⟩
            have h5 := HF.out
            have h6 := HP2.out
            rw [HD.out, sumF, ← h6, hd, ← HP1.out] at h5
            exact h5
          case measure => simp [intOf]; omega
        · go_wp2
          go_roundw
          case rel =>
            refine ⟨k + 1, true, hi, lo, by omega, by go_num, rfl, b5, b6, b1, b2, (by repeat (first | with_reducible assumption | with_reducible (refine At.new' _ _ _ ?_; first | rfl | (simp; done)) | with_reducible apply At.set2 | with_reducible refine At.alloc ?_ _ | with_reducible refine At.drew ?_ | with_reducible refine At.set_other ?_ (by first | (simp; done) | (simp; omega)) _)), (by repeat (first | with_reducible assumption | with_reducible (refine At.new' _ _ _ ?_; first | rfl | (simp; done)) | with_reducible apply At.set2 | with_reducible refine At.alloc ?_ _ | with_reducible refine At.drew ?_ | with_reducible refine At.set_other ?_ (by first | (simp; done) | (simp; omega)) _)), (by repeat (first | with_reducible assumption | with_reducible exact Below.refl _ _ | with_reducible refine Below.drew ?_ | with_reducible refine Below.setCell ?_ (by first | omega | (simp; done) | (simp; omega)) _ | with_reducible refine Below.alloc ?_ (by first | omega | (simp; done) | (simp; omega) | (simp [World.setCell]; omega)) _)), ?_⟩
            have h5 := HF.out
            have h6 := HP2.out
            rw [HD.out, sumF, ← h6, hd, ← HP1.out] at h5
            exact h5
          case measure => simp [intOf]; omega
      · clear hd
        go_wp2
        go_roundw
        case rel =>
          refine ⟨k + 1, true, hi, lo, by omega, by go_num, rfl, b5, b6, b1, b2, (by repeat (first | with_reducible assumption | with_reducible (refine At.new' _ _ _ ?_; first | rfl | (simp; done)) | with_reducible apply At.set2 | with_reducible refine At.alloc ?_ _ | with_reducible refine At.drew ?_ | with_reducible refine At.set_other ?_ (by first | (simp; done) | (simp; omega)) _)), (by repeat (first | with_reducible assumption | with_reducible (refine At.new' _ _ _ ?_; first | rfl | (simp; done)) | with_reducible apply At.set2 | with_reducible refine At.alloc ?_ _ | with_reducible refine At.drew ?_ | with_reducible refine At.set_other ?_ (by first | (simp; done) | (simp; omega)) _)), (by repeat (first | with_reducible assumption | with_reducible exact Below.refl _ _ | with_reducible refine Below.drew ?_ | with_reducible refine Below.setCell ?_ (by first | omega | (simp; done) | (simp; omega)) _ | with_reducible refine Below.alloc ?_ (by first | omega | (simp; done) | (simp; omega) | (simp [World.setCell]; omega)) _)), ?_⟩
          have h5 := HF.out
          rw [HD.out, sumF, Bool.true_or, ← HP1.out] at h5
          exact h5
        case measure => simp [intOf]; omega
    · clear hc hx
      go_wp2
      refine bodyPost_ret (by simp [results, Try.results20, go_sem, f1, f0]; rfl) rfl ?_
      have h5 := HF.out
      rw [List.drop_eq_nil_of_le (by omega), sumF] at h5
      exact ⟨sh, sl, h1, h2, h3, h4, by rw [← h5], by rw [← h5], (by repeat (first | with_reducible assumption | with_reducible exact Below.refl _ _ | with_reducible refine Below.drew ?_ | with_reducible refine Below.setCell ?_ (by first | omega | (simp; done) | (simp; omega)) _ | with_reducible refine Below.alloc ?_ (by first | omega | (simp; done) | (simp; omega) | (simp [World.setCell]; omega)) _))⟩
end Go.Proofs.Ythbkgahflmgmnaa

