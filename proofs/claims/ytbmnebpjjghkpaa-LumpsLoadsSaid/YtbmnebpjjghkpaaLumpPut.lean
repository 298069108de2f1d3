/- Contracts of package lumps: Put, Join, Rank. -/
import Derived.Test.YtbmnebpjjghkpaaProg
import Derived.Test.YtbmnebpjjghkpaaLumpPress
import Derived.Test.YtbmnebpjjghkpaaPlus
namespace Go.Proofs.Ytbmnebpjjghkpaa
open Go.RowKit

/-- Values in their bounds. -/
def rngL (ls : List Lu) : Prop := ∀ x ∈ ls, (-9223372036854775808 ≤ x.2.1 ∧ x.2.1 ≤ 9223372036854775807) ∧ (-9223372036854775808 ≤ x.2.2 ∧ x.2.2 ≤ 9223372036854775807)
theorem lmem_le_sum {ls : List Lu} (h : GdL ls) {x : Lu} (hx : x ∈ ls) : x.1 ≤ sumN ls := by
  obtain ⟨i, hi, rfl⟩ := List.getElem_of_mem hx
  have h1 := sumN_take ls i hi
  have h2 := sumN_take_le h (i + 1)
  have h3 := sumN_nonneg (ls := ls.take i) (fun x hx => h.pos x (List.mem_of_mem_take hx))
  omega
theorem okL_of {ls : List Lu} (h : GdL ls) (hr : rngL ls) (hs : sumN ls ≤ 9223372036854775807) : okL ls := fun x hx => by
  have h1 := h.pos x hx
  have h2 := lmem_le_sum h hx
  exact ⟨⟨by omega, by omega⟩, hr x hx⟩
theorem okL.rng {ls : List Lu} (h : okL ls) : rngL ls := fun x hx => (h x hx).2
theorem rngL_laid {ls : List Lu} {l : Lu} (h : rngL ls) (h1 : (-9223372036854775808 ≤ l.2.1 ∧ l.2.1 ≤ 9223372036854775807) ∧ (-9223372036854775808 ≤ l.2.2 ∧ l.2.2 ≤ 9223372036854775807)) : rngL (laid ls l) := fun x hx => by
  rcases laid_mem hx with ⟨e1, e2⟩ | hx
  · rw [e1, e2]; exact h1
  · exact h x hx
theorem rngL_press1 {ls : List Lu} (h : rngL ls) (hl : 2 ≤ ls.length) : rngL (press1 ls) := by
  have hp := pick_lt hl
  have h1 := h _ (mem_lget (by omega : pick ls < ls.length))
  have h2 := h _ (mem_lget hp)
  refine rngL_laid (fun x hx => h x ((out2_sub ls _).subset hx)) ?_
  unfold both
  dsimp only
  omega
theorem rngL_press {most : Int} {ls : List Lu} (hm : 1 ≤ most) (h : rngL ls) : rngL (press most ls) :=
  (press_ind (P := rngL) hm (fun ks hk hl => rngL_press1 hk (by omega)) (Nat.le_refl _) h).1

/-- A sketch behind what was laid. -/
theorem sk_pressed {w : World} {b : Nat} {S : List Nat} {most : Int} {ks : List Lu} (h : SkR w b S most (press most ks) (sumN (press most ks))) (hm : 2 ≤ most) (hg : GdL ks) (hr : rngL ks) (hs : sumN ks ≤ 9223372036854775807) : Sk w b S most (press most ks) := by
  obtain ⟨a1, a2, _⟩ := press_ok (most := most) (by omega) hg
  exact ⟨h, a1, okL_of a1 (rngL_press (by omega) hr) (by rw [a2]; exact hs), by rw [a2]; exact hs⟩

/-- What Put leaves. -/
def PutR (b : Nat) (S : List Nat) (most : Int) (ks : List Lu) (w w' : World) : Prop := ∃ S', GrownS S S' w.heap.size ∧ Sk w' b S' most ks ∧ Frame S w w'
theorem frame_two {w w1 w2 : World} {S S1 : List Nat} (hg : GrownS S S1 w.heap.size) (h1 : Frame S w w1) (h2 : Frame S1 w1 w2) : Frame S w w2 := by
  refine ⟨h2.os.trans h1.os, h2.tape.trans h1.tape, h2.output.trans h1.output, Nat.le_trans h1.size h2.size, fun k hk hn => ?_⟩
  refine (h2.block k (Nat.lt_of_lt_of_le hk h1.size) fun hm => ?_).trans (h1.block k hk hn)
  rcases hg k hm with h | h
  · exact hn h
  · omega
theorem kput_zero (b : Nat) (x : Int) (w : World) : Calls Try.prog 15 #[.pointer (some ⟨b, 0, none⟩), .int .i64 x, .int .u64 0] w fun e w' => e = .returned (.int .i64 1) ∧ w = w' := by
  go_enter Try.func15, Try.ntmps15
  go_wp2
  go_ret
  exact ⟨rfl, rfl⟩
theorem knil_put (x c : Int) (w : World) : Calls Try.prog 15 #[.pointer none, .int .i64 x, .int .u64 c] w fun e w' => e = .returned (.int .i64 2) ∧ w = w' := by
  go_enter Try.func15, Try.ntmps15
  go_wp2
  go_ret
  exact ⟨rfl, rfl⟩
theorem kput_full (b : Nat) (S : List Nat) (most : Int) (ls : List Lu) (x cc : Int) (w : World) (h : Sk w b S most ls) (hc : 0 < cc) (hc' : cc < 18446744073709551616) (ht : 9223372036854775807 < sumN ls + cc) :
    Calls Try.prog 15 #[.pointer (some ⟨b, 0, none⟩), .int .i64 x, .int .u64 cc] w fun e w' => e = .returned (.int .i64 6) ∧ Below w.heap.size w w' := by
  have H0 : Hid (0 < cc ∧ cc < 18446744073709551616 ∧ 0 ≤ sumN ls ∧ sumN ls ≤ 9223372036854775807) := ⟨hc, hc', h.sum0, h.sm⟩
  have hcc : (cc == 0) = false := beq_eq_false_iff_ne.2 (by omega)
  obtain ⟨A, c, _, hB⟩ := h.r
  have f1 := hB.at'.three
  obtain ⟨tot, htot⟩ : ∃ t, sumN ls = t := ⟨_, rfl⟩
  rw [htot] at H0 f1 ht
  obtain ⟨p1, p2⟩ := plus2_no (a := tot) (b := cc) (by omega)
  have HP := Lib.hid (And.intro p1 p2)
  clear h hc hc' ht p1 p2 hB htot
  go_enter Try.func15, Try.ntmps15
  go_wp2_with fail
  have a1 := At.new w #[.int .u64 tot, .int .u64 cc] 39
  refine (plus2_any w.heap.size tot cc _ (by have := H0.out; omega) (by have := H0.out; omega) (by have := H0.out; omega) (by have := H0.out; omega) (a1.cell rfl) (a1.cell rfl)).mono ?_
  rintro e w2 ⟨rfl, rfl⟩
  rw [HP.out.1, HP.out.2]
  clear a1
  go_wp2
  go_ret
  exact ⟨rfl, (by repeat (first | with_reducible assumption | with_reducible exact Below.refl _ _ | with_reducible refine Below.drew ?_ | with_reducible refine Below.drewN ?_ _ | with_reducible refine Below.setCell ?_ (by first | omega | (simp; done) | (simp; omega)) _ | with_reducible refine Below.alloc ?_ (by first | omega | (simp; done) | (simp; omega) | (simp [World.setCell]; omega)) _))⟩
theorem kput_any (b : Nat) (S : List Nat) (most : Int) (ls : List Lu) (x cc : Int) (w : World) (h : Sk w b S most ls) (hm : 2 ≤ most) (hl : ls.length ≤ 1000000) (hc : 0 < cc) (ht : sumN ls + cc ≤ 9223372036854775807) (hx : -9223372036854775808 ≤ x ∧ x ≤ 9223372036854775807) :
    Calls Try.prog 15 #[.pointer (some ⟨b, 0, none⟩), .int .i64 x, .int .u64 cc] w fun e w' => e = .returned (.int .i64 0) ∧ PutR b S most (press most (laid ls (cc, x, x))) w w' := by
  have H := Lib.hid h
  have H0 : Hid (0 < cc ∧ cc < 18446744073709551616 ∧ 0 ≤ sumN ls ∧ sumN ls + cc ≤ 9223372036854775807) := ⟨hc, by have := h.sum0; omega, h.sum0, ht⟩
  have hcc : (cc == 0) = false := beq_eq_false_iff_ne.2 (by omega)
  obtain ⟨A, c, _, hB⟩ := h.r
  have f1 := hB.at'.three
  have HLG := Lib.hid (laid_gd (l := (cc, x, x)) h.gd hc (Int.le_refl _))
  have HLR := Lib.hid (rngL_laid (l := (cc, x, x)) h.ok.rng ⟨hx, hx⟩)
  have HLL : Hid ((laid ls (cc, x, x)).length ≤ 1048000) := Nat.le_trans laid_len (by omega)
  have HLS : Hid (sumN (laid ls (cc, x, x)) = sumN ls + cc) := sumN_laid
  have HL0 := Lib.hid hl
  have HM := Lib.hid hm
  obtain ⟨tot, htot⟩ : ∃ t, sumN ls = t := ⟨_, rfl⟩
  have HTOT := Lib.hid htot
  rw [htot] at f1 H0 ht HLS
  obtain ⟨p1, p2⟩ := plus2_yes (a := tot) (b := cc) (by omega)
  have HP := Lib.hid (And.intro p1 p2)
  clear h hc ht p1 p2 hB htot hx hl hm
  go_enter Try.func15, Try.ntmps15
  go_wp2_with fail
  have a1 := At.new w #[.int .u64 tot, .int .u64 cc] 39
  refine (plus2_any w.heap.size tot cc _ (by have := H0.out; omega) (by have := H0.out; omega) (by have := H0.out; omega) (by have := H0.out; omega) (a1.cell rfl) (a1.cell rfl)).mono ?_
  rintro e w2 ⟨rfl, rfl⟩
  rw [HP.out.1, HP.out.2]
  have hB2 : Below w.heap.size w (w.alloc (.cells #[.int .u64 tot, .int .u64 cc] 39)) := (by repeat (first | with_reducible assumption | with_reducible exact Below.refl _ _ | with_reducible refine Below.drew ?_ | with_reducible refine Below.drewN ?_ _ | with_reducible refine Below.setCell ?_ (by first | omega | (simp; done) | (simp; omega)) _ | with_reducible refine Below.alloc ?_ (by first | omega | (simp; done) | (simp; omega) | (simp [World.setCell]; omega)) _))
  have HB := Lib.hid hB2
  clear a1 hB2
  go_wp2_with fail
  have HSK := Lib.hid (H.out.r.below HB.out)
  rw [HTOT.out] at HSK
  refine (klay_any b S most tot ls cc x x _ HSK.out H.out.gd (by have := HL0.out; omega) (by have := H0.out; omega) (by have := H0.out; omega) (by have := H0.out; omega) (by have := H0.out; have := HTOT.out; omega)).mono ?_
  rintro e w3 ⟨rfl, S3, hg3, hS3, hF3⟩
  rw [← HLS.out] at hS3
  have HS3 := Lib.hid hS3
  have HG3 : Hid (GrownS S S3 w.heap.size) := fun k hk => (hg3 k hk).imp id fun h => Nat.le_trans HB.out.size h
  have HF3 : Hid (Frame S w w3) := (Frame.of_below HB.out).trans hF3
  clear hg3 hS3 hF3
  go_wp2_with fail
  refine (kpress_any b S3 most _ w3 HS3.out HLG.out (by have := HLS.out; have := H0.out; omega) HM.out HLL.out).mono ?_
  rintro e w4 ⟨rfl, S4, hg4, hS4, hF4⟩
  have HR : Hid (PutR b S most (press most (laid ls (cc, x, x))) w w4) := by
    refine ⟨S4, fun k hk => ?_, sk_pressed hS4 HM.out HLG.out HLR.out (by have := HLS.out; have := H0.out; omega), frame_two HG3.out HF3.out hF4⟩
    rcases hg4 k hk with h | h
    · exact HG3.out k h
    · exact .inr (Nat.le_trans HF3.out.size h)
  clear hg4 hS4 hF4
  go_wp2
  go_ret
  exact ⟨rfl, HR.out⟩
/-- Up to a value: at least, and at most. -/
def rankLo (ls : List Lu) (x : Int) : Int := sumI (fun l => decide (l.2.2 ≤ x)) ls
def rankHi (ls : List Lu) (x : Int) : Int := sumI (fun l => decide (l.2.1 ≤ x)) ls
theorem knil_rank (x : Int) (w : World) : Calls Try.prog 22 #[.pointer none, .int .i64 x] w fun e w' => e = .returned (.tuple #[.int .u64 0, .int .u64 0]) ∧ Below w.heap.size w w' := by
  go_enter Try.func22, Try.ntmps22
  go_wp2_with fail
  refine (knil_lumps w).mono ?_
  rintro e w1 ⟨rfl, rfl⟩
  go_wp2
  go_loopw [6, 7, 9, 13] (fun n m _ i wr => n = .int .u64 0 ∧ m = .int .u64 0 ∧ i = .int .i64 0 ∧ Below w.heap.size w wr) (fun _ _ _ _ _ => 0)
  case atStart => exact ⟨rfl, rfl, rfl, Below.refl _ _⟩
  case round =>
    obtain ⟨rfl, rfl, rfl, hB⟩ := hrel
    go_wp2
    go_ret2
    exact ⟨rfl, hB⟩
set_option maxHeartbeats 1000000 in
theorem krank_any (b : Nat) (S : List Nat) (most : Int) (ls : List Lu) (x : Int) (w : World) (h : Sk w b S most ls) (hl : ls.length ≤ 1048576) :
    Calls Try.prog 22 #[.pointer (some ⟨b, 0, none⟩), .int .i64 x] w fun e w' => e = .returned (.tuple #[.int .u64 (rankLo ls x), .int .u64 (rankHi ls x)]) ∧ Below w.heap.size w w' := by
  have HC := Lib.hid (klumps_any b S most _ ls w h.r hl)
  have HG := Lib.hid h.gd
  have HSM := Lib.hid h.sm
  obtain ⟨len, hlen⟩ : ∃ n, ls.length = n := ⟨_, rfl⟩
  have HLN := Lib.hid hlen
  rw [hlen] at hl
  clear h hlen
  go_enter Try.func22, Try.ntmps22
  go_wp2_with fail
  refine HC.out.mono ?_
  rintro e w1 ⟨A, c, rfl, ho, hb1⟩
  rw [HLN.out]
  have HR := Lib.hid ho.rd
  have z1 := hb1.size
  clear ho HC
  go_wp2
  go_loopw [6, 7, 9, 13] (fun n m _ i wr => ∃ k : Nat, ∃ p q : Int, k ≤ len ∧ i = .int .i64 k ∧ n = .int .u64 p ∧ m = .int .u64 q ∧ 0 ≤ p ∧ 0 ≤ q ∧ Hid (p = rankLo (ls.take k) x ∧ q = rankHi (ls.take k) x) ∧ Below w1.heap.size w1 wr) (fun _ _ _ i _ => len - (intOf i).toNat)
  case atStart => exact ⟨0, 0, 0, by omega, rfl, rfl, rfl, by omega, by omega, ⟨rfl, rfl⟩, Below.refl _ _⟩
  case round =>
    obtain ⟨k, p, q, hk, rfl, rfl, rfl, hp, hq, HPQ, hB⟩ := hrel
    have zB := hB.size
    by_cases hlt : k < len
    · obtain ⟨g, o, rfl, hg, c1, c2, c3⟩ := (HR.out.below hB).at k (by have := HLN.out; omega)
      have H1 := Lib.hid (sumI_take (fun l => decide (l.2.2 ≤ x)) ls k (by have := HLN.out; omega))
      have H2 := Lib.hid (sumI_take (fun l => decide (l.2.1 ≤ x)) ls k (by have := HLN.out; omega))
      have HP := Lib.hid (HG.out.pos _ (List.getElem_mem (show k < ls.length by have := HLN.out; omega)))
      have hgt : GdL (ls.take (k + 1)) := HG.out.sub (List.take_sublist _ _)
      have HB1 := Lib.hid (Int.le_trans (sumI_le (p := fun l => decide (l.2.2 ≤ x)) hgt.pos).2 (Int.le_trans (sumN_take_le HG.out (k + 1)) HSM.out))
      have HB2 := Lib.hid (Int.le_trans (sumI_le (p := fun l => decide (l.2.1 ≤ x)) hgt.pos).2 (Int.le_trans (sumN_take_le HG.out (k + 1)) HSM.out))
      obtain ⟨⟨y1, y2, y3⟩, hy⟩ : ∃ y, ls[k]'(by have := HLN.out; omega) = y := ⟨_, rfl⟩
      rw [hy] at c1 c2 c3 H1 H2 HP
      clear hy HR hgt
      dsimp only at c1 c2 c3 H1 H2 HP
      by_cases ha : y3 ≤ x
      · rw [if_pos (decide_eq_true ha)] at H1
        have wa : IntKind.u64.wrap (p + y1) = p + y1 := by have h1 := H1.out; have h2 := HB1.out; have h3 := HPQ.out.1; have h4 := HP.out; unfold rankLo at h3; simp only [IntKind.wrap_u64]; omega
        by_cases hc : y2 ≤ x
        · rw [if_pos (decide_eq_true hc)] at H2
          have wc : IntKind.u64.wrap (q + y1) = q + y1 := by have h1 := H2.out; have h2 := HB2.out; have h3 := HPQ.out.2; have h4 := HP.out; unfold rankHi at h3; simp only [IntKind.wrap_u64]; omega
          go_wp2
          go_roundw
          case rel => exact ⟨k + 1, p + y1, q + y1, by omega, by simp, rfl, rfl, by have := HP.out; omega, by have := HP.out; omega, ⟨by have h1 := H1.out; have h2 := HPQ.out.1; unfold rankLo at h2 ⊢; omega, by have h1 := H2.out; have h2 := HPQ.out.2; unfold rankHi at h2 ⊢; omega⟩, (by repeat (first | with_reducible assumption | with_reducible exact Below.refl _ _ | with_reducible refine Below.drew ?_ | with_reducible refine Below.drewN ?_ _ | with_reducible refine Below.setCell ?_ (by first | omega | (simp; done) | (simp; omega)) _ | with_reducible refine Below.alloc ?_ (by first | omega | (simp; done) | (simp; omega) | (simp [World.setCell]; omega)) _))⟩
          case measure => simp [intOf]; omega
        · rw [if_neg (by simpa using hc)] at H2
          go_wp2
          go_roundw
          case rel => exact ⟨k + 1, p + y1, q, by omega, by simp, rfl, rfl, by have := HP.out; omega, by omega, ⟨by have h1 := H1.out; have h2 := HPQ.out.1; unfold rankLo at h2 ⊢; omega, by have h1 := H2.out; have h2 := HPQ.out.2; unfold rankHi at h2 ⊢; omega⟩, (by repeat (first | with_reducible assumption | with_reducible exact Below.refl _ _ | with_reducible refine Below.drew ?_ | with_reducible refine Below.drewN ?_ _ | with_reducible refine Below.setCell ?_ (by first | omega | (simp; done) | (simp; omega)) _ | with_reducible refine Below.alloc ?_ (by first | omega | (simp; done) | (simp; omega) | (simp [World.setCell]; omega)) _))⟩
          case measure => simp [intOf]; omega
      · rw [if_neg (by simpa using ha)] at H1
        by_cases hc : y2 ≤ x
        · rw [if_pos (decide_eq_true hc)] at H2
          have wc : IntKind.u64.wrap (q + y1) = q + y1 := by have h1 := H2.out; have h2 := HB2.out; have h3 := HPQ.out.2; have h4 := HP.out; unfold rankHi at h3; simp only [IntKind.wrap_u64]; omega
          go_wp2
          go_roundw
          case rel => exact ⟨k + 1, p, q + y1, by omega, by simp, rfl, rfl, by omega, by have := HP.out; omega, ⟨by have h1 := H1.out; have h2 := HPQ.out.1; unfold rankLo at h2 ⊢; omega, by have h1 := H2.out; have h2 := HPQ.out.2; unfold rankHi at h2 ⊢; omega⟩, (by repeat (first | with_reducible assumption | with_reducible exact Below.refl _ _ | with_reducible refine Below.drew ?_ | with_reducible refine Below.drewN ?_ _ | with_reducible refine Below.setCell ?_ (by first | omega | (simp; done) | (simp; omega)) _ | with_reducible refine Below.alloc ?_ (by first | omega | (simp; done) | (simp; omega) | (simp [World.setCell]; omega)) _))⟩
          case measure => simp [intOf]; omega
        · rw [if_neg (by simpa using hc)] at H2
          go_wp2
          go_roundw
          case rel => exact ⟨k + 1, p, q, by omega, by simp, rfl, rfl, by omega, by omega, ⟨by have h1 := H1.out; have h2 := HPQ.out.1; unfold rankLo at h2 ⊢; omega, by have h1 := H2.out; have h2 := HPQ.out.2; unfold rankHi at h2 ⊢; omega⟩, (by repeat (first | with_reducible assumption | with_reducible exact Below.refl _ _ | with_reducible refine Below.drew ?_ | with_reducible refine Below.drewN ?_ _ | with_reducible refine Below.setCell ?_ (by first | omega | (simp; done) | (simp; omega)) _ | with_reducible refine Below.alloc ?_ (by first | omega | (simp; done) | (simp; omega) | (simp [World.setCell]; omega)) _))⟩
          case measure => simp [intOf]; omega
    · obtain rfl : k = len := by omega
      have h1 := HPQ.out
      rw [List.take_of_length_le (by have := HLN.out; omega)] at h1
      have H1 := Lib.hid h1
      clear HR HPQ h1
      go_wp2
      go_ret2
      exact ⟨by rw [← H1.out.1, ← H1.out.2]; rfl, keep1 hb1 hB⟩
end Go.Proofs.Ytbmnebpjjghkpaa

