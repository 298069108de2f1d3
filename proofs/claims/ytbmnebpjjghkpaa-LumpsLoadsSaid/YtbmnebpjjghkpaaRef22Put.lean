/- Contracts of the document's lumps: Put, Join, Rank, Quantile. -/
import Derived.Test.YtbmnebpjjghkpaaProg
import Derived.Test.YtbmnebpjjghkpaaRef22Press
import Derived.Test.YtbmnebpjjghkpaaLumpQuant
import Derived.Test.YtbmnebpjjghkpaaFar
namespace Go.Proofs.Ytbmnebpjjghkpaa
open Go.RowKit

theorem DocKR.trans {m : Nat} {S S1 : List Nat} {most : Int} {ls : List Lu} {w w1 w2 : World} (hg : GrownS S S1 w.heap.size) (hf : Frame S w w1) (h : DocKR m S1 most ls w1 w2) : DocKR m S most ls w w2 := by
  obtain ⟨S2, hg2, hd, hf2⟩ := h
  exact ⟨S2, grown_two hg hg2 hf.size, hd, frame_two hg hf hf2⟩

theorem dkput_any (m : Nat) (S : List Nat) (most : Int) (ls : List Lu) (x cc : Int) (w : World) (h : DocK w m S most ls) (hg : GdL ls) (hm : 2 ≤ most) (hl : ls.length ≤ 999000) (hc : 0 < cc) (hs : sumN ls + cc ≤ 9223372036854775807) :
    Calls Try.prog 16 #[.pointer (some ⟨m, 0, none⟩), .int .i64 x, .int .u64 cc] w fun e w' => e = .returned (.tuple #[]) ∧ DocKR m S most (press most (laid ls (cc, x, x))) w w' := by
  have HC := Lib.hid (dklay_any m S most ls cc x x w h hg hc hs (by omega))
  have HP := Lib.hid (fun S1 w1 (h1 : DocK w1 m S1 most (laid ls (cc, x, x))) => dkpress_any m S1 most _ w1 h1 (laid_gd hg hc (Int.le_refl x)) (by rw [sumN_laid]; exact hs) hm (by have := laid_len (ls := ls) (l := (cc, x, x)); omega))
  clear h hg hl hc hs hm
  go_enter Try.func16, Try.ntmps16
  go_wp2_with fail
  refine HC.out.mono ?_
  rintro e w1 ⟨rfl, S1, hg1, hD1, hF1⟩
  have H1 := Lib.hid (And.intro hg1 hF1)
  replace HP := Lib.hid (HP.out S1 w1 hD1)
  clear hg1 hF1 hD1 HC
  go_wp2_with fail
  refine HP.out.mono ?_
  rintro e w2 ⟨rfl, hR⟩
  have HR := Lib.hid (DocKR.trans H1.out.1 H1.out.2 hR)
  clear hR
  go_wp2
  exact bodyPost_end (results_none rfl _ _ _) rfl ⟨rfl, HR.out⟩

/-- While the document's lumps are joined. -/
structure DMer (w wr : World) (m : Nat) (S S' : List Nat) (most : Int) (ks : List Lu) (A : Option Addr) (os : List Lu) : Prop where
  doc : DocK wr m S' most ks
  gr : GrownS S S' w.heap.size
  fr : Frame S w wr
  rd : RdL wr A os
set_option maxHeartbeats 1000000 in
theorem dkjoin_any (m o : Nat) (S So : List Nat) (most most' : Int) (ls os : List Lu) (w : World) (h : DocK w m S most ls) (k : DocK w o So most' os) (hap : Apart S So) (hg : GdL ls) (hg' : GdL os) (hr : rngL ls) (hr' : rngL os) (hm : 2 ≤ most) (hl : ls.length ≤ 100000) (hl' : os.length ≤ 100000) (hs : sumN ls + sumN os ≤ 9223372036854775807) :
    Calls Try.prog 21 #[.pointer (some ⟨m, 0, none⟩), .pointer (some ⟨o, 0, none⟩)] w fun e w' => e = .returned (.tuple #[]) ∧ DocKR m S most (press most (laidAll ls os)) w w' := by
  obtain ⟨A, c, hSo, kB⟩ := k
  have HAP : Hid (∀ a, A = some a → a.block ∉ S ∧ a.block < w.heap.size) := fun a ha => ⟨fun hn => hap _ hn (by rw [hSo, ha]; simp [blk]), (kB.own.base_le a ha).2⟩
  have HM : Hid (DMer w w m S S most ls A os) := ⟨h, GrownS.refl _ _, Frame.refl _ _, kB.own.rd⟩
  have HLT := Lib.hid h.lt
  have HALL := Lib.hid (laidAll_ok hg hg' hr hr')
  have HG := Lib.hid (And.intro (And.intro hg hg') (And.intro hr hr'))
  have HL := Lib.hid (And.intro hl (And.intro hl' (And.intro hs hm)))
  have f1 := kB.at'.two
  obtain ⟨n, hn⟩ : ∃ n, os.length = n := ⟨_, rfl⟩
  have HN := Lib.hid hn
  rw [hn] at f1 hl'
  clear h kB hap hSo hg hg' hr hr' hl hs hm hn
  go_enter Try.func21, Try.ntmps21
  go_wp2
  clear f1
  go_loopw [5, 11] (fun _ i wr => ∃ j : Nat, ∃ S2, j ≤ n ∧ i = .int .i64 j ∧ Hid (DMer w wr m S S2 most (laidAll ls (os.take j)) A os)) (fun _ i _ => n - (intOf i).toNat)
  case atStart => exact ⟨0, S, by omega, rfl, by rw [List.take_zero]; exact HM.out⟩
  case round =>
    obtain ⟨j, S2, hj, rfl, HJ⟩ := hrel
    clear HM
    by_cases hjt : j < n
    · obtain ⟨g, o', hA, hg, c1, c2, c3⟩ := HJ.out.rd.at j (by have := HN.out; omega)
      subst hA
      have HC := Lib.hid (laidAll_take ls os j (by have := HN.out; omega))
      have HX := Lib.hid (HG.out.1.2.pos _ (List.getElem_mem (show j < os.length by have := HN.out; omega)))
      have HT := Lib.hid (laidAll_ok HG.out.1.1 (gdL_take HG.out.1.2 j) HG.out.2.1 (rngL_take HG.out.2.2 j))
      have HT2 := Lib.hid (sumN_take os j (by have := HN.out; omega))
      have HT3 := Lib.hid (sumN_take_le HG.out.1.2 (j + 1))
      obtain ⟨⟨x, y, z⟩, hx⟩ : ∃ x, os[j]'(by have := HN.out; omega) = x := ⟨_, rfl⟩
      rw [hx] at c1 c2 c3 HC HX HT2
      clear hx
      dsimp only at c1 c2 c3 HC HX HT2
      have hbp : Below wr.heap.size wr (wr.alloc (.cells #[.int .u64 x, .int .i64 y, .int .i64 z] 78)) := (Below.refl _ _).alloc (Nat.le_refl _) _
      have HJ2 : Hid (DMer w (wr.alloc (.cells #[.int .u64 x, .int .i64 y, .int .i64 z] 78)) m S S2 most (laidAll ls (os.take j)) (some ⟨g, o', none⟩) os) :=
        ⟨HJ.out.doc.below hbp, HJ.out.gr, HJ.out.fr.trans (Frame.of_below hbp), HJ.out.rd.below hbp⟩
      clear HJ hbp
      go_wp2_with fail
      refine (dklay_any m S2 most _ x y z _ HJ2.out.doc HT.out.1 HX.out (by have := HT2.out; have := HT3.out; have := HL.out; have := HT.out.2.2.1; omega) (by have := HL.out; have := HT.out.2.2.2; rw [List.length_take] at this; omega)).mono ?_
      rintro e w6 ⟨rfl, S3, hg3, hD3, hF3⟩
      rw [← HC.out] at hD3
      have H3 : Hid (DMer w w6 m S S3 most (laidAll ls (os.take (j + 1))) (some ⟨g, o', none⟩) os) := by
        refine ⟨hD3, grown_two HJ2.out.gr hg3 HJ2.out.fr.size, frame_two HJ2.out.gr HJ2.out.fr hF3, hF3.rd HJ2.out.rd fun a ha hn => ?_⟩
        have h1 := HAP.out a ha
        rcases HJ2.out.gr _ hn with h | h
        · exact h1.1 h
        · omega
      clear hg3 hD3 hF3 HJ2
      go_wp2
      go_roundw
      case rel => exact ⟨j + 1, S3, by omega, by simp, H3⟩
      case measure => simp [intOf]; omega
    · obtain rfl : j = n := by omega
      have H1 := HJ.out
      rw [List.take_of_length_le (by have := HN.out; omega)] at H1
      have HE := Lib.hid H1
      clear HJ H1
      go_wp2_with fail
      refine (dkpress_any m S2 most _ wr HE.out.doc HALL.out.1 (by have := HALL.out.2.2.1; have := HL.out; omega) HL.out.2.2.2 (by have := HALL.out.2.2.2; have := HL.out; omega)).mono ?_
      rintro e w4 ⟨rfl, hR⟩
      have HR := Lib.hid (DocKR.trans HE.out.gr HE.out.fr hR)
      clear hR
      go_wp2
      exact bodyPost_end (results_none rfl _ _ _) rfl ⟨rfl, HR.out⟩

set_option maxHeartbeats 1000000 in
theorem dkrank_any (m : Nat) (S : List Nat) (most : Int) (ls : List Lu) (x : Int) (w : World) (h : DocK w m S most ls) (hg : GdL ls) (hs : sumN ls ≤ 9223372036854775807) (hl : ls.length ≤ 1048576) :
    Calls Try.prog 28 #[.pointer (some ⟨m, 0, none⟩), .int .i64 x] w fun e w' => e = .returned (.tuple #[.int .u64 (rankLo ls x), .int .u64 (rankHi ls x)]) ∧ Below w.heap.size w w' := by
  obtain ⟨A, c, _, hB⟩ := h
  have f1 := hB.at'.two
  have HR := Lib.hid hB.own.rd
  have HG := Lib.hid hg
  have HSM := Lib.hid hs
  obtain ⟨len, hlen⟩ : ∃ n, ls.length = n := ⟨_, rfl⟩
  have HLN := Lib.hid hlen
  rw [hlen] at hl f1
  clear hB hlen hg hs
  go_enter Try.func28, Try.ntmps28
  go_wp2
  clear f1
  go_loopw [6, 7, 9, 15] (fun n m _ i wr => ∃ k : Nat, ∃ p q : Int, k ≤ len ∧ i = .int .i64 k ∧ n = .int .u64 p ∧ m = .int .u64 q ∧ 0 ≤ p ∧ 0 ≤ q ∧ Hid (p = rankLo (ls.take k) x ∧ q = rankHi (ls.take k) x) ∧ Below w.heap.size w wr) (fun _ _ _ i _ => len - (intOf i).toNat)
  case atStart => exact ⟨0, 0, 0, by omega, rfl, rfl, rfl, by omega, by omega, ⟨rfl, rfl⟩, Below.refl _ _⟩
  case round =>
    obtain ⟨k, p, q, hk, rfl, rfl, rfl, hp, hq, HPQ, hB⟩ := hrel
    have zB := hB.size
    by_cases hlt : k < len
    · obtain ⟨g, o, rfl, hg, c1, c2, c3⟩ := (HR.out.below hB).at k (by have := HLN.out; omega)
      have H1 := Lib.hid (sumI_take (fun l => decide (l.2.2 ≤ x)) ls k (by have := HLN.out; omega))
      have H2 := Lib.hid (sumI_take (fun l => decide (l.2.1 ≤ x)) ls k (by have := HLN.out; omega))
      have HP := Lib.hid (HG.out.pos _ (List.getElem_mem (show k < ls.length by have := HLN.out; omega)))
      have hgt : GdL (ls.take (k + 1)) := HG.out.sub (List.take_sublist _ _)
      have HB1 := Lib.hid (Int.le_trans (sumI_le (p := fun l => decide (l.2.2 ≤ x)) hgt.pos).2 (Int.le_trans (sumN_take_le HG.out (k + 1)) HSM.out))
      have HB2 := Lib.hid (Int.le_trans (sumI_le (p := fun l => decide (l.2.1 ≤ x)) hgt.pos).2 (Int.le_trans (sumN_take_le HG.out (k + 1)) HSM.out))
      obtain ⟨⟨y1, y2, y3⟩, hy⟩ : ∃ y, ls[k]'(by have := HLN.out; omega) = y := ⟨_, rfl⟩
      rw [hy] at c1 c2 c3 H1 H2 HP
      clear hy HR hgt
      dsimp only at c1 c2 c3 H1 H2 HP
      by_cases ha : y3 ≤ x
      · rw [if_pos (decide_eq_true ha)] at H1
        have wa : IntKind.u64.wrap (p + y1) = p + y1 := by have h1 := H1.out; have h2 := HB1.out; have h3 := HPQ.out.1; have h4 := HP.out; unfold rankLo at h3; simp only [IntKind.wrap_u64]; omega
        by_cases hc : y2 ≤ x
        · rw [if_pos (decide_eq_true hc)] at H2
          have wc : IntKind.u64.wrap (q + y1) = q + y1 := by have h1 := H2.out; have h2 := HB2.out; have h3 := HPQ.out.2; have h4 := HP.out; unfold rankHi at h3; simp only [IntKind.wrap_u64]; omega
          go_wp2
          go_roundw
          case rel => exact ⟨k + 1, p + y1, q + y1, by omega, by simp, rfl, rfl, by have := HP.out; omega, by have := HP.out; omega, ⟨by have h1 := H1.out; have h2 := HPQ.out.1; unfold rankLo at h2 ⊢; omega, by have h1 := H2.out; have h2 := HPQ.out.2; unfold rankHi at h2 ⊢; omega⟩, (by repeat (first | with_reducible assumption | with_reducible exact Below.refl _ _ | with_reducible refine Below.drew ?_ | with_reducible refine Below.drewN ?_ _ | with_reducible refine Below.setCell ?_ (by first | omega | (simp; done) | (simp; omega)) _ | with_reducible refine Below.alloc ?_ (by first | omega | (simp; done) | (simp; omega) | (simp [World.setCell]; omega)) _))⟩
          case measure => simp [intOf]; omega
        · rw [if_neg (by simpa using hc)] at H2
          go_wp2
          go_roundw
          case rel => exact ⟨k + 1, p + y1, q, by omega, by simp, rfl, rfl, by have := HP.out; omega, by omega, ⟨by have h1 := H1.out; have h2 := HPQ.out.1; unfold rankLo at h2 ⊢; omega, by have h1 := H2.out; have h2 := HPQ.out.2; unfold rankHi at h2 ⊢; omega⟩, (by repeat (first | with_reducible assumption | with_reducible exact Below.refl _ _ | with_reducible refine Below.drew ?_ | with_reducible refine Below.drewN ?_ _ | with_reducible refine Below.setCell ?_ (by first | omega | (simp; done) | (simp; omega)) _ | with_reducible refine Below.alloc ?_ (by first | omega | (simp; done) | (simp; omega) | (simp [World.setCell]; omega)) _))⟩
          case measure => simp [intOf]; omega
      · rw [if_neg (by simpa using ha)] at H1
        by_cases hc : y2 ≤ x
        · rw [if_pos (decide_eq_true hc)] at H2
          have wc : IntKind.u64.wrap (q + y1) = q + y1 := by have h1 := H2.out; have h2 := HB2.out; have h3 := HPQ.out.2; have h4 := HP.out; unfold rankHi at h3; simp only [IntKind.wrap_u64]; omega
          go_wp2
          go_roundw
          case rel => exact ⟨k + 1, p, q + y1, by omega, by simp, rfl, rfl, by omega, by have := HP.out; omega, ⟨by have h1 := H1.out; have h2 := HPQ.out.1; unfold rankLo at h2 ⊢; omega, by have h1 := H2.out; have h2 := HPQ.out.2; unfold rankHi at h2 ⊢; omega⟩, (by repeat (first | with_reducible assumption | with_reducible exact Below.refl _ _ | with_reducible refine Below.drew ?_ | with_reducible refine Below.drewN ?_ _ | with_reducible refine Below.setCell ?_ (by first | omega | (simp; done) | (simp; omega)) _ | with_reducible refine Below.alloc ?_ (by first | omega | (simp; done) | (simp; omega) | (simp [World.setCell]; omega)) _))⟩
          case measure => simp [intOf]; omega
        · rw [if_neg (by simpa using hc)] at H2
          go_wp2
          go_roundw
          case rel => exact ⟨k + 1, p, q, by omega, by simp, rfl, rfl, by omega, by omega, ⟨by have h1 := H1.out; have h2 := HPQ.out.1; unfold rankLo at h2 ⊢; omega, by have h1 := H2.out; have h2 := HPQ.out.2; unfold rankHi at h2 ⊢; omega⟩, (by repeat (first | with_reducible assumption | with_reducible exact Below.refl _ _ | with_reducible refine Below.drew ?_ | with_reducible refine Below.drewN ?_ _ | with_reducible refine Below.setCell ?_ (by first | omega | (simp; done) | (simp; omega)) _ | with_reducible refine Below.alloc ?_ (by first | omega | (simp; done) | (simp; omega) | (simp [World.setCell]; omega)) _))⟩
          case measure => simp [intOf]; omega
    · obtain rfl : k = len := by omega
      have h1 := HPQ.out
      rw [List.take_of_length_le (by have := HLN.out; omega)] at h1
      have H1 := Lib.hid h1
      clear HR HPQ h1
      go_wp2
      go_ret2
      exact ⟨by rw [← H1.out.1, ← H1.out.2]; rfl, hB⟩

set_option maxHeartbeats 1000000 in
theorem dkquant_any (m : Nat) (S : List Nat) (most : Int) (ls : List Lu) (a d : Int) (w : World) (h : DocK w m S most ls) (hg : GdL ls) (hs : sumN ls ≤ 9223372036854775807) (hl : ls.length ≤ 1048576) (h1 : 0 ≤ a) (h2 : a < 18446744073709551616) (h3 : 0 ≤ d) (h4 : d < 18446744073709551616) :
    Calls Try.prog 27 #[.pointer (some ⟨m, 0, none⟩), .agg #[.int .u64 a, .int .u64 d]] w fun e w' => e = .returned (.tuple #[.int .i64 (quantV ls a d), .int .i64 (placeE a d (sumN ls))]) ∧ Below w.heap.size w w' := by
  have HG := Lib.hid hg
  have hs0 := sumN_nonneg hg.pos
  have HS := Lib.hid (And.intro hs0 hs)
  have HC := Lib.hid fun w' => rplace_any a d (sumN ls) w' h1 h2 h3 h4 hs0 (by omega)
  have HT0 := Lib.hid fun w' (hb : Below w.heap.size w w') => dktotal_any m S most ls w' (h.below hb) hg hs hl
  have HQ : Hid (quantV ls a d = if placeE a d (sumN ls) = 0 then qX (placeT a d (sumN ls)) ls else 0) := rfl
  have HE0 : Hid (0 ≤ placeE a d (sumN ls)) := by show 0 ≤ _; unfold placeE; split <;> try omega
  obtain ⟨A, c, _, hB⟩ := h
  have s1 := hB.at'
  have HR := Lib.hid hB.own.rd
  obtain ⟨len, hlen⟩ : ∃ n, ls.length = n := ⟨_, rfl⟩
  have HLN := Lib.hid hlen
  obtain ⟨tot, htot⟩ : ∃ t, sumN ls = t := ⟨_, rfl⟩
  have HTOT := Lib.hid htot
  rw [htot] at HC HQ HS HT0 HE0 ⊢
  obtain ⟨er, her⟩ : ∃ t, placeE a d tot = t := ⟨_, rfl⟩
  obtain ⟨t, ht⟩ : ∃ t, placeT a d tot = t := ⟨_, rfl⟩
  obtain ⟨qv, hqv⟩ : ∃ t, quantV ls a d = t := ⟨_, rfl⟩
  rw [her] at HC HQ HE0 ⊢
  rw [ht] at HC HQ
  rw [hqv] at HQ ⊢
  rw [hlen] at s1 hl
  have f1 := s1.two
  have l1 := s1.lt
  clear hB hlen htot her ht hqv h1 h2 h3 h4 hs hs0
  go_enter Try.func27, Try.ntmps27
  go_wp2
  have hb0 : Below w.heap.size w (w.alloc (.cells #[.int .u64 a, .int .u64 d] 58)) := (Below.refl _ _).alloc (Nat.le_refl _) _
  have s2 := s1.below hb0
  have r2 := At.new' w #[.int .u64 a, .int .u64 d] 58 rfl
  obtain ⟨W1, hW1⟩ : ∃ W1, w.alloc (.cells #[.int .u64 a, .int .u64 d] 58) = W1 := ⟨_, rfl⟩
  rw [hW1] at hb0 s2 r2 ⊢
  obtain ⟨rb, hrb⟩ : ∃ r, w.heap.size = r := ⟨_, rfl⟩
  rw [hrb] at r2 l1
  try rw [hrb]
  have l2 := s2.lt
  have HB0 := Lib.hid hb0
  have HRB := Lib.hid hrb
  clear hW1 s1 f1 hb0 hrb
  have hfar1 := fun x : Far W1 => (x.at s2).two
  have hfar2 := fun x : Far W1 => (x.at r2).two
  refine wp_region_far (by kernel_rfl) (by kernel_rfl) ?_
  repeat (first | go_big_quiet_skip | (go_big_quiet_want; go_big_quiet_op; first | go_big_quiet_on | (apply Exists.intro; refine ⟨fun _ => ?_, ?_⟩; (focus (first | (refine far_of (HT0.out _ (keep1 HB0.out (Far.below _)))) | (refine far_of (HC.out _)))); go_big_quiet_on)))
  refine wpQuiet_nil ?_
  rintro _ ⟨xq, rfl⟩
  clear hfar1 hfar2
  have hb2 := xq.below
  obtain ⟨W2, hW2⟩ : ∃ W2, xq.far = W2 := ⟨_, rfl⟩
  rw [hW2] at hb2 ⊢
  have HB2 : Hid (Below w.heap.size w W2) := by have h := keep1 HB0.out (hb2.mono (Nat.le_refl _)); exact h
  replace s2 := s2.below hb2
  have f2 := s2.two
  have l3 := s2.lt
  replace HR : Hid (RdL W2 A ls) := (HR.out.below (HB0.out)).below hb2
  clear hW2 HC HT0 l1 l2 hb2 r2
  by_cases hE : er = 0
  · subst hE
    have HQ2 : Hid (qv = (qfold t (-9223372036854775808, 0) ls).1) := by
      show _ = _
      rw [HQ.out, if_pos rfl]
      rfl
    clear HQ HE0
    go_wp2
    go_loopw [8, 9, 11, 27] (fun s x _ i wr => ∃ k : Nat, ∃ p q : Int, k ≤ len ∧ i = .int .i64 k ∧ x = .int .i64 p ∧ s = .int .u64 q ∧ 0 ≤ q ∧ q ≤ tot ∧ Hid (qfold t (-9223372036854775808, 0) (ls.take k) = (p, q)) ∧ Below W2.heap.size W2 wr) (fun _ _ _ i _ => len - (intOf i).toNat)
    case atStart => exact ⟨0, _, 0, by omega, rfl, rfl, rfl, by omega, by have := HS.out; omega, rfl, Below.refl _ _⟩
    case round =>
      obtain ⟨k, p, q, hk, rfl, rfl, rfl, hq0, hqt, HPQ, hB⟩ := hrel
      have zB := hB.size
      by_cases hlt : k < len
      · obtain ⟨g', o', e, hg', d1, d2, d3⟩ := (HR.out.below hB).at k (by have := HLN.out; omega)
        subst e
        have HT := Lib.hid (qfold_take t (-9223372036854775808, 0) ls k (by have := HLN.out; omega))
        have HS2 := Lib.hid (sumN_take ls k (by have := HLN.out; omega))
        have HS3 := Lib.hid (sumN_take_le HG.out (k + 1))
        have HS4 := Lib.hid (qfold_sum t (ls.take k) (-9223372036854775808, 0) (gdL_take HG.out k).pos)
        have HP := Lib.hid (HG.out.pos _ (List.getElem_mem (show k < ls.length by have := HLN.out; omega)))
        obtain ⟨⟨z1, z2, z3⟩, hz⟩ : ∃ z, ls[k]'(by have := HLN.out; omega) = z := ⟨_, rfl⟩
        rw [hz] at d1 d2 d3 HT HS2 HP
        rw [HPQ.out] at HT HS4
        dsimp only at d1 d2 d3 HT HS2 HP HS4
        by_cases hqt2 : q < t
        · rw [if_pos hqt2] at HT
          have hbound : q + z1 ≤ tot := by have := HS2.out; have := HS3.out; have := HS4.out; have := HTOT.out; omega
          have hw : IntKind.u64.wrap (q + z1) = q + z1 := by have := HP.out; have := HS.out; simp only [IntKind.wrap_u64]; omega
          have HZ : Hid (0 < z1) := HP
          clear hz HR HS4 HS2 HS3 HP f2
          go_wp2
          go_roundw
          case rel => exact ⟨k + 1, max p z3, q + z1, by omega, by simp, by first | rfl | simp, rfl, by have := HZ.out; omega, hbound, HT, hB.alloc (by omega) _⟩
          case measure => simp [intOf]; omega
        · rw [if_neg hqt2] at HT
          clear hz HR HS4 HS2 HS3 HP f2
          go_wp2
          go_roundw
          case rel => exact ⟨k + 1, p, q, by omega, by simp, rfl, rfl, hq0, hqt, HT, hB.alloc (by omega) _⟩
          case measure => simp [intOf]; omega
      · obtain rfl : k = len := by omega
        have HX : Hid (qfold t (-9223372036854775808, 0) ls = (p, q)) := by
          have := HPQ.out
          rwa [List.take_of_length_le (by have := HLN.out; omega)] at this
        have HV : Hid (qv = p) := by show _ = _; rw [HQ2.out, HX.out]
        clear HR f2 HQ2 HX HPQ
        go_wp2
        go_ret2
        exact ⟨by rw [HV.out]; first | rfl | simp, keep1 HB2.out hB⟩
  · have HV : Hid (qv = 0) := by show _ = _; rw [HQ.out, if_neg hE]
    have hne : 0 < er := by have := HE0.out; omega
    clear HR HE0 HQ
    go_wp2
    go_ret2
    exact ⟨by rw [HV.out]; first | rfl | simp, HB2.out⟩
end Go.Proofs.Ytbmnebpjjghkpaa

