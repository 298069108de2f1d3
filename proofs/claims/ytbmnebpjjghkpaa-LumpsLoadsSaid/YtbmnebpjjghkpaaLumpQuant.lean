/- Contracts of package lumps: Quantile. -/
import Derived.Test.YtbmnebpjjghkpaaProg
import Derived.Test.YtbmnebpjjghkpaaLumpJoin
import Derived.Test.YtbmnebpjjghkpaaPlaces
namespace Go.Proofs.Ytbmnebpjjghkpaa
open Go.RowKit

/-- The first lumps that hold so many. -/
def qfold (t : Int) (p : Int × Int) (ls : List Lu) : Int × Int := ls.foldl (fun p l => if p.2 < t then (max p.1 l.2.2, p.2 + l.1) else p) p
def qX (t : Int) (ls : List Lu) : Int := (qfold t (-9223372036854775808, 0) ls).1
theorem qfold_take (t : Int) (p : Int × Int) (ls : List Lu) (k : Nat) (hk : k < ls.length) : qfold t p (ls.take (k + 1)) = if (qfold t p (ls.take k)).2 < t then (max (qfold t p (ls.take k)).1 (ls[k]'hk).2.2, (qfold t p (ls.take k)).2 + (ls[k]'hk).1) else qfold t p (ls.take k) := by
  unfold qfold; rw [List.take_succ_eq_append_getElem hk, List.foldl_append]; rfl
theorem qfold_stop (t : Int) (p : Int × Int) (h : t ≤ p.2) : ∀ ls : List Lu, qfold t p ls = p
  | [] => rfl
  | l :: ls => by
    show qfold t (if p.2 < t then _ else p) ls = p
    rw [if_neg (by omega)]; exact qfold_stop t p h ls
theorem qfold_append (t : Int) (p : Int × Int) (ls ks : List Lu) : qfold t p (ls ++ ks) = qfold t (qfold t p ls) ks := by unfold qfold; rw [List.foldl_append]
theorem qfold_stopped (t : Int) (p : Int × Int) (ls : List Lu) (k : Nat) (h : t ≤ (qfold t p (ls.take k)).2) : qfold t p ls = qfold t p (ls.take k) := by
  conv => lhs; rw [← List.take_append_drop k ls]
  rw [qfold_append, qfold_stop t _ h]
/-- The first one's greatest value to begin with, or the least that there is. -/
theorem qfold_head (t : Int) (ht : 0 < t) {ls : List Lu} (h0 : ls ≠ []) (hr : rngL ls) : (qfold t ((lget ls 0).2.2, 0) ls).1 = qX t ls := by
  cases ls with
  | nil => exact absurd rfl h0
  | cons l ls =>
    have h1 := (hr l (by simp)).2
    show (qfold t (if (0 : Int) < t then (max l.2.2 l.2.2, 0 + l.1) else _) ls).1 = (qfold t (if (0 : Int) < t then (max (-9223372036854775808) l.2.2, 0 + l.1) else _) ls).1
    rw [if_pos ht, if_pos ht, show max l.2.2 l.2.2 = max (-9223372036854775808) l.2.2 by omega]
theorem qfold_sum (t : Int) : ∀ (ls : List Lu) (p : Int × Int), (∀ x ∈ ls, 0 < x.1) → p.2 ≤ (qfold t p ls).2 ∧ (qfold t p ls).2 ≤ p.2 + sumN ls
  | [], p, _ => by rw [sumN_nil]; exact ⟨Int.le_refl _, by show p.2 ≤ _; omega⟩
  | l :: ls, p, h => by
    have h1 := h l (by simp)
    have h2 := sumN_nonneg (ls := ls) fun x hx => h x (by simp [hx])
    rw [sumN_cons]
    show p.2 ≤ (qfold t (if p.2 < t then (max p.1 l.2.2, p.2 + l.1) else p) ls).2 ∧ (qfold t (if p.2 < t then (max p.1 l.2.2, p.2 + l.1) else p) ls).2 ≤ _
    split
    · have := qfold_sum t ls (max p.1 l.2.2, p.2 + l.1) fun x hx => h x (by simp [hx])
      dsimp only at this
      omega
    · have := qfold_sum t ls p fun x hx => h x (by simp [hx])
      omega
/-- What Quantile answers. -/
def quantV (ls : List Lu) (a d : Int) : Int := if placeE a d (sumN ls) = 0 then qX (placeT a d (sumN ls)) ls else 0

theorem knil_quant (a d : Int) (w : World) : Calls Try.prog 26 #[.pointer none, .agg #[.int .u64 a, .int .u64 d]] w fun e w' => e = .returned (.tuple #[.int .i64 0, .int .i64 2]) ∧ Below w.heap.size w w' := by
  go_enter Try.func26, Try.ntmps26
  go_wp2
  go_ret2
  exact ⟨rfl, (by repeat (first | with_reducible assumption | with_reducible exact Below.refl _ _ | with_reducible refine Below.drew ?_ | with_reducible refine Below.drewN ?_ _ | with_reducible refine Below.setCell ?_ (by first | omega | (simp; done) | (simp; omega)) _ | with_reducible refine Below.alloc ?_ (by first | omega | (simp; done) | (simp; omega) | (simp [World.setCell]; omega)) _))⟩
theorem placeE_zero {a d n : Int} (hn : 0 ≤ n) (h : placeE a d n = 0) : 0 < n ∧ goodF a d = true := by
  unfold placeE at h
  split at h
  · rename_i hg
    split at h
    · omega
    · exact ⟨by omega, hg⟩
  · omega
set_option maxRecDepth 100000 in
set_option maxHeartbeats 1000000 in
theorem kquant_any (b : Nat) (S : List Nat) (most : Int) (ls : List Lu) (a d : Int) (w : World) (h : Sk w b S most ls) (hl : ls.length ≤ 1048576) (h1 : 0 ≤ a) (h2 : a < 18446744073709551616) (h3 : 0 ≤ d) (h4 : d < 18446744073709551616) :
    Calls Try.prog 26 #[.pointer (some ⟨b, 0, none⟩), .agg #[.int .u64 a, .int .u64 d]] w fun e w' => e = .returned (.tuple #[.int .i64 (quantV ls a d), .int .i64 (placeE a d (sumN ls))]) ∧ Below w.heap.size w w' := by
  have HG := Lib.hid h.gd
  have HOK := Lib.hid h.ok.rng
  have HS := Lib.hid (And.intro h.sum0 h.sm)
  have HC := Lib.hid fun w' => place_any a d (sumN ls) w' h1 h2 h3 h4 h.sum0 (by have := h.sm; omega)
  have HE := Lib.hid (placeE_zero (a := a) (d := d) h.sum0)
  have HQ : Hid (quantV ls a d = if placeE a d (sumN ls) = 0 then qX (placeT a d (sumN ls)) ls else 0) := rfl
  have HT1 : Hid (placeE a d (sumN ls) = 0 → 1 ≤ placeT a d (sumN ls)) := fun e => by
    obtain ⟨p, q⟩ := placeE_zero h.sum0 e
    exact (placeT_is h1 p (by have := h.sm; omega) q).one
  obtain ⟨A, c, _, hB⟩ := h.r
  have s1 := hB.at'
  have HR := Lib.hid hB.own.rd
  obtain ⟨len, hlen⟩ : ∃ n, ls.length = n := ⟨_, rfl⟩
  have HLN := Lib.hid hlen
  obtain ⟨tot, htot⟩ : ∃ t, sumN ls = t := ⟨_, rfl⟩
  have HTOT := Lib.hid htot
  rw [htot] at s1 HC HE HQ HS HT1 ⊢
  obtain ⟨er, her⟩ : ∃ t, placeE a d tot = t := ⟨_, rfl⟩
  obtain ⟨t, ht⟩ : ∃ t, placeT a d tot = t := ⟨_, rfl⟩
  obtain ⟨qv, hqv⟩ : ∃ t, quantV ls a d = t := ⟨_, rfl⟩
  rw [her] at HE HC HQ HT1 ⊢
  rw [ht] at HC HQ HT1
  rw [hqv] at HQ ⊢
  rw [hlen] at s1 hl
  have f1 := s1.three
  have l1 := s1.lt
  clear h hB hlen htot her ht hqv h1 h2 h3 h4
  go_enter Try.func26, Try.ntmps26
  go_wp2
  have hb0 : Below w.heap.size w (w.alloc (.cells #[.int .u64 a, .int .u64 d] 58)) := (Below.refl _ _).alloc (Nat.le_refl _) _
  have s2 := s1.below hb0
  have r2 := At.new' w #[.int .u64 a, .int .u64 d] 58 rfl
  obtain ⟨W1, hW1⟩ : ∃ W1, w.alloc (.cells #[.int .u64 a, .int .u64 d] 58) = W1 := ⟨_, rfl⟩
  rw [hW1] at hb0 s2 r2 ⊢
  obtain ⟨rb, hrb⟩ : ∃ r, w.heap.size = r := ⟨_, rfl⟩
  rw [hrb] at r2 l1
  try rw [hrb]
  have l2 := s2.lt
  have HB0 := Lib.hid hb0
  have HRB := Lib.hid hrb
  clear hW1 s1 f1 hb0 hrb
  have hfar1 := fun x : Far W1 => (x.at s2).three
  have hfar2 := fun x : Far W1 => (x.at r2).two
  refine wp_region_far (by kernel_rfl) (by kernel_rfl) ?_
  repeat (first | go_big_quiet_skip | (go_big_quiet_want; go_big_quiet_op; first | go_big_quiet_on | (apply Exists.intro; refine ⟨fun _ => ?_, ?_⟩; (focus (first | (refine far_of (HC.out _)))); go_big_quiet_on)))
  refine wpQuiet_nil ?_
  rintro _ ⟨xq, rfl⟩
  clear hfar1 hfar2
  have hb2 := xq.below
  obtain ⟨W2, hW2⟩ : ∃ W2, xq.far = W2 := ⟨_, rfl⟩
  rw [hW2] at hb2 ⊢
  have HB2 : Hid (Below w.heap.size w W2) := by have h := keep1 HB0.out (hb2.mono (Nat.le_refl _)); exact h
  replace s2 := s2.below hb2
  have f2 := s2.three
  have l3 := s2.lt
  have HRB2 : Hid (rb < W2.heap.size) := Nat.lt_of_lt_of_le (by have := r2.lt; omega) hb2.size
  replace HR : Hid (RdL W2 A ls) := (HR.out.below (HB0.out)).below hb2
  clear hW2 HC l1 l2 hb2 r2
  by_cases hE : er = 0
  · subst hE
    have ht1 := HT1.out rfl
    obtain ⟨hp, _⟩ := HE.out rfl
    have hlp : 0 < len := by
      have h1 := HTOT.out
      have h2 := HLN.out
      rcases Nat.eq_zero_or_pos len with h | h
      · rw [h] at h2
        rw [List.eq_nil_of_length_eq_zero h2, sumN_nil] at h1
        omega
      · exact h
    have k1 : (0 : Int) < len := by omega
    obtain ⟨g, o, rfl, hg, c1, c2, c3⟩ := HR.out.at' 0 (by have := HLN.out; omega)
    rw [Nat.zero_mul, Nat.add_zero] at c1 c2 c3
    obtain ⟨y3, hy3⟩ : ∃ y, (lget ls 0).2.2 = y := ⟨_, rfl⟩
    rw [hy3] at c3
    have HQ2 : Hid (qv = (qfold t (y3, 0) ls).1) := by
      show _ = _
      rw [HQ.out, if_pos rfl, ← hy3]
      exact (qfold_head t (by omega) (fun e => by have := HLN.out; rw [e] at this; simp at this; omega) HOK.out).symm
    clear hy3 c1 c2 HQ HE HT1
    go_wp2
    go_loopw [8, 9, 11, 38] (fun x s _ i wr => ∃ k : Nat, ∃ p q : Int, k ≤ len ∧ i = .int .i64 k ∧ x = .int .i64 p ∧ s = .int .u64 q ∧ 0 ≤ q ∧ q ≤ tot ∧ Hid (qfold t (y3, 0) (ls.take k) = (p, q)) ∧ Below W2.heap.size W2 wr) (fun _ _ _ i _ => len - (intOf i).toNat)
    case atStart => exact ⟨0, y3, 0, by omega, rfl, rfl, rfl, by omega, by omega, rfl, Below.refl _ _⟩
    case round =>
      obtain ⟨k, p, q, hk, rfl, rfl, rfl, hq0, hqt, HPQ, hB⟩ := hrel
      have zB := hB.size
      clear c3
      by_cases hlt : k < len
      · obtain ⟨g', o', e, hg', d1, d2, d3⟩ := (HR.out.below hB).at k (by have := HLN.out; omega)
        cases e
        have HT := Lib.hid (qfold_take t (y3, 0) ls k (by have := HLN.out; omega))
        have HS2 := Lib.hid (sumN_take ls k (by have := HLN.out; omega))
        have HS3 := Lib.hid (sumN_take_le HG.out (k + 1))
        have HS4 := Lib.hid (qfold_sum t (ls.take k) (y3, 0) (gdL_take HG.out k).pos)
        have HP := Lib.hid (HG.out.pos _ (List.getElem_mem (show k < ls.length by have := HLN.out; omega)))
        obtain ⟨⟨z1, z2, z3⟩, hz⟩ : ∃ z, ls[k]'(by have := HLN.out; omega) = z := ⟨_, rfl⟩
        rw [hz] at d1 d2 d3 HT HS2 HP
        rw [HPQ.out] at HT HS4
        dsimp only at d1 d2 d3 HT HS2 HP HS4
        by_cases hqt2 : q < t
        · rw [if_pos hqt2] at HT
          have hbound : q + z1 ≤ tot := by have := HS2.out; have := HS3.out; have := HS4.out; have := HTOT.out; omega
          have hw : IntKind.u64.wrap (q + z1) = q + z1 := by have := HP.out; have := HS.out; simp only [IntKind.wrap_u64]; omega
          have HZ : Hid (0 < z1) := HP
          clear hz HR HS4 HS2 HS3 HP f2
          go_wp2
          go_quiet (fail)
          go_wp2
          go_roundw
          case rel => exact ⟨k + 1, max p z3, q + z1, by omega, by simp, by first | rfl | simp, rfl, by have := HZ.out; omega, hbound, HT, (hB.alloc (by omega) _).drewN _⟩
          case measure => simp [intOf]; omega
        · have HX : Hid (qfold t (y3, 0) ls = (p, q)) := by
            show _ = _
            rw [qfold_stopped t (y3, 0) ls k (by rw [HPQ.out]; dsimp only; omega), HPQ.out]
          have HV : Hid (qv = p) := by show _ = _; rw [HQ2.out, HX.out]
          clear hz HR HS4 HS2 HS3 HP f2 HT HQ2 HX HPQ
          go_wp2
          go_ret2
          exact ⟨by rw [HV.out]; first | rfl | simp, keep1 HB2.out (hB.alloc (by omega) _)⟩
      · obtain rfl : k = len := by omega
        have HX : Hid (qfold t (y3, 0) ls = (p, q)) := by
          have := HPQ.out
          rwa [List.take_of_length_le (by have := HLN.out; omega)] at this
        have HV : Hid (qv = p) := by show _ = _; rw [HQ2.out, HX.out]
        clear HR f2 HQ2 HX HPQ
        go_wp2
        go_ret2
        exact ⟨by rw [HV.out]; first | rfl | simp, keep1 HB2.out hB⟩
  · have HV : Hid (qv = 0) := by show _ = _; rw [HQ.out, if_neg hE]
    have hne : (er == 0) = false := beq_eq_false_iff_ne.2 hE
    clear HR HE HQ HT1
    go_wp2
    go_ret2
    exact ⟨by rw [HV.out]; first | rfl | simp, HB2.out⟩
end Go.Proofs.Ytbmnebpjjghkpaa

