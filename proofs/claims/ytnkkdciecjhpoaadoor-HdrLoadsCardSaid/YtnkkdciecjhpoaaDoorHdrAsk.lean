/- Contracts of package hdr: find, Quantile. -/
import Derived.Test.YtnkkdciecjhpoaaDoorProg
import Derived.Test.YtnkkdciecjhpoaaDoorHdrPutAll
import Derived.Test.YtnkkdciecjhpoaaDoorRef15
import Derived.Test.YtnkkdciecjhpoaaDoorPlaces
import Derived.Test.YtnkkdciecjhpoaaDoorBins13
namespace Go.Proofs.YtnkkdciecjhpoaaDoor
open Go.RowKit

theorem partD_mono (d : Int) : PartMono (partD d) := fun a b ha hab hb => by
  have := idx_mono (g := gOf d) ha hab
  unfold partD
  omega
theorem repI_idx {g m : Nat} (h : 0 < m) : repI g (idxN g m) = repM g m := by unfold repI repM; rw [loI_idx h, hiI_idx h]
theorem repM_le {g m : Nat} (h : 0 < m) (h2 : m ≤ 9223372036854775808) : loN g m ≤ repM g m ∧ repM g m ≤ hiN g m := by
  have := lo_le_hi (g := g) h h2
  unfold repM; omega
theorem wrap_in {z : Int} (h : 0 ≤ z ∧ z < 18446744073709551616) : IntKind.u64.wrap z = z := by simp only [IntKind.wrap_u64]; omega
set_option maxRecDepth 100000 in
set_option maxHeartbeats 2000000 in
theorem hfind_v (b sp b0 b1 : Nat) (S0 S1 : List Nat) (d lim : Int) (lo hi : Int) (l : List (Int × Int)) (t x : Int) (w : World) (h : HdB w b sp b0 b1 S0 S1 d lim (rowV (partD d) true l) (rowV (partD d) false l) (zeroV l) lo hi) (hv : VOk l) (hx : IsExact l t x) (h1 : 1 ≤ t) (h2 : t ≤ sumP l) :
    Calls Tryd.prog 36 #[.pointer (some ⟨b, 0, none⟩), .int .u64 t] w fun e w' => e = .returned (.int .i64 (standV (repM (gOf d)) x)) ∧ Below w.heap.size w w' := by
  have hs := hv.sum
  obtain ⟨v, hvm, hvx⟩ := hx.mem
  have hxr := (hv.ok v hvm).1
  rw [hvx] at hxr
  have hneg := negV_row (part := partD d) hv.pos (by omega)
  have hpos := posV_row (part := partD d) hv.pos (by omega)
  have hth := sum_three l
  have n0 : 0 ≤ negV l := sumP_nonneg fun v hh => hv.pos v (List.mem_filter.1 hh).1
  have z0 : 0 ≤ zeroV l := sumP_nonneg fun v hh => hv.pos v (List.mem_filter.1 hh).1
  have q0 : 0 ≤ posV l := sumP_nonneg fun v hh => hv.pos v (List.mem_filter.1 hh).1
  have s1 := h.at'
  have HT := Lib.hid (stotal_any b0 S0 4096 _ w h.s0)
  rw [hneg] at HT
  have HF0 := Lib.hid fun (u : Int) (hu : 0 ≤ u ∧ u < 18446744073709551616) W (hb : Below w.heap.size w W) => sfind_any b0 S0 4096 (rowV (partD d) true l) u W (h.s0.below hb) hu
  have HF1 := Lib.hid fun (u : Int) (hu : 0 ≤ u ∧ u < 18446744073709551616) W (hb : Below w.heap.size w W) => (sfind_any b1 S1 4096 (rowV (partD d) false l) u W (h.s1.below hb) hu).mono fun e w' (hR : e = .returned (optI (findP u 0 (rowV (partD d) false l))) ∧ W = w') => (⟨hR.1, by rw [← hR.2]; exact Below.refl _ _⟩ : e = .returned (optI (findP u 0 (rowV (partD d) false l))) ∧ Below W.heap.size W w')
  have HRP := Lib.hid fun (i : Nat) W (hb : Below w.heap.size w W) => sprep_any sp i d W (h.span.below hb)
  rcases Int.lt_trichotomy x 0 with hlt | rfl | hgt
  · obtain ⟨k1, k2⟩ := exact_neg (partD_mono d) hv.ok hv.pos (by omega) hx hlt h1
    have a0 : 0 < x.natAbs := by omega
    have a1 : x.natAbs ≤ 9223372036854775808 := by omega
    have hr := repM_le (g := gOf d) a0 a1
    have hh := hi_le (gOf d) x.natAbs
    have HST : Hid (standV (repM (gOf d)) x = -(repM (gOf d) x.natAbs : Int)) := by show _ = _; unfold standV; rw [if_neg (by omega), if_neg (by omega)]
    have HR1 := Lib.hid fun W (hb : Below w.heap.size w W) => HRP.out (idxN (gOf d) x.natAbs) W hb (idx_pos a0) (idx_le_top (by have := gOf_le d; omega) a0 a1)
    rw [repI_idx a0] at HR1
    obtain ⟨rp, hrp⟩ : ∃ r, repM (gOf d) x.natAbs = r := ⟨_, rfl⟩
    rw [hrp] at hr HST HR1
    have HV : Hid (valM rp true = -(rp : Int)) := by show _ = _; unfold valM; rw [if_pos rfl, if_pos (by omega)]
    have HSV := Lib.hid fun W => sgval_any rp true W (by omega) (by omega)
    have HFF := Lib.hid fun W (hb : Below w.heap.size w W) => HF0.out (negV l - t + 1) (by omega) W hb
    rw [k2] at HFF
    obtain ⟨q, hq⟩ : ∃ q, partD d x.natAbs = q := ⟨_, rfl⟩
    have HQ : Hid (q = (idxN (gOf d) x.natAbs : Nat)) := hq.symm
    rw [hq] at HFF
    rw [HST.out]
    obtain ⟨n, hn⟩ : ∃ n, negV l = n := ⟨_, rfl⟩
    rw [hn] at HT HFF k1 n0
    have w1 : IntKind.u64.wrap (IntKind.u64.wrap (n - t) + 1) = n - t + 1 := by rw [wrap_in (z := n - t) (by omega)]; exact wrap_in (by omega)
    have HW := Lib.hid w1
    have HK : Hid (t ≤ n) := k1
    have kd : decide (t ≤ n) = true := decide_eq_true k1
    have f1 := s1.eight
    have l1 := s1.lt
    clear h hv hx h1 h2 hs hvm hvx hxr hneg hpos hth n0 z0 q0 HF0 HF1 HRP hlt k2 a0 a1 hr hh HST hrp hq hn w1 k1 kd
    go_enter Tryd.func36, Tryd.ntmps36
    go_wp2_with fail
    refine HT.out.mono ?_
    rintro e w1 ⟨rfl, rfl⟩
    have k1 := HK.out
    clear HT
    go_wp2_with fail
    rw [HW.out]
    refine (HFF.out w (Below.refl _ _)).mono ?_
    rintro e w2 ⟨rfl, rfl⟩
    unfold optI
    clear HFF HW
    dsimp only [Option.getD_some, Option.isSome_some]
    go_wp2_with fail
    rw [HQ.out]
    refine (HR1.out w (Below.refl _ _)).mono ?_
    rintro e w3 ⟨rfl, hb3⟩
    clear HR1
    go_wp2_with fail
    refine (HSV.out w3).mono ?_
    rintro e w4 ⟨rfl, rfl⟩
    rw [HV.out]
    go_wp2
    go_ret
    exact ⟨rfl, hb3⟩
  · obtain ⟨k1, k2⟩ := exact_zero hv.pos hx
    obtain ⟨n, hn⟩ : ∃ n, negV l = n := ⟨_, rfl⟩
    obtain ⟨z, hz⟩ : ∃ n, zeroV l = n := ⟨_, rfl⟩
    rw [hn] at HT k1 k2 n0
    rw [hz] at s1 k2
    have HK : Hid (n < t ∧ t - n ≤ z) := ⟨k1, k2⟩
    have w1 : IntKind.u64.wrap (t - n) = t - n := wrap_in (by omega)
    have HW := Lib.hid w1
    have f1 := s1.eight
    have l1 := s1.lt
    have HB := Lib.hid (Below.refl w.heap.size w)
    have HST : Hid (standV (repM (gOf d)) 0 = 0) := rfl
    rw [HST.out]
    clear h hv hx h1 h2 hs hvm hvx hxr hneg hpos hth n0 z0 q0 HF0 HF1 HRP k2 hn hz w1 k1 HST
    go_enter Tryd.func36, Tryd.ntmps36
    go_wp2_with fail
    refine HT.out.mono ?_
    rintro e w1 ⟨rfl, rfl⟩
    have k1 := HK.out.1
    have k2 := HK.out.2
    have k3 : ¬ t ≤ n := by omega
    clear HT k1 HK
    have HW' := HW.out
    go_wp2
    go_ret
    exact ⟨rfl, (by first | exact Below.refl _ _ | exact (Below.refl _ _).drewN _)⟩
  · obtain ⟨k1, k2, k3⟩ := exact_pos (partD_mono d) hv.ok hv.pos (by omega) hx hgt
    have a0 : 0 < x.natAbs := by omega
    have a1 : x.natAbs ≤ 9223372036854775808 := by omega
    have hr := repM_le (g := gOf d) a0 a1
    have hh := hi_le (gOf d) x.natAbs
    have HST : Hid (standV (repM (gOf d)) x = min (repM (gOf d) x.natAbs : Int) 9223372036854775807) := by show _ = _; unfold standV; rw [if_neg (by omega), if_pos hgt]
    have HR1 := Lib.hid fun W (hb : Below w.heap.size w W) => HRP.out (idxN (gOf d) x.natAbs) W hb (idx_pos a0) (idx_le_top (by have := gOf_le d; omega) a0 a1)
    rw [repI_idx a0] at HR1
    obtain ⟨rp, hrp⟩ : ∃ r, repM (gOf d) x.natAbs = r := ⟨_, rfl⟩
    rw [hrp] at hr HST HR1
    have HRI : Hid ((rp : Int) < 9223372036854775808 ∨ (rp : Int) = 9223372036854775808) := by show _ ∨ _; omega
    have HSV := Lib.hid fun W => sgval_any rp false W (by omega) (by omega)
    have HFF := Lib.hid fun W (hb : Below w.heap.size w W) => HF1.out (t - negV l - zeroV l) (by omega) W hb
    rw [k3] at HFF
    obtain ⟨q, hq⟩ : ∃ q, partD d x.natAbs = q := ⟨_, rfl⟩
    have HQ : Hid (q = (idxN (gOf d) x.natAbs : Nat)) := hq.symm
    rw [hq] at HFF
    unfold optI at HFF
    dsimp only [Option.getD_some, Option.isSome_some] at HFF
    rw [HST.out]
    obtain ⟨n, hn⟩ : ∃ n, negV l = n := ⟨_, rfl⟩
    obtain ⟨z, hz⟩ : ∃ n, zeroV l = n := ⟨_, rfl⟩
    rw [hn] at HT HFF k1 k2 n0
    rw [hz] at HFF s1 k2 z0
    have w1 : IntKind.u64.wrap (t - n) = t - n := wrap_in (by omega)
    have w2 : IntKind.u64.wrap (t - n - z) = t - n - z := wrap_in (by omega)
    have HW := Lib.hid w1
    have HW2 := Lib.hid w2
    have HK : Hid (n < t ∧ z < t - n) := ⟨k1, k2⟩
    clear h hv hx h1 h2 hs hvm hvx hxr hneg hpos hth n0 z0 q0 HF0 HF1 HRP hgt k2 a0 a1 hr hh HST hrp hq hn hz w1 w2 k1 k3
    go_enter Tryd.func36, Tryd.ntmps36
    have f1 := s1.eight
    have l1 := s1.lt
    go_wp2_with fail
    refine HT.out.mono ?_
    rintro e w1 ⟨rfl, rfl⟩
    have k1 : ¬ t ≤ n := by have := HK.out; omega
    have k2 : ¬ t - n ≤ z := by have := HK.out; omega
    have w1 := HW.out
    have w2 := HW2.out
    clear HT
    go_wp2
    have hfar1 := fun x : Far w => (x.at s1).eight
    refine wp_region_far (by kernel_rfl) (by kernel_rfl) ?_
    repeat (first | go_big_quiet_skip | (go_big_quiet_want; go_big_quiet_op; first | go_big_quiet_on | (apply Exists.intro; refine ⟨fun _ => ?_, ?_⟩; (focus (first | (with_reducible refine far_of (HFF.out _ (Far.below _))))); go_big_quiet_on)))
    refine wpQuiet_nil ?_
    rintro _ ⟨xq, rfl⟩
    clear hfar1
    have hb3 := xq.below
    obtain ⟨W3, hW3⟩ : ∃ W, xq.far = W := ⟨_, rfl⟩
    rw [hW3] at hb3 ⊢
    replace s1 := s1.below hb3
    replace f1 := s1.eight
    replace l1 := s1.lt
    have HB3 := Lib.hid hb3
    clear hW3 hb3 HFF k1 k2 w1 w2 HW HW2 HK
    go_wp2_with fail
    rw [HQ.out]
    refine (HR1.out W3 HB3.out).mono ?_
    rintro e w4 ⟨rfl, hb4⟩
    have HB4 := Lib.hid (keep1 HB3.out hb4)
    clear HR1 hb4 HB3
    go_wp2_with fail
    refine (HSV.out w4).mono ?_
    rintro e w5 ⟨rfl, rfl⟩
    rcases HRI.out with hlt | heq
    · have HV : valM rp false = rp ∧ valOk rp false = true := by unfold valM valOk; rw [if_neg (by decide), if_pos hlt, if_neg (by decide), decide_eq_true hlt]; exact ⟨rfl, rfl⟩
      rw [HV.1, HV.2]
      have HM : Hid (min (rp : Int) 9223372036854775807 = rp) := by show _ = _; omega
      clear HV hlt HRI
      go_wp2
      go_ret
      exact ⟨by rw [HM.out]; rfl, HB4.out⟩
    · have HV : valM rp false = 0 ∧ valOk rp false = false := by unfold valM valOk; rw [if_neg (by decide), if_neg (by omega), if_neg (by decide), decide_eq_false (by omega)]; exact ⟨rfl, rfl⟩
      rw [HV.1, HV.2]
      have HM : Hid (min (rp : Int) 9223372036854775807 = 9223372036854775807) := by show _ = _; omega
      clear HV heq HRI
      go_wp2
      go_ret
      exact ⟨by rw [HM.out]; rfl, HB4.out⟩
set_option maxRecDepth 100000 in
theorem hquant_nil (a d : Int) (w : World) : Calls Tryd.prog 15 #[.pointer none, .agg #[.int .u64 a, .int .u64 d]] w fun e w' => e = .returned (.tuple #[.int .i64 0, .int .i64 2]) ∧ Below w.heap.size w w' := by
  go_enter Tryd.func15, Tryd.ntmps15
  go_wp2
  go_ret2
  exact ⟨rfl, (by repeat (first | with_reducible assumption | with_reducible exact Below.refl _ _ | with_reducible refine Below.drew ?_ | with_reducible refine Below.drewN ?_ _ | with_reducible refine Below.setCell ?_ (by first | omega | (simp; done) | (simp; omega)) _ | with_reducible refine Below.alloc ?_ (by first | omega | (simp; done) | (simp; omega) | (simp [World.setCell]; omega)) _))⟩
theorem placeE_zero {a d n : Int} (hn : 0 ≤ n) (h : placeE a d n = 0) : 0 < n ∧ goodF a d = true := by
  unfold placeE at h
  split at h
  · rename_i hg
    split at h
    · omega
    · exact ⟨by omega, hg⟩
  · omega
set_option maxRecDepth 100000 in
set_option maxHeartbeats 2000000 in
theorem hquant_v (b : Nat) (S : List Nat) (dg lim : Int) (l : List (Int × Int)) (a d : Int) (w : World) (h : HdV w b S dg lim l) (hv : VOk l) (h1 : 0 ≤ a) (h2 : a < 18446744073709551616) (h3 : 0 ≤ d) (h4 : d < 18446744073709551616) :
    Calls Tryd.prog 15 #[.pointer (some ⟨b, 0, none⟩), .agg #[.int .u64 a, .int .u64 d]] w fun e w' => e = .returned (.tuple #[.int .i64 (quantD (standV (repM (gOf dg))) l a d), .int .i64 (placeE a d (sumP l))]) ∧ Below w.heap.size w w' := by
  have HTV := Lib.hid fun W (hb : Below w.heap.size w W) => htotal_v b S dg lim l W (h.below hb) hv
  obtain ⟨sp, b0, b1, S0, S1, rfl, h⟩ := h
  have s1 := h.at'
  have hs0 := hv.sum0
  have hs := hv.sum
  have HC := Lib.hid fun w' => place_any a d (sumP l) w' h1 h2 h3 h4 hs0 (by omega)
  have HQ : Hid (quantD (standV (repM (gOf dg))) l a d = if placeE a d (sumP l) = 0 then min (max (standV (repM (gOf dg)) ((exactV l (placeT a d (sumP l))).getD 0)) (eLow l)) (eHigh l) else 0) := rfl
  have HFD : Hid (placeE a d (sumP l) = 0 → ∀ W, Below w.heap.size w W → Calls Tryd.prog 36 #[.pointer (some ⟨b, 0, none⟩), .int .u64 (placeT a d (sumP l))] W fun e w' => e = .returned (.int .i64 (standV (repM (gOf dg)) ((exactV l (placeT a d (sumP l))).getD 0))) ∧ Below W.heap.size W w') := fun e W hb => by
    obtain ⟨p, q⟩ := placeE_zero hs0 e
    have hp := placeT_is h1 p (by omega) q
    obtain ⟨x, e2, e3⟩ := exactV_some hv.pos hp.one hp.le
    rw [e2, Option.getD_some]
    exact hfind_v b sp b0 b1 S0 S1 dg lim _ _ l _ x W (h.below hb) hv e3 hp.one hp.le
  obtain ⟨er, her⟩ : ∃ t, placeE a d (sumP l) = t := ⟨_, rfl⟩
  obtain ⟨t, ht⟩ : ∃ t, placeT a d (sumP l) = t := ⟨_, rfl⟩
  obtain ⟨qv, hqv⟩ : ∃ t, quantD (standV (repM (gOf dg))) l a d = t := ⟨_, rfl⟩
  rw [ht] at HQ HFD HC
  obtain ⟨sv, hsv⟩ : ∃ s, standV (repM (gOf dg)) ((exactV l t).getD 0) = s := ⟨_, rfl⟩
  rw [her] at HC HQ HFD ⊢
  rw [hsv] at HQ HFD
  rw [hqv] at HQ ⊢
  obtain ⟨tot, htot⟩ : ∃ t, sumP l = t := ⟨_, rfl⟩
  rw [htot] at HTV HC
  obtain ⟨el, hel⟩ : ∃ t, eLow l = t := ⟨_, rfl⟩
  obtain ⟨eh, heh⟩ : ∃ t, eHigh l = t := ⟨_, rfl⟩
  rw [hel, heh] at HQ s1
  have l1 := s1.lt
  clear h hv her ht hqv hsv htot hel heh h1 h2 h3 h4 hs0 hs
  go_enter Tryd.func15, Tryd.ntmps15
  go_wp2
  have hb0 : Below w.heap.size w (w.alloc (.cells #[.int .u64 a, .int .u64 d] 25)) := (Below.refl _ _).alloc (Nat.le_refl _) _
  have s2 := s1.below hb0
  have r2 := At.new' w #[.int .u64 a, .int .u64 d] 25 rfl
  obtain ⟨W1, hW1⟩ : ∃ W1, w.alloc (.cells #[.int .u64 a, .int .u64 d] 25) = W1 := ⟨_, rfl⟩
  rw [hW1] at hb0 s2 r2 ⊢
  obtain ⟨rb, hrb⟩ : ∃ r, w.heap.size = r := ⟨_, rfl⟩
  rw [hrb] at r2 l1
  try rw [hrb]
  have l2 := s2.lt
  have HB0 := Lib.hid hb0
  clear hW1 s1 hb0 hrb
  have hfar1 := fun x : Far W1 => (x.at s2).eight
  have hfar2 := fun x : Far W1 => (x.at r2).two
  refine wp_region_far (by kernel_rfl) (by kernel_rfl) ?_
  repeat (first | go_big_quiet_skip | (go_big_quiet_want; go_big_quiet_op; first | go_big_quiet_on | (apply Exists.intro; refine ⟨fun _ => ?_, ?_⟩; (focus (first | (with_reducible refine far_of (HTV.out _ (keep1 HB0.out (Far.below _)))) | (refine far_of (HC.out _)))); go_big_quiet_on)))
  refine wpQuiet_nil ?_
  rintro _ ⟨xq, rfl⟩
  clear hfar1 hfar2
  have hb2 := xq.below
  obtain ⟨W2, hW2⟩ : ∃ W2, xq.far = W2 := ⟨_, rfl⟩
  rw [hW2] at hb2 ⊢
  have HB2 : Hid (Below w.heap.size w W2) := keep1 HB0.out hb2
  replace s2 := s2.below hb2
  have f2 := s2.eight
  have l3 := s2.lt
  clear hW2 HC l1 l2 hb2 r2 HTV
  by_cases hE : er = 0
  · subst hE
    have HFF := Lib.hid (HFD.out rfl)
    have HV := HQ.out
    rw [if_pos rfl] at HV
    replace HV := Lib.hid HV
    clear HQ HFD
    go_wp2
    have hfar1 := fun x : Far W2 => (x.at s2).eight
    refine wp_region_far (by kernel_rfl) (by kernel_rfl) ?_
    repeat (first | go_big_quiet_skip | (go_big_quiet_want; go_big_quiet_op; first | go_big_quiet_on | (apply Exists.intro; refine ⟨fun _ => ?_, ?_⟩; (focus (first | (with_reducible refine far_of (HFF.out _ (keep1 HB2.out (Far.below _)))))); go_big_quiet_on)))
    refine wpQuiet_nil ?_
    rintro _ ⟨xq, rfl⟩
    clear hfar1
    have hb3 := xq.below
    have HB3 : Hid (Below w.heap.size w xq.far) := keep1 HB2.out hb3
    clear hb3 HFF
    go_wp2
    go_ret2
    exact ⟨by rw [HV.out]; rfl, HB3.out⟩
  · have HV : Hid (qv = 0) := by show _ = _; rw [HQ.out, if_neg hE]
    have hne : (er == 0) = false := beq_eq_false_iff_ne.2 hE
    clear HQ HFD hE
    go_wp2
    go_ret2
    exact ⟨by rw [HV.out]; rfl, HB2.out⟩
end Go.Proofs.YtnkkdciecjhpoaaDoor
/- Plain laws of ranks by spans; no program in sight. -/
namespace Go.Proofs.YtnkkdciecjhpoaaDoor

section
variable {d : Int} {l : List (Int × Int)} {x : Int}
theorem rank_neg_lo (hok : okP l) (hp : ∀ v ∈ l, 0 < v.2) (hs : sumP l < 18446744073709551616) (hx : x < 0) (hx' : -9223372036854775808 ≤ x) : negV l = upto (rowV (partD d) true l) (partD d x.natAbs) + lessV l (likeLo (gOf d) x) := by
  rw [rowV_upto _ hp hs]
  refine filter_sum_add fun v hv => ?_
  obtain ⟨⟨a1, a2⟩, _⟩ := hok v hv
  have e : likeLo (gOf d) x = -(hiN (gOf d) x.natAbs : Int) := by unfold likeLo; rw [if_neg (by omega), if_neg (by omega)]
  rw [e, sgn_true]
  have hh := Nat.le_trans (lo_pos (g := gOf d) (m := x.natAbs) (by omega)) (lo_le_hi (by omega) (by omega))
  by_cases hv0 : v.1 < 0
  · have hi := idx_gt_iff (g := gOf d) (a := v.1.natAbs) (m := x.natAbs) (by have := gOf_le d; omega) (by omega) (by omega) (by omega) (by omega)
    unfold partD
    by_cases hc : hiN (gOf d) x.natAbs < v.1.natAbs
    · have h1 := hi.2 hc
      rw [decide_eq_true hv0, decide_eq_false (by omega : ¬ ((idxN (gOf d) v.1.natAbs : Nat) : Int) ≤ (idxN (gOf d) x.natAbs : Nat)), decide_eq_true (by omega : v.1 < -(hiN (gOf d) x.natAbs : Int))]
      simp
    · have h1 : ¬ idxN (gOf d) x.natAbs < idxN (gOf d) v.1.natAbs := fun h => hc (hi.1 h)
      rw [decide_eq_true hv0, decide_eq_true (by omega : ((idxN (gOf d) v.1.natAbs : Nat) : Int) ≤ (idxN (gOf d) x.natAbs : Nat)), decide_eq_false (by omega : ¬ v.1 < -(hiN (gOf d) x.natAbs : Int))]
      simp
  · rw [decide_eq_false hv0, decide_eq_false (by omega : ¬ v.1 < -(hiN (gOf d) x.natAbs : Int))]
    simp
theorem rank_neg_hi (hok : okP l) (hp : ∀ v ∈ l, 0 < v.2) (hs : sumP l < 18446744073709551616) (hx : x < 0) (hx' : -9223372036854775808 ≤ x) : negV l = upto (rowV (partD d) true l) (partD d x.natAbs - 1) + upV l (likeHi (gOf d) x) := by
  rw [rowV_upto _ hp hs]
  refine filter_sum_add fun v hv => ?_
  obtain ⟨⟨a1, a2⟩, _⟩ := hok v hv
  have e : likeHi (gOf d) x = -(loN (gOf d) x.natAbs : Int) := by unfold likeHi; rw [if_neg (by omega), if_neg (by omega)]
  rw [e, sgn_true]
  have hh := lo_pos (g := gOf d) (m := x.natAbs) (by omega)
  by_cases hv0 : v.1 < 0
  · have hi := idx_lt_iff (g := gOf d) (a := v.1.natAbs) (m := x.natAbs) (by have := gOf_le d; omega) (by omega) (by omega) (by omega) (by omega)
    unfold partD
    by_cases hc : v.1.natAbs < loN (gOf d) x.natAbs
    · have h1 := hi.2 hc
      rw [decide_eq_true hv0, decide_eq_true (by omega : ((idxN (gOf d) v.1.natAbs : Nat) : Int) ≤ (idxN (gOf d) x.natAbs : Nat) - 1), decide_eq_false (by omega : ¬ v.1 ≤ -(loN (gOf d) x.natAbs : Int))]
      simp
    · have h1 : ¬ idxN (gOf d) v.1.natAbs < idxN (gOf d) x.natAbs := fun h => hc (hi.1 h)
      rw [decide_eq_true hv0, decide_eq_false (by omega : ¬ ((idxN (gOf d) v.1.natAbs : Nat) : Int) ≤ (idxN (gOf d) x.natAbs : Nat) - 1), decide_eq_true (by omega : v.1 ≤ -(loN (gOf d) x.natAbs : Int))]
      simp
  · rw [decide_eq_false hv0, decide_eq_false (by omega : ¬ v.1 ≤ -(loN (gOf d) x.natAbs : Int))]
    simp
theorem upto_zero : upV l 0 = negV l + zeroV l := by
  refine filter_sum_add fun v _ => ?_
  by_cases h0 : v.1 < 0
  · rw [decide_eq_true (by omega : v.1 ≤ 0), decide_eq_true h0, decide_eq_false (by omega : ¬ v.1 = 0)]; simp
  · by_cases h1 : v.1 = 0
    · rw [decide_eq_true (by omega : v.1 ≤ 0), decide_eq_false h0, decide_eq_true h1]; simp
    · rw [decide_eq_false (by omega : ¬ v.1 ≤ 0), decide_eq_false h0, decide_eq_false h1]; simp
theorem rank_pos_lo (hok : okP l) (hp : ∀ v ∈ l, 0 < v.2) (hs : sumP l < 18446744073709551616) (hx : 0 < x) (hx' : x ≤ 9223372036854775807) : lessV l (likeLo (gOf d) x) = negV l + zeroV l + upto (rowV (partD d) false l) (partD d x.natAbs - 1) := by
  rw [rowV_upto _ hp hs, ← upto_zero]
  refine filter_sum_add fun v hv => ?_
  obtain ⟨⟨a1, a2⟩, _⟩ := hok v hv
  have e : likeLo (gOf d) x = (loN (gOf d) x.natAbs : Int) := by unfold likeLo; rw [if_neg (by omega), if_pos hx]
  rw [e, sgn_false]
  have hh := lo_pos (g := gOf d) (m := x.natAbs) (by omega)
  by_cases hv0 : 0 < v.1
  · have hi := idx_lt_iff (g := gOf d) (a := v.1.natAbs) (m := x.natAbs) (by have := gOf_le d; omega) (by omega) (by omega) (by omega) (by omega)
    unfold partD
    by_cases hc : v.1.natAbs < loN (gOf d) x.natAbs
    · have h1 := hi.2 hc
      rw [decide_eq_true hv0, decide_eq_true (by omega : ((idxN (gOf d) v.1.natAbs : Nat) : Int) ≤ (idxN (gOf d) x.natAbs : Nat) - 1), decide_eq_true (by omega : v.1 < (loN (gOf d) x.natAbs : Int)), decide_eq_false (by omega : ¬ v.1 ≤ 0)]
      simp
    · have h1 : ¬ idxN (gOf d) v.1.natAbs < idxN (gOf d) x.natAbs := fun h => hc (hi.1 h)
      rw [decide_eq_true hv0, decide_eq_false (by omega : ¬ ((idxN (gOf d) v.1.natAbs : Nat) : Int) ≤ (idxN (gOf d) x.natAbs : Nat) - 1), decide_eq_false (by omega : ¬ v.1 < (loN (gOf d) x.natAbs : Int)), decide_eq_false (by omega : ¬ v.1 ≤ 0)]
      simp
  · rw [decide_eq_false hv0, decide_eq_true (by omega : v.1 < (loN (gOf d) x.natAbs : Int)), decide_eq_true (by omega : v.1 ≤ 0)]
    simp
theorem rank_pos_hi (hok : okP l) (hp : ∀ v ∈ l, 0 < v.2) (hs : sumP l < 18446744073709551616) (hx : 0 < x) (hx' : x ≤ 9223372036854775807) : upV l (likeHi (gOf d) x) = negV l + zeroV l + upto (rowV (partD d) false l) (partD d x.natAbs) := by
  rw [rowV_upto _ hp hs, ← upto_zero]
  refine filter_sum_add fun v hv => ?_
  obtain ⟨⟨a1, a2⟩, _⟩ := hok v hv
  have e : likeHi (gOf d) x = min (hiN (gOf d) x.natAbs : Int) 9223372036854775807 := by unfold likeHi; rw [if_neg (by omega), if_pos hx]
  rw [e, sgn_false]
  have hh := Nat.le_trans (lo_pos (g := gOf d) (m := x.natAbs) (by omega)) (lo_le_hi (by omega) (by omega))
  by_cases hv0 : 0 < v.1
  · have hi := idx_gt_iff (g := gOf d) (a := v.1.natAbs) (m := x.natAbs) (by have := gOf_le d; omega) (by omega) (by omega) (by omega) (by omega)
    unfold partD
    by_cases hc : hiN (gOf d) x.natAbs < v.1.natAbs
    · have h1 := hi.2 hc
      rw [decide_eq_true hv0, decide_eq_false (by omega : ¬ ((idxN (gOf d) v.1.natAbs : Nat) : Int) ≤ (idxN (gOf d) x.natAbs : Nat)), decide_eq_false (by omega : ¬ v.1 ≤ min (hiN (gOf d) x.natAbs : Int) 9223372036854775807), decide_eq_false (by omega : ¬ v.1 ≤ 0)]
      simp
    · have h1 : ¬ idxN (gOf d) x.natAbs < idxN (gOf d) v.1.natAbs := fun h => hc (hi.1 h)
      rw [decide_eq_true hv0, decide_eq_true (by omega : ((idxN (gOf d) v.1.natAbs : Nat) : Int) ≤ (idxN (gOf d) x.natAbs : Nat)), decide_eq_true (by omega : v.1 ≤ min (hiN (gOf d) x.natAbs : Int) 9223372036854775807), decide_eq_false (by omega : ¬ v.1 ≤ 0)]
      simp
  · rw [decide_eq_false hv0, decide_eq_true (by omega : v.1 ≤ min (hiN (gOf d) x.natAbs : Int) 9223372036854775807), decide_eq_true (by omega : v.1 ≤ 0)]
    simp
end
end Go.Proofs.YtnkkdciecjhpoaaDoor
/- Contracts of package hdr: Rank, Like, Ends, Zero. -/
namespace Go.Proofs.YtnkkdciecjhpoaaDoor
open Go.RowKit

theorem hrank_nil (x : Int) (w : World) : Calls Tryd.prog 29 #[.pointer none, .int .i64 x] w fun e w' => e = .returned (.tuple #[.int .u64 0, .int .u64 0]) ∧ w = w' := by
  go_enter Tryd.func29, Tryd.ntmps29
  go_wp2
  go_ret2
  exact ⟨rfl, rfl⟩
set_option maxRecDepth 100000 in
set_option maxHeartbeats 2000000 in
theorem hrank_v (b : Nat) (S : List Nat) (d lim : Int) (l : List (Int × Int)) (x : Int) (w : World) (h : HdV w b S d lim l) (hv : VOk l) (hx1 : -9223372036854775808 ≤ x) (hx2 : x ≤ 9223372036854775807) :
    Calls Tryd.prog 29 #[.pointer (some ⟨b, 0, none⟩), .int .i64 x] w fun e w' => e = .returned (.tuple #[.int .u64 (rankD1 (gOf d) l x), .int .u64 (rankD2 (gOf d) l x)]) ∧ Below w.heap.size w w' := by
  obtain ⟨sp, b0, b1, S0, S1, rfl, h⟩ := h
  have hs := hv.sum
  have hneg := negV_row (part := partD d) hv.pos (by omega)
  have hpos := posV_row (part := partD d) hv.pos (by omega)
  have hth := sum_three l
  have n0 : 0 ≤ negV l := sumP_nonneg fun v hh => hv.pos v (List.mem_filter.1 hh).1
  have z0 : 0 ≤ zeroV l := sumP_nonneg fun v hh => hv.pos v (List.mem_filter.1 hh).1
  have q0 : 0 ≤ posV l := sumP_nonneg fun v hh => hv.pos v (List.mem_filter.1 hh).1
  have s1 := h.at'
  have HT := Lib.hid (stotal_any b0 S0 4096 _ w h.s0)
  rw [hneg] at HT
  have HB0 := Lib.hid fun (q : Int) W (hb : Below w.heap.size w W) => sbelow_any b0 S0 4096 (rowV (partD d) true l) q W (h.s0.below hb)
  have HB1 := Lib.hid fun (q : Int) W (hb : Below w.heap.size w W) => sbelow_any b1 S1 4096 (rowV (partD d) false l) q W (h.s1.below hb)
  rcases Int.lt_trichotomy x 0 with hlt | rfl | hgt
  · have e1 := rank_neg_lo (d := d) hv.ok hv.pos (by omega) hlt hx1
    have e2 := rank_neg_hi (d := d) hv.ok hv.pos (by omega) hlt hx1
    have u1 : 0 ≤ lessV l (likeLo (gOf d) x) := sumP_nonneg fun v hh => hv.pos v (List.mem_filter.1 hh).1
    have u2 : 0 ≤ upV l (likeHi (gOf d) x) := sumP_nonneg fun v hh => hv.pos v (List.mem_filter.1 hh).1
    have HR : Hid (rankD1 (gOf d) l x = lessV l (likeLo (gOf d) x) ∧ rankD2 (gOf d) l x = upV l (likeHi (gOf d) x)) := ⟨by unfold rankD1; rw [if_neg (by omega)], rfl⟩
    have HSI := Lib.hid fun W (hb : Below w.heap.size w W) => hside_any _ _ _ _ _ _ _ _ _ _ _ _ _ x W (HdB.below h hb) (by omega) hx1 hx2
    rw [if_pos hlt] at HSI
    have hq := partD_rng (d := d) (m := x.natAbs) (by omega) (by omega)
    obtain ⟨q, hqq⟩ : ∃ q, partD d x.natAbs = q := ⟨_, rfl⟩
    rw [hqq] at HSI e1 e2 hq
    have hqw : wrap64 (q - 1) = q - 1 := by unfold wrap64; omega
    have HX1 := Lib.hid (HB0.out q)
    have g1 : 0 ≤ upto (rowV (partD d) true l) q := sumP_nonneg fun v hh => h.s0.gd.pos v (List.mem_filter.1 hh).1
    have g2 : 0 ≤ upto (rowV (partD d) true l) (q - 1) := sumP_nonneg fun v hh => h.s0.gd.pos v (List.mem_filter.1 hh).1
    have HX2 := Lib.hid (HB0.out (q - 1))
    rw [HR.out.1, HR.out.2]
    obtain ⟨n, hn⟩ : ∃ n, negV l = n := ⟨_, rfl⟩
    obtain ⟨c1, hc1⟩ : ∃ n, upto (rowV (partD d) true l) q = n := ⟨_, rfl⟩
    obtain ⟨c2, hc2⟩ : ∃ n, upto (rowV (partD d) true l) (q - 1) = n := ⟨_, rfl⟩
    obtain ⟨v1, hv1⟩ : ∃ n, lessV l (likeLo (gOf d) x) = n := ⟨_, rfl⟩
    obtain ⟨v2, hv2⟩ : ∃ n, upV l (likeHi (gOf d) x) = n := ⟨_, rfl⟩
    rw [hn] at HT e1 e2 n0 hth
    rw [hc1] at HX1 e1 g1
    rw [hc2] at HX2 e2 g2
    rw [hv1] at e1 u1 ⊢
    rw [hv2] at e2 u2 ⊢
    have W1 : Hid (IntKind.u64.wrap (n - c1) = v1) := by show _ = _; rw [show n - c1 = v1 by omega]; exact wrap_in (by omega)
    have W2 : Hid (IntKind.u64.wrap (n - c2) = v2) := by show _ = _; rw [show n - c2 = v2 by omega]; exact wrap_in (by omega)
    have f1 := s1.eight
    have l1 := s1.lt
    clear h hv hs hneg hpos hth n0 z0 q0 g1 g2 HB0 HB1 e1 e2 u1 u2 hq hqq hn hc1 hc2 hv1 hv2 HR hx1 hx2 s1
    go_enter Tryd.func29, Tryd.ntmps29
    go_wp2_with fail
    refine HT.out.mono ?_
    rintro e w1 ⟨rfl, rfl⟩
    clear HT f1 l1
    go_wp2_with fail
    refine (HSI.out w (Below.refl _ _)).mono ?_
    rintro e w2 ⟨rfl, hb⟩
    have HB2 := Lib.hid hb
    clear HSI hb
    go_wp2_with fail
    refine (HX1.out w2 HB2.out).mono ?_
    rintro e w3 ⟨rfl, hb⟩
    have HB3 := Lib.hid (keep1 HB2.out hb)
    clear HX1 hb HB2
    go_wp2_with fail
    rw [hqw]
    refine (HX2.out w3 HB3.out).mono ?_
    rintro e w4 ⟨rfl, hb⟩
    have HB4 := Lib.hid (keep1 HB3.out hb)
    clear HX2 hb HB3 hlt
    go_wp2
    rw [W1.out, W2.out]
    go_ret2
    exact ⟨rfl, HB4.out⟩
  · have HR : Hid (rankD1 (gOf d) l 0 = negV l + zeroV l ∧ rankD2 (gOf d) l 0 = negV l + zeroV l) := ⟨by unfold rankD1; rw [if_pos rfl]; exact upto_zero, by unfold rankD2; rw [show likeHi (gOf d) 0 = 0 from rfl]; exact upto_zero⟩
    have HSI := Lib.hid fun W (hb : Below w.heap.size w W) => hside_zero _ _ _ _ _ _ _ _ _ _ _ _ _ W (HdB.below h hb)
    rw [HR.out.1, HR.out.2]
    obtain ⟨n, hn⟩ : ∃ n, negV l = n := ⟨_, rfl⟩
    obtain ⟨z, hz⟩ : ∃ n, zeroV l = n := ⟨_, rfl⟩
    rw [hn] at HT n0 hth ⊢
    rw [hz] at s1 z0 hth ⊢
    have W1 : Hid (IntKind.u64.wrap (n + z) = n + z) := wrap_in (by omega)
    have f1 := s1.eight
    have l1 := s1.lt
    clear h hv hs hneg hpos hth n0 z0 q0 HB0 HB1 hn hz HR hx1 hx2
    go_enter Tryd.func29, Tryd.ntmps29
    go_wp2_with fail
    refine HT.out.mono ?_
    rintro e w1 ⟨rfl, rfl⟩
    clear HT f1 l1
    go_wp2_with fail
    refine (HSI.out w (Below.refl _ _)).mono ?_
    rintro e w2 ⟨rfl, hb⟩
    replace s1 := s1.below hb
    have f1 := s1.eight
    have l1 := s1.lt
    have HB2 := Lib.hid hb
    clear HSI hb
    go_wp2
    go_quiet (fail)
    go_wp2
    rw [W1.out]
    go_ret2
    exact ⟨rfl, HB2.out.drewN _⟩
  · have e1 := rank_pos_lo (d := d) hv.ok hv.pos (by omega) hgt hx2
    have e2 := rank_pos_hi (d := d) hv.ok hv.pos (by omega) hgt hx2
    have HR : Hid (rankD1 (gOf d) l x = lessV l (likeLo (gOf d) x) ∧ rankD2 (gOf d) l x = upV l (likeHi (gOf d) x)) := ⟨by unfold rankD1; rw [if_neg (by omega)], rfl⟩
    have HSI := Lib.hid fun W (hb : Below w.heap.size w W) => hside_any _ _ _ _ _ _ _ _ _ _ _ _ _ x W (HdB.below h hb) (by omega) hx1 hx2
    rw [if_neg (by omega : ¬ x < 0)] at HSI
    have hq := partD_rng (d := d) (m := x.natAbs) (by omega) (by omega)
    obtain ⟨q, hqq⟩ : ∃ q, partD d x.natAbs = q := ⟨_, rfl⟩
    rw [hqq] at HSI e1 e2 hq
    have hqw : wrap64 (q - 1) = q - 1 := by unfold wrap64; omega
    have HX1 := Lib.hid (HB1.out q)
    have g1 : 0 ≤ upto (rowV (partD d) false l) q := sumP_nonneg fun v hh => h.s1.gd.pos v (List.mem_filter.1 hh).1
    have g2 : 0 ≤ upto (rowV (partD d) false l) (q - 1) := sumP_nonneg fun v hh => h.s1.gd.pos v (List.mem_filter.1 hh).1
    have HX2 := Lib.hid (HB1.out (q - 1))
    have u1 := (upto_le (q := q) h.s1.gd).2
    have u2 := (upto_le (q := q - 1) h.s1.gd).2
    rw [HR.out.1, HR.out.2]
    obtain ⟨n, hn⟩ : ∃ n, negV l = n := ⟨_, rfl⟩
    obtain ⟨z, hz⟩ : ∃ n, zeroV l = n := ⟨_, rfl⟩
    obtain ⟨c1, hc1⟩ : ∃ n, upto (rowV (partD d) false l) q = n := ⟨_, rfl⟩
    obtain ⟨c2, hc2⟩ : ∃ n, upto (rowV (partD d) false l) (q - 1) = n := ⟨_, rfl⟩
    obtain ⟨v1, hv1⟩ : ∃ n, lessV l (likeLo (gOf d) x) = n := ⟨_, rfl⟩
    obtain ⟨v2, hv2⟩ : ∃ n, upV l (likeHi (gOf d) x) = n := ⟨_, rfl⟩
    rw [hn] at HT e1 e2 n0 hth
    rw [hz] at s1 e1 e2 z0 hth
    rw [hc1] at HX1 e2 g1 u1
    rw [hc2] at HX2 e1 g2 u2
    rw [hpos] at u1 u2
    rw [hv1] at e1 ⊢
    rw [hv2] at e2 ⊢
    have W1 : Hid (IntKind.u64.wrap (IntKind.u64.wrap (n + z) + c2) = v1) := by show _ = _; rw [wrap_in (z := n + z) (by omega), e1]; exact wrap_in (by omega)
    have W2 : Hid (IntKind.u64.wrap (IntKind.u64.wrap (n + z) + c1) = v2) := by show _ = _; rw [wrap_in (z := n + z) (by omega), e2]; exact wrap_in (by omega)
    have f1 := s1.eight
    have l1 := s1.lt
    clear h hv hs hneg hpos hth n0 z0 q0 g1 g2 u1 u2 HB0 HB1 e1 e2 hq hqq hn hz hc1 hc2 hv1 hv2 HR hx1 hx2
    go_enter Tryd.func29, Tryd.ntmps29
    go_wp2_with fail
    refine HT.out.mono ?_
    rintro e w1 ⟨rfl, rfl⟩
    clear HT f1 l1
    go_wp2_with fail
    refine (HSI.out w (Below.refl _ _)).mono ?_
    rintro e w2 ⟨rfl, hb⟩
    replace s1 := s1.below hb
    have f1 := s1.eight
    have l1 := s1.lt
    have HB2 := Lib.hid hb
    clear HSI hb
    go_wp2
    have hfar1 := fun x : Far w2 => (x.at s1).eight
    refine wp_region_far (by kernel_rfl) (by kernel_rfl) ?_
    repeat (first | go_big_quiet_skip | (go_big_quiet_want; go_big_quiet_op; first | go_big_quiet_on | (apply Exists.intro; refine ⟨fun _ => ?_, ?_⟩; (focus (first | (with_reducible refine far_of (HX1.out _ (keep1 HB2.out (Far.below _)))) | (with_reducible refine far_of (HX2.out _ (keep1 HB2.out (Far.below _)))))); go_big_quiet_on)))
    refine wpQuiet_nil ?_
    rintro _ ⟨xq, rfl⟩
    clear hfar1
    have HB3 : Hid (Below w.heap.size w xq.far) := keep1 HB2.out xq.below
    clear HX1 HX2
    go_wp2
    rw [W1.out, W2.out]
    go_ret2
    exact ⟨rfl, HB3.out⟩
end Go.Proofs.YtnkkdciecjhpoaaDoor
/- Contracts of package hdr: Like, Ends, Zero, Rows, Config. -/
namespace Go.Proofs.YtnkkdciecjhpoaaDoor
open Go.RowKit

theorem hlike_nil (x : Int) (w : World) : Calls Tryd.prog 18 #[.pointer none, .int .i64 x] w fun e w' => e = .returned (.tuple #[.int .i64 x, .int .i64 x]) ∧ w = w' := by
  go_enter Tryd.func18, Tryd.ntmps18
  go_wp2
  go_ret2
  exact ⟨rfl, rfl⟩
set_option maxRecDepth 100000 in
set_option maxHeartbeats 2000000 in
theorem hlike_any (b : Nat) (S : List Nat) (d lim : Int) (ps0 ps1 : List (Int × Int)) (zero least most x : Int) (w : World) (h : Hd w b S d lim ps0 ps1 zero least most) (hx1 : -9223372036854775808 ≤ x) (hx2 : x ≤ 9223372036854775807) :
    Calls Tryd.prog 18 #[.pointer (some ⟨b, 0, none⟩), .int .i64 x] w fun e w' => e = .returned (.tuple #[.int .i64 (likeLo (gOf d) x), .int .i64 (likeHi (gOf d) x)]) ∧ Below w.heap.size w w' := by
  obtain ⟨sp, b0, b1, S0, S1, rfl, h⟩ := h
  have s1 := h.at'
  by_cases hx0 : x = 0
  · subst hx0
    have HSI := Lib.hid fun W (hb : Below w.heap.size w W) => hside_zero _ _ _ _ _ _ _ _ _ _ _ _ _ W (HdB.below h hb)
    rw [show likeLo (gOf d) 0 = 0 from rfl, show likeHi (gOf d) 0 = 0 from rfl]
    clear h s1 hx1 hx2
    go_enter Tryd.func18, Tryd.ntmps18
    go_wp2_with fail
    refine (HSI.out w (Below.refl _ _)).mono ?_
    rintro e w2 ⟨rfl, hb⟩
    clear HSI
    go_wp2
    go_ret2
    exact ⟨rfl, hb⟩
  · have a0 : 0 < x.natAbs := by omega
    have a1 : x.natAbs ≤ 9223372036854775808 := by omega
    have HSI := Lib.hid fun W (hb : Below w.heap.size w W) => hside_any _ _ _ _ _ _ _ _ _ _ _ _ _ x W (HdB.below h hb) (by omega) hx1 hx2
    have HRG := Lib.hid fun W (hb : Below w.heap.size w W) => sprange_any sp (idxN (gOf d) x.natAbs) d W (h.span.below hb) (idx_pos a0) (idx_le_top (by have := gOf_le d; omega) a0 a1)
    rw [loI_idx a0, hiI_idx a0] at HRG
    have b1 := lo_le (gOf d) x.natAbs
    have b2 := m_le_hi (g := gOf d) a0 a1
    have b3 := hi_le (gOf d) x.natAbs
    have HP : Hid (partD d x.natAbs = (idxN (gOf d) x.natAbs : Nat)) := rfl
    by_cases hlt : x < 0
    · have HV : Hid (likeLo (gOf d) x = -(hiN (gOf d) x.natAbs : Int) ∧ likeHi (gOf d) x = -(loN (gOf d) x.natAbs : Int)) := by unfold likeLo likeHi; rw [if_neg hx0, if_neg (by omega), if_neg hx0, if_neg (by omega)]; exact ⟨rfl, rfl⟩
      rw [HV.out.1, HV.out.2]
      rw [if_pos hlt] at HSI
      obtain ⟨lo, hlo⟩ : ∃ r, loN (gOf d) x.natAbs = r := ⟨_, rfl⟩
      obtain ⟨hi, hhi⟩ : ∃ r, hiN (gOf d) x.natAbs = r := ⟨_, rfl⟩
      rw [hlo] at HRG b1 ⊢
      rw [hhi] at HRG b2 b3 ⊢
      have V1 : Hid (valM hi true = -(hi : Int)) := by show _ = _; unfold valM; rw [if_pos rfl, if_pos (by omega)]
      have V2 : Hid (valM lo true = -(lo : Int)) := by show _ = _; unfold valM; rw [if_pos rfl, if_pos (by omega)]
      have HS1 := Lib.hid fun W => sgval_any hi true W (by omega) (by omega)
      have HS2 := Lib.hid fun W => sgval_any lo true W (by omega) (by omega)
      clear h hx0 a0 a1 hx1 hx2 b1 b2 b3 HV hlo hhi
      go_enter Tryd.func18, Tryd.ntmps18
      go_wp2_with fail
      refine (HSI.out w (Below.refl _ _)).mono ?_
      rintro e w2 ⟨rfl, hb⟩
      rw [HP.out]
      replace s1 := s1.below hb
      have f1 := s1.eight
      have l1 := s1.lt
      have HB2 := Lib.hid hb
      clear HSI hb
      go_wp2_with fail
      refine (HRG.out w2 HB2.out).mono ?_
      rintro e w3 ⟨rfl, hb⟩
      have HB3 := Lib.hid (keep1 HB2.out hb)
      clear HB2 hb HRG f1 l1 s1
      go_wp2_with fail
      refine (HS1.out w3).mono ?_
      rintro e w4 ⟨rfl, rfl⟩
      rw [V1.out]
      go_wp2_with fail
      refine (HS2.out w3).mono ?_
      rintro e w4 ⟨rfl, rfl⟩
      rw [V2.out]
      clear hlt
      go_wp2
      go_ret2
      exact ⟨rfl, HB3.out⟩
    · have HV : Hid (likeLo (gOf d) x = (loN (gOf d) x.natAbs : Int) ∧ likeHi (gOf d) x = min (hiN (gOf d) x.natAbs : Int) 9223372036854775807) := by unfold likeLo likeHi; rw [if_neg hx0, if_pos (by omega), if_neg hx0, if_pos (by omega)]; exact ⟨rfl, rfl⟩
      rw [HV.out.1, HV.out.2]
      rw [if_neg hlt] at HSI
      obtain ⟨lo, hlo⟩ : ∃ r, loN (gOf d) x.natAbs = r := ⟨_, rfl⟩
      obtain ⟨hi, hhi⟩ : ∃ r, hiN (gOf d) x.natAbs = r := ⟨_, rfl⟩
      rw [hlo] at HRG b1 ⊢
      rw [hhi] at HRG b2 b3 ⊢
      have V1 : Hid (wrap64 (lo : Int) = lo) := by show _ = _; unfold wrap64; omega
      have V2 : Hid (wrap64 (min (hi : Int) 9223372036854775807) = min (hi : Int) 9223372036854775807) := by show _ = _; unfold wrap64; omega
      clear h hx0 a0 a1 hx1 hx2 b1 b2 b3 HV hlo hhi
      go_enter Tryd.func18, Tryd.ntmps18
      go_wp2_with fail
      refine (HSI.out w (Below.refl _ _)).mono ?_
      rintro e w2 ⟨rfl, hb⟩
      rw [HP.out]
      replace s1 := s1.below hb
      have f1 := s1.eight
      have l1 := s1.lt
      have HB2 := Lib.hid hb
      clear HSI hb
      go_wp2_with fail
      refine (HRG.out w2 HB2.out).mono ?_
      rintro e w3 ⟨rfl, hb⟩
      have HB3 := Lib.hid (keep1 HB2.out hb)
      clear HB2 hb HRG f1 l1 s1
      go_wp2
      go_ret2
      exact ⟨by first | (rw [V1.out, V2.out]; rfl) | (simp only [V1.out, V2.out]; rfl), HB3.out⟩

theorem hends_nil (w : World) : Calls Tryd.prog 21 #[.pointer none] w fun e w' => e = .returned (.tuple #[.int .i64 0, .int .i64 0, .bool false]) ∧ w = w' := by
  go_enter Tryd.func21, Tryd.ntmps21
  go_wp2
  go_ret3
  exact ⟨rfl, rfl⟩
set_option maxRecDepth 100000 in
theorem hends_v (b : Nat) (S : List Nat) (d lim : Int) (l : List (Int × Int)) (w : World) (h : HdV w b S d lim l) (hv : VOk l) :
    Calls Tryd.prog 21 #[.pointer (some ⟨b, 0, none⟩)] w fun e w' => e = .returned (.tuple #[.int .i64 (eLow l), .int .i64 (eHigh l), .bool (eIs l)]) ∧ Below w.heap.size w w' := by
  have HT := Lib.hid (htotal_v b S d lim l w h hv)
  obtain ⟨sp, b0, b1, S0, S1, rfl, h⟩ := h
  have s1 := h.at'
  have he := hv.empty
  by_cases h0 : l = []
  · subst h0
    rw [sumP_nil] at HT
    rw [show eLow [] = 0 from rfl, show eHigh [] = 0 from rfl, show eIs [] = false from rfl]
    clear h hv s1 he
    go_enter Tryd.func21, Tryd.ntmps21
    go_wp2_with fail
    refine HT.out.mono ?_
    rintro e w1 ⟨rfl, hb⟩
    clear HT
    go_wp2
    go_ret3
    exact ⟨rfl, hb⟩
  · have hn : (sumP l == 0) = false := beq_eq_false_iff_ne.2 fun e => h0 (he.1 e)
    have hi : eIs l = true := decide_eq_true fun e => h0 (List.eq_nil_of_length_eq_zero e)
    rw [hi]
    obtain ⟨t, ht⟩ : ∃ t, sumP l = t := ⟨_, rfl⟩
    rw [ht] at HT hn
    clear h hv he h0 ht hi
    go_enter Tryd.func21, Tryd.ntmps21
    go_wp2_with fail
    refine HT.out.mono ?_
    rintro e w1 ⟨rfl, hb⟩
    replace s1 := s1.below hb
    have f1 := s1.eight
    have l1 := s1.lt
    clear HT
    go_wp2
    go_quiet (fail)
    go_wp2
    go_ret3
    exact ⟨rfl, hb.drewN _⟩

theorem hzero_nil (w : World) : Calls Tryd.prog 23 #[.pointer none] w fun e w' => e = .returned (.int .u64 0) ∧ w = w' := by
  go_enter Tryd.func23, Tryd.ntmps23
  go_wp2
  go_ret
  exact ⟨rfl, rfl⟩
theorem hzero_any (b : Nat) (S : List Nat) (d lim : Int) (ps0 ps1 : List (Int × Int)) (zero least most : Int) (w : World) (h : Hd w b S d lim ps0 ps1 zero least most) :
    Calls Tryd.prog 23 #[.pointer (some ⟨b, 0, none⟩)] w fun e w' => e = .returned (.int .u64 zero) ∧ w = w' := by
  obtain ⟨sp, b0, b1, S0, S1, rfl, h⟩ := h
  have f1 := h.at'.eight
  have l1 := h.at'.lt
  clear h
  go_enter Tryd.func23, Tryd.ntmps23
  go_wp2
  go_ret
  exact ⟨rfl, rfl⟩
end Go.Proofs.YtnkkdciecjhpoaaDoor
/- Contracts of package hdr: Rows, Config, New of what can't be. -/
namespace Go.Proofs.YtnkkdciecjhpoaaDoor
open Go.RowKit

def HdW (b : Nat) (cs : Array Value) (W : World) : Prop := At W b cs 88
theorem HdW.at {b : Nat} {cs : Array Value} {W : World} (h : HdW b cs W) : At W b cs 88 := h
theorem hrows_nil (w : World) : Calls Tryd.prog 20 #[.pointer none] w fun e w' => e = .returned (.tuple #[.slice none 0 0, .slice none 0 0]) ∧ w = w' := by
  go_enter Tryd.func20, Tryd.ntmps20
  go_wp2
  go_ret2
  exact ⟨rfl, rfl⟩
/-- Two rows of a caller's own. -/
def RowsR (ps0 ps1 : List (Int × Int)) (w : World) (e : Ending) (w' : World) : Prop :=
  ∃ A0 c0 A1 c1, e = .returned (.tuple #[.slice A0 ps0.length c0, .slice A1 ps1.length c1]) ∧ RdP w' A0 ps0 ∧ RdP w' A1 ps1 ∧ Below w.heap.size w w'
set_option maxRecDepth 100000 in
set_option maxHeartbeats 2000000 in
theorem hrows_at (b sp b0 b1 : Nat) (S0 S1 : List Nat) (d lim : Int) (ps0 ps1 : List (Int × Int)) (zero least most : Int) (w : World) (h : HdB w b sp b0 b1 S0 S1 d lim ps0 ps1 zero least most) :
    Calls Tryd.prog 20 #[.pointer (some ⟨b, 0, none⟩)] w fun e w' => RowsR ps0 ps1 w e w' := by
  have H := Lib.hid h
  have s1 := h.at'
  obtain ⟨n0, hn0⟩ : ∃ n, ps0.length = n := ⟨_, rfl⟩
  obtain ⟨n1, hn1⟩ : ∃ n, ps1.length = n := ⟨_, rfl⟩
  have HN := Lib.hid (And.intro hn0 hn1)
  clear h
  go_enter Tryd.func20, Tryd.ntmps20
  go_wp2
  have H1 : Hid (HdB w.drew b sp b0 b1 S0 S1 d lim ps0 ps1 zero least most) := H.out.below (Below.refl _ _).drew
  have HB1 : Hid (Below w.heap.size w w.drew) := (Below.refl _ _).drew
  obtain ⟨W1, hW1⟩ : ∃ W, w.drew = W := ⟨_, rfl⟩
  rw [hW1] at H1 HB1
  clear s1 H hn0 hn1
  have s1 := H1.out.at'
  have hHeld : HeldS (HdW b #[.int .i64 d, .int .u64 lim, .pointer (some ⟨sp, 0, none⟩), .pointer (some ⟨b0, 0, none⟩), .pointer (some ⟨b1, 0, none⟩), .int .u64 zero, .int .i64 least, .int .i64 most]) W1 := HeldS.mk' s1
  haveI hne : Nonempty (Held (HdW b #[.int .i64 d, .int .u64 lim, .pointer (some ⟨sp, 0, none⟩), .pointer (some ⟨b0, 0, none⟩), .pointer (some ⟨b1, 0, none⟩), .int .u64 zero, .int .i64 least, .int .i64 most])) := ⟨⟨W1, s1⟩⟩
  have hfar := fun x : Held (HdW b #[.int .i64 d, .int .u64 lim, .pointer (some ⟨sp, 0, none⟩), .pointer (some ⟨b0, 0, none⟩), .pointer (some ⟨b1, 0, none⟩), .int .u64 zero, .int .i64 least, .int .i64 most]) => x.held.at.eight
  refine wp_region_noPanic ?_
  refine wp_region_held_drew (S := HeldS (HdW b #[.int .i64 d, .int .u64 lim, .pointer (some ⟨sp, 0, none⟩), .pointer (some ⟨b0, 0, none⟩), .pointer (some ⟨b1, 0, none⟩), .int .u64 zero, .int .i64 least, .int .i64 most])) (by kernel_rfl) (by rw [hW1]; exact hHeld) (fun _ => ?_)
  rw [hW1]
  clear hW1
  refine wpAnyH_run0 [true, true, true, true, true, false, true, true, true, true, true] 4 (by kernel_rfl) (by kernel_rfl) (fun _ _ _ _ h => h) (by kernel_rfl) hHeld ?_
  simp only [runOps_true, runOps_false, runOps_nil]
  repeat (first | go_big_quiet_skip | (go_big_quiet_want; go_big_quiet_op; go_big_quiet_on))
  refine wpQuiet_nil ?_
  clear hfar hne
  refine wpAnyH_ready (rs := [5]) (by kernel_rfl) (by simp) ?_
  refine AllReadyH.cons rfl (fun K hK => ?_) AllReadyH.nil
  go_simp
  go_wp2_with (go_at_call 46; refine (spairs_any b0 S0 4096 ps0 W1 H1.out.s0).mono ?_; rintro e w5 ⟨A0, c0, rfl, hO, hb⟩)
  refine hK.out _ _ ?_ (fun hHeld => ?_)
  clear hK K
  · exact HeldS.mk' (s1.below hb)
  have H5 := Lib.hid (H1.out.below hb)
  have HB5 := Lib.hid (keep1 HB1.out hb)
  have HR0 := Lib.hid hO.rd
  clear hO hb s1 H1 HB1
  refine wpAnyH_ready (rs := [11]) (by kernel_rfl) (by simp) ?_
  refine AllReadyH.cons rfl (fun K hK => ?_) AllReadyH.nil
  go_simp
  go_wp2_with (go_at_call 46; refine (spairs_any b1 S1 4096 ps1 w5 H5.out.s1).mono ?_; rintro e w6 ⟨A1, c1, rfl, hO, hb⟩)
  refine hK.out _ _ ?_ (fun hHeld => ?_)
  clear hK K
  · exact HeldS.mk' (H5.out.at'.below hb)
  have HB6 := Lib.hid (keep1 HB5.out hb)
  have HR0' := Lib.hid (HR0.out.below hb)
  have HR1 := Lib.hid hO.rd
  clear hO hb H5 HB5 HR0
  refine wpAnyH_run0 [false, false, false, false, false, false, false, false, false, false, false, false, true, true] 0 (by kernel_rfl) (by kernel_rfl) (fun _ _ _ _ h => h) (by kernel_rfl) hHeld ?_
  simp only [runOps_true, runOps_false, runOps_nil]
  repeat (first | go_big_quiet_skip | (go_big_quiet_want; go_big_quiet_op; go_big_quiet_on))
  refine wpQuiet_nil ?_
  refine wpAnyH_done (by kernel_rfl) ?_ _
  refine NoPanic.normal ?_
  clear hHeld
  have HRR : Hid (∀ v, v = Ending.returned (.tuple #[.slice A0 n0 c0, .slice A1 n1 c1]) → RowsR ps0 ps1 w v w6) := fun v hv => ⟨A0, c0, A1, c1, by rw [hv, HN.out.1, HN.out.2], HR0'.out, HR1.out, HB6.out⟩
  rw [HN.out.1, HN.out.2]
  clear HN HR0' HR1 HB6
  go_wp2
  go_ret2
  exact HRR.out _ rfl
theorem hrows_v (b : Nat) (S : List Nat) (d lim : Int) (ps0 ps1 : List (Int × Int)) (zero least most : Int) (w : World) (h : Hd w b S d lim ps0 ps1 zero least most) :
    Calls Tryd.prog 20 #[.pointer (some ⟨b, 0, none⟩)] w fun e w' => RowsR ps0 ps1 w e w' := by
  obtain ⟨sp, b0, b1, S0, S1, rfl, h⟩ := h
  exact hrows_at _ _ _ _ _ _ _ _ _ _ _ _ _ w h
theorem hconf_nil (w : World) : Calls Tryd.prog 32 #[.pointer none] w fun e w' => e = .returned (.agg #[.int .i64 0, .int .u64 0]) ∧ Below w.heap.size w w' := by
  have s1 := At.new w #[.int .i64 0, .int .u64 0] 45
  go_enter Tryd.func32, Tryd.ntmps32
  go_wp2
  have d2 := (s1.set2 (.int .i64 0) (.int .u64 0)).two
  exact bodyPost_ret (v := .agg #[.int .i64 0, .int .u64 0]) (by simp only [results, Tryd.f32]; simp [go_sem, d2]) rfl ⟨rfl, (by repeat (first | with_reducible assumption | with_reducible exact Below.refl _ _ | with_reducible refine Below.drew ?_ | with_reducible refine Below.drewN ?_ _ | with_reducible refine Below.setCell ?_ (by first | omega | (simp; done) | (simp; omega)) _ | with_reducible refine Below.alloc ?_ (by first | omega | (simp; done) | (simp; omega) | (simp [World.setCell]; omega)) _))⟩
theorem hconf_any (b : Nat) (S : List Nat) (d lim : Int) (ps0 ps1 : List (Int × Int)) (zero least most : Int) (w : World) (h : Hd w b S d lim ps0 ps1 zero least most) :
    Calls Tryd.prog 32 #[.pointer (some ⟨b, 0, none⟩)] w fun e w' => e = .returned (.agg #[.int .i64 d, .int .u64 lim]) ∧ Below w.heap.size w w' := by
  obtain ⟨sp, b0, b1, S0, S1, rfl, h⟩ := h
  have f1 := (h.at'.below ((Below.refl _ _).alloc (Nat.le_refl _) (.cells #[.int .i64 0, .int .u64 0] 45))).eight
  have s1 := At.new w #[.int .i64 0, .int .u64 0] 45
  clear h
  go_enter Tryd.func32, Tryd.ntmps32
  go_wp2
  have d2 := (s1.set2 (.int .i64 d) (.int .u64 lim)).two
  exact bodyPost_ret (v := .agg #[.int .i64 d, .int .u64 lim]) (by simp only [results, Tryd.f32]; simp [go_sem, d2]) rfl ⟨rfl, (by repeat (first | with_reducible assumption | with_reducible exact Below.refl _ _ | with_reducible refine Below.drew ?_ | with_reducible refine Below.drewN ?_ _ | with_reducible refine Below.setCell ?_ (by first | omega | (simp; done) | (simp; omega)) _ | with_reducible refine Below.alloc ?_ (by first | omega | (simp; done) | (simp; omega) | (simp [World.setCell]; omega)) _))⟩
set_option maxRecDepth 100000 in
theorem hnew_bad (d lim : Int) (w : World) (hT : TensAt w) (h : d < 1 ∨ 4 < d ∨ 9223372036854775808 < lim) :
    Calls Tryd.prog 17 #[.agg #[.int .i64 d, .int .u64 lim]] w fun e w' => e = .returned (.tuple #[.pointer none, .int .i64 1]) ∧ Below w.heap.size w w' := by
  have hb0 : Below w.heap.size w (w.alloc (.cells #[.int .i64 d, .int .u64 lim] 45)) := (Below.refl _ _).alloc (Nat.le_refl _) _
  have r2 := At.new' w #[.int .i64 d, .int .u64 lim] 45 rfl
  by_cases hd : d < 1 ∨ 4 < d
  · have HN := Lib.hid fun W => spnew_bad d W hd
    clear hT h hd
    go_enter Tryd.func17, Tryd.ntmps17
    go_wp2_with fail
    refine (HN.out _).mono ?_
    rintro e w2 ⟨rfl, rfl⟩
    clear HN
    go_wp2
    go_ret2
    exact ⟨rfl, hb0⟩
  · have HN := Lib.hid fun W (hb : Below w.heap.size w W) => spnew_any d W (hT.below hb) (by omega) (by omega)
    have hl : decide ((9223372036854775808 : Int) < lim) = true := decide_eq_true (by omega)
    clear hT h hd
    go_enter Tryd.func17, Tryd.ntmps17
    go_wp2_with fail
    obtain ⟨W1, hW1⟩ : ∃ W1, w.alloc (.cells #[.int .i64 d, .int .u64 lim] 45) = W1 := ⟨_, rfl⟩
    obtain ⟨rb, hrb⟩ : ∃ r, w.heap.size = r := ⟨_, rfl⟩
    rw [hW1] at hb0 r2 ⊢
    rw [hrb] at r2
    try rw [hrb]
    clear hW1 hrb
    refine (HN.out W1 hb0).mono ?_
    rintro e w2 ⟨⟨sp, rfl, hspe, hsp⟩, hb⟩
    have HB2 := Lib.hid (keep1 hb0 hb)
    replace r2 := r2.below hb
    have f2 := r2.two
    have l2 := r2.lt
    clear hb0 hb hspe hsp HN
    go_wp2
    go_ret2
    exact ⟨rfl, HB2.out⟩
end Go.Proofs.YtnkkdciecjhpoaaDoor
