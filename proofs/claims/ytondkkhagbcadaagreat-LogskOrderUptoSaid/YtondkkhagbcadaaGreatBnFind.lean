/- Contracts of package bins: Find, Rank. -/
import Derived.Test.YtondkkhagbcadaaGreatProg
import Derived.Test.YtondkkhagbcadaaGreatBnAsk
namespace Go.Proofs.YtondkkhagbcadaaGreat
open Go.RowKit

/-- What Find answers. -/
def binFind (rep : Int → Int) (s : Bool) (ps0 ps1 : List (Int × Int)) (t0 t1 zero t : Int) : Option Int :=
  if t = 0 ∨ t0 + zero + t1 < t then none
  else if t ≤ t0 then (stoFind s (t0 - sumP ps0) ps0 (t0 - t + 1)).map fun i => valZ rep i true
  else if t - t0 ≤ zero then some 0
  else (stoFind s (t1 - sumP ps1) ps1 (t - t0 - zero)).map fun i => valZ rep i false
theorem stoFind_mem {s : Bool} {lo t i : Int} {ps : List (Int × Int)} (h : stoFind s lo ps t = some i) : ∃ x ∈ ps, x.1 = i := by
  cases s
  · exact Hi.findP_mem h
  · unfold stoFind Lo.lowFind at h
    dsimp only at h
    split at h
    · cases h
    · exact Lo.findP_mem h
theorem bfind_nil (t : Int) (w : World) : Calls Tryz.prog 38 #[.pointer none, .int .u64 t] w fun e w' => e = .returned (.tuple #[.int .i64 0, .bool false]) ∧ w = w' := by
  go_enter Tryz.func38, Tryz.ntmps38
  go_wp2
  go_ret2
  exact ⟨rfl, rfl⟩
set_option maxRecDepth 100000 in
set_option maxHeartbeats 4000000 in
theorem bfind_at (PB : List Nat) (b : Nat) (k : Bool) (pa : Nat) (part : Nat → Int) (rep : Int → Int) (s : Bool) (most : Int) (c0 c1 : Nat) (S0 S1 : List Nat) (ps0 ps1 : List (Int × Int)) (t0 t1 zero t : Int) (w : World)
    (h : BnB PB w b k pa part rep s most c0 c1 S0 S1 ps0 ps1 t0 t1 zero) (hz : 0 ≤ zero) (hT : t0 + zero + t1 ≤ 9223372036854775807) (ht : 0 ≤ t ∧ t < 18446744073709551616) :
    Calls Tryz.prog 38 #[.pointer (some ⟨b, 0, none⟩), .int .u64 t] w fun e w' => e = .returned (optI (binFind rep s ps0 ps1 t0 t1 zero t)) ∧ Below w.heap.size w w' := by
  have p0 := h.s0.sums
  have p1 := h.s1.sums
  have H := Lib.hid h
  have HTO := Lib.hid (btot_at _ _ _ _ _ _ _ _ _ _ _ _ _ _ _ _ _ _ w h hz rfl hT)
  have HT0 := Lib.hid fun W (hb : Below w.heap.size w W) => sto_total s c0 S0 most t0 ps0 W (h.s0.below hb)
  have HE : Hid (binFind rep s ps0 ps1 t0 t1 zero t = if t = 0 ∨ t0 + zero + t1 < t then none else if t ≤ t0 then (stoFind s (t0 - sumP ps0) ps0 (t0 - t + 1)).map fun i => valZ rep i true else if t - t0 ≤ zero then some 0 else (stoFind s (t1 - sumP ps1) ps1 (t - t0 - zero)).map fun i => valZ rep i false) := rfl
  rw [HE.out]
  have s1 := h.at'
  have m1 := (sTotal s).1
  have m2 := (sTotal s).2
  have m3 := (sFind s).1
  have m4 := (sFind s).2
  have HSF0 := Lib.hid fun (ht' : 0 ≤ t0 - t + 1 ∧ t0 - t + 1 < 18446744073709551616) W (hb : Below w.heap.size w W) => sto_find s c0 S0 most t0 (t0 - t + 1) ps0 W (h.s0.below hb) ht'
  have HSF1 := Lib.hid fun (ht' : 0 ≤ t - t0 - zero ∧ t - t0 - zero < 18446744073709551616) W (hb : Below w.heap.size w W) => sto_find s c1 S1 most t1 (t - t0 - zero) ps1 W (h.s1.below hb) ht'
  have HOK0 := Lib.hid h.s0.ok
  have HOK1 := Lib.hid h.s1.ok
  obtain ⟨sT, hsT⟩ : ∃ z, (sKnd s).T = z := ⟨_, rfl⟩
  obtain ⟨sF, hsF⟩ : ∃ z, (sKnd s).fT = z := ⟨_, rfl⟩
  obtain ⟨sG, hsG⟩ : ∃ z, (sKnd s).fF = z := ⟨_, rfl⟩
  rw [hsT] at s1 m1 m3
  rw [hsF] at m1 m2 HT0
  rw [hsG] at m3 m4 HSF0 HSF1
  obtain ⟨T, hTT⟩ : ∃ T, t0 + zero + t1 = T := ⟨_, rfl⟩
  rw [hTT] at HTO ⊢
  have HB0 : Hid (0 ≤ t0 ∧ 0 ≤ t1 ∧ 0 ≤ zero ∧ t0 + zero + t1 = T ∧ T ≤ 9223372036854775807 ∧ 0 ≤ t ∧ t < 18446744073709551616) := ⟨by omega, by omega, hz, hTT, by omega, ht.1, ht.2⟩
  clear h hsT hsF hsG p0 p1 HE hTT hT hz
  by_cases ht0 : t = 0
  · subst ht0
    rw [if_pos (.inl rfl)]
    clear ht HSF0 HSF1 HT0 HTO
    go_enter Tryz.func38, Tryz.ntmps38
    go_wp2
    go_ret2
    exact ⟨rfl, Below.refl _ _⟩
  · have ht0' : (t == 0) = false := beq_eq_false_iff_ne.2 ht0
    by_cases hTt : T < t
    · have hd : decide (T < t) = true := decide_eq_true hTt
      rw [if_pos (.inr hTt)]
      clear ht HSF0 HSF1 HT0 hTt ht0
      go_enter Tryz.func38, Tryz.ntmps38
      go_wp2_with fail
      refine HTO.out.mono ?_
      rintro e w1 ⟨rfl, hb⟩
      clear HTO s1
      go_wp2
      go_ret2
      exact ⟨rfl, hb⟩
    · have hd : decide (T < t) = false := decide_eq_false hTt
      rw [if_neg (by omega)]
      by_cases h1 : t ≤ t0
      · have hd1 : decide (t ≤ t0) = true := decide_eq_true h1
        rw [if_pos h1]
        have v1 : IntKind.u64.wrap (t0 - t) = t0 - t := by simp only [IntKind.wrap_u64]; have := HB0.out; omega
        have v2 : IntKind.u64.wrap (t0 - t + 1) = t0 - t + 1 := by simp only [IntKind.wrap_u64]; have := HB0.out; omega
        have HF := Lib.hid (HSF0.out (by have := HB0.out; omega))
        clear HSF0 HSF1 ht hTt h1 ht0
        obtain ⟨o, ho⟩ : ∃ o, stoFind s (t0 - sumP ps0) ps0 (t0 - t + 1) = o := ⟨_, rfl⟩
        rw [ho] at HF ⊢
        cases o with
        | none =>
          have HF' : Hid (∀ W, Below w.heap.size w W → Calls Tryz.prog sG #[.pointer (some ⟨c0, 0, none⟩), .int .u64 (t0 - t + 1)] W fun e w' => e = .returned (.tuple #[.int .i64 0, .bool false]) ∧ Below W.heap.size W w') := HF.out
          replace HF := HF'
          show Calls _ _ _ _ (fun e w' => e = .returned (.tuple #[.int .i64 0, .bool false]) ∧ _)
          clear HF'
          go_enter Tryz.func38, Tryz.ntmps38
          go_wp2_with fail
          refine HTO.out.mono ?_
          rintro e w1 ⟨rfl, hb⟩
          have HB1 := Lib.hid hb
          have s2 := s1.below hb
          have f2 := s2.six
          have l2 := s2.lt
          clear HTO s1 hb
          go_wp2_with fail
          refine (HT0.out w1 HB1.out).mono ?_
          rintro e w2 ⟨rfl, hb⟩
          have HB2 := Lib.hid (keep1 HB1.out hb)
          have s3 := s2.below hb
          have f3 := s3.six
          have l3 := s3.lt
          clear HT0 hb s2 f2 l2
          go_wp2_with fail
          refine (HF.out w2 HB2.out).mono ?_
          rintro e w3 ⟨rfl, hb⟩
          have HB3 := Lib.hid (keep1 HB2.out hb)
          clear hb HF s3 f3 l3
          go_wp2
          go_ret2
          exact ⟨rfl, HB3.out⟩
        | some i =>
          have HI := Lib.hid (stoFind_mem ho)
          have HIR : Hid (-9223372036854775808 ≤ i ∧ i ≤ 9223372036854775807) := by
            obtain ⟨x, hx, rfl⟩ := HI.out
            exact (HOK0.out x hx).1
          have HF' : Hid (∀ W, Below w.heap.size w W → Calls Tryz.prog sG #[.pointer (some ⟨c0, 0, none⟩), .int .u64 (t0 - t + 1)] W fun e w' => e = .returned (.tuple #[.int .i64 i, .bool true]) ∧ Below W.heap.size W w') := HF.out
          replace HF := HF'
          show Calls _ _ _ _ (fun e w' => e = .returned (.tuple #[.int .i64 (valZ rep i true), .bool true]) ∧ _)
          have HVL := Lib.hid fun W (hb : Below w.heap.size w W) => bvalue_at _ _ _ _ _ _ _ _ _ _ _ _ _ _ _ _ _ i true W (H.out.below hb) HIR.out.1 HIR.out.2
          clear HF' ho HI
          go_enter Tryz.func38, Tryz.ntmps38
          go_wp2_with fail
          refine HTO.out.mono ?_
          rintro e w1 ⟨rfl, hb⟩
          have HB1 := Lib.hid hb
          have s2 := s1.below hb
          have f2 := s2.six
          have l2 := s2.lt
          clear HTO s1 hb
          go_wp2_with fail
          refine (HT0.out w1 HB1.out).mono ?_
          rintro e w2 ⟨rfl, hb⟩
          have HB2 := Lib.hid (keep1 HB1.out hb)
          have s3 := s2.below hb
          have f3 := s3.six
          have l3 := s3.lt
          clear HT0 hb s2 f2 l2
          go_wp2_with fail
          refine (HF.out w2 HB2.out).mono ?_
          rintro e w3 ⟨rfl, hb⟩
          have HB3 := Lib.hid (keep1 HB2.out hb)
          clear hb HF s3 f3 l3
          go_wp2_with fail
          refine (HVL.out w3 HB3.out).mono ?_
          rintro e w4 ⟨rfl, hb⟩
          have HB4 := Lib.hid (keep1 HB3.out hb)
          clear hb HVL
          go_wp2
          go_ret2
          exact ⟨rfl, HB4.out⟩
      · rw [if_neg h1]
        have hd1 : decide (t ≤ t0) = false := decide_eq_false h1
        have v1 : IntKind.u64.wrap (t - t0) = t - t0 := by simp only [IntKind.wrap_u64]; have := HB0.out; omega
        by_cases h2 : t - t0 ≤ zero
        · have hd2 : decide (t - t0 ≤ zero) = true := decide_eq_true h2
          rw [if_pos h2]
          clear HSF0 HSF1 ht hTt h1 ht0 h2
          go_enter Tryz.func38, Tryz.ntmps38
          go_wp2_with fail
          refine HTO.out.mono ?_
          rintro e w1 ⟨rfl, hb⟩
          have HB1 := Lib.hid hb
          have s2 := s1.below hb
          have f2 := s2.six
          have l2 := s2.lt
          clear HTO s1 hb
          go_wp2_with fail
          refine (HT0.out w1 HB1.out).mono ?_
          rintro e w2 ⟨rfl, hb⟩
          have HB2 := Lib.hid (keep1 HB1.out hb)
          have s3 := s2.below hb
          have f3 := s3.six
          have l3 := s3.lt
          clear HT0 hb s2 f2 l2
          go_wp2
          go_ret2
          exact ⟨rfl, HB2.out⟩
        · have hd2 : decide (t - t0 ≤ zero) = false := decide_eq_false h2
          rw [if_neg h2]
          have v2 : IntKind.u64.wrap (t - t0 - zero) = t - t0 - zero := by simp only [IntKind.wrap_u64]; have := HB0.out; omega
          have HF := Lib.hid (HSF1.out (by have := HB0.out; omega))
          clear HSF0 HSF1 ht hTt h1 ht0 h2
          obtain ⟨o, ho⟩ : ∃ o, stoFind s (t1 - sumP ps1) ps1 (t - t0 - zero) = o := ⟨_, rfl⟩
          rw [ho] at HF ⊢
          cases o with
          | none =>
            have HF' : Hid (∀ W, Below w.heap.size w W → Calls Tryz.prog sG #[.pointer (some ⟨c1, 0, none⟩), .int .u64 (t - t0 - zero)] W fun e w' => e = .returned (.tuple #[.int .i64 0, .bool false]) ∧ Below W.heap.size W w') := HF.out
            replace HF := HF'
            show Calls _ _ _ _ (fun e w' => e = .returned (.tuple #[.int .i64 0, .bool false]) ∧ _)
            clear HF'
            go_enter Tryz.func38, Tryz.ntmps38
            go_wp2_with fail
            refine HTO.out.mono ?_
            rintro e w1 ⟨rfl, hb⟩
            have HB1 := Lib.hid hb
            have s2 := s1.below hb
            have f2 := s2.six
            have l2 := s2.lt
            clear HTO s1 hb
            go_wp2_with fail
            refine (HT0.out w1 HB1.out).mono ?_
            rintro e w2 ⟨rfl, hb⟩
            have HB2 := Lib.hid (keep1 HB1.out hb)
            have s3 := s2.below hb
            have f3 := s3.six
            have l3 := s3.lt
            clear HT0 hb s2 f2 l2
            have HF3 := Lib.hid fun W (hb : Below w2.heap.size w2 W) => HF.out W (keep1 HB2.out hb)
            clear HF
            go_wp2
            have hfar1 := fun x : Far w2 => (x.at s3).six
            refine wp_region_far (by kernel_rfl) (by kernel_rfl) ?_
            repeat (first | go_big_quiet_skip | (go_big_quiet_want; go_big_quiet_op; first | go_big_quiet_on | (apply Exists.intro; refine ⟨fun _ => ?_, ?_⟩; (focus (first | (with_reducible refine far_of (HF3.out _ (Far.below _))))); go_big_quiet_on)))
            refine wpQuiet_nil ?_
            rintro _ ⟨xq, rfl⟩
            clear hfar1
            have hbf := xq.below
            obtain ⟨w3, hw3⟩ : ∃ w3, xq.far = w3 := ⟨_, rfl⟩
            rw [hw3] at hbf ⊢
            have HB3 := Lib.hid (keep1 HB2.out hbf)
            clear hw3 xq hbf HF3 s3 f3 l3
            go_wp2
            go_ret2
            exact ⟨rfl, HB3.out⟩
          | some i =>
            have HI := Lib.hid (stoFind_mem ho)
            have HIR : Hid (-9223372036854775808 ≤ i ∧ i ≤ 9223372036854775807) := by
              obtain ⟨x, hx, rfl⟩ := HI.out
              exact (HOK1.out x hx).1
            have HF' : Hid (∀ W, Below w.heap.size w W → Calls Tryz.prog sG #[.pointer (some ⟨c1, 0, none⟩), .int .u64 (t - t0 - zero)] W fun e w' => e = .returned (.tuple #[.int .i64 i, .bool true]) ∧ Below W.heap.size W w') := HF.out
            replace HF := HF'
            show Calls _ _ _ _ (fun e w' => e = .returned (.tuple #[.int .i64 (valZ rep i false), .bool true]) ∧ _)
            have HVL := Lib.hid fun W (hb : Below w.heap.size w W) => bvalue_at _ _ _ _ _ _ _ _ _ _ _ _ _ _ _ _ _ i false W (H.out.below hb) HIR.out.1 HIR.out.2
            clear HF' ho HI
            go_enter Tryz.func38, Tryz.ntmps38
            go_wp2_with fail
            refine HTO.out.mono ?_
            rintro e w1 ⟨rfl, hb⟩
            have HB1 := Lib.hid hb
            have s2 := s1.below hb
            have f2 := s2.six
            have l2 := s2.lt
            clear HTO s1 hb
            go_wp2_with fail
            refine (HT0.out w1 HB1.out).mono ?_
            rintro e w2 ⟨rfl, hb⟩
            have HB2 := Lib.hid (keep1 HB1.out hb)
            have s3 := s2.below hb
            have f3 := s3.six
            have l3 := s3.lt
            clear HT0 hb s2 f2 l2
            have HF3 := Lib.hid fun W (hb : Below w2.heap.size w2 W) => HF.out W (keep1 HB2.out hb)
            clear HF
            go_wp2
            have hfar1 := fun x : Far w2 => (x.at s3).six
            refine wp_region_far (by kernel_rfl) (by kernel_rfl) ?_
            repeat (first | go_big_quiet_skip | (go_big_quiet_want; go_big_quiet_op; first | go_big_quiet_on | (apply Exists.intro; refine ⟨fun _ => ?_, ?_⟩; (focus (first | (with_reducible refine far_of (HF3.out _ (Far.below _))))); go_big_quiet_on)))
            refine wpQuiet_nil ?_
            rintro _ ⟨xq, rfl⟩
            clear hfar1
            have hbf := xq.below
            obtain ⟨w3, hw3⟩ : ∃ w3, xq.far = w3 := ⟨_, rfl⟩
            rw [hw3] at hbf ⊢
            have HB3 := Lib.hid (keep1 HB2.out hbf)
            clear hw3 xq hbf HF3 s3 f3 l3
            go_wp2_with fail
            refine (HVL.out w3 HB3.out).mono ?_
            rintro e w4 ⟨rfl, hb⟩
            have HB4 := Lib.hid (keep1 HB3.out hb)
            clear hb HVL
            go_wp2
            go_ret2
            exact ⟨rfl, HB4.out⟩
end Go.Proofs.YtondkkhagbcadaaGreat
