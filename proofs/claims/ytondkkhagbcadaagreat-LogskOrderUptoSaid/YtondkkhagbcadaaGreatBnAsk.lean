/- Contracts of package bins: value, Lost, Rows, Zero, Most, Like. -/
import Derived.Test.YtondkkhagbcadaaGreatProg
import Derived.Test.YtondkkhagbcadaaGreatBnAdd
namespace Go.Proofs.YtondkkhagbcadaaGreat
open Go.RowKit

/-- What stands for a part, below 0 or not. -/
def valZ (rep : Int → Int) (i : Int) (below : Bool) : Int := if below then -(rep i) else min (rep i) 9223372036854775807
theorem bvalue_at (PB : List Nat) (b : Nat) (k : Bool) (pa : Nat) (part : Nat → Int) (rep : Int → Int) (s : Bool) (most : Int) (c0 c1 : Nat) (S0 S1 : List Nat) (ps0 ps1 : List (Int × Int)) (t0 t1 zero i : Int) (below : Bool) (w : World)
    (h : BnB PB w b k pa part rep s most c0 c1 S0 S1 ps0 ps1 t0 t1 zero) (h1 : -9223372036854775808 ≤ i) (h2 : i ≤ 9223372036854775807) :
    Calls Tryz.prog 56 #[.pointer (some ⟨b, 0, none⟩), .int .i64 i, .bool below] w fun e w' => e = .returned (.int .i64 (valZ rep i below)) ∧ Below w.heap.size w w' := by
  have s1 := h.at'
  have hr := h.prt.hi i
  have HIX := Lib.hid (h.prt.rp w (Below.refl _ _) i h1 h2)
  have m1 := (pRep k).1
  have m2 := (pRep k).2
  have HV : Hid (valZ rep i below = if below then -(rep i) else min (rep i) 9223372036854775807) := rfl
  rw [HV.out]
  obtain ⟨pT, hpT⟩ : ∃ z, (pKnd k).T = z := ⟨_, rfl⟩
  obtain ⟨pF, hpF⟩ : ∃ z, (pKnd k).fR = z := ⟨_, rfl⟩
  rw [hpT] at s1 m1
  rw [hpF] at m1 m2 HIX
  obtain ⟨r, hre⟩ : ∃ r, rep i = r := ⟨_, rfl⟩
  rw [hre] at hr HIX ⊢
  have HSV := Lib.hid fun W => sgval_any r below W hr.1 (by omega)
  have hvm : (below = true ∧ valM r below = -r ∧ valOk r below = true) ∨ (below = false ∧ ((r ≤ 9223372036854775807 ∧ valM r below = r ∧ valOk r below = true) ∨ (r = 9223372036854775808 ∧ valM r below = 0 ∧ valOk r below = false))) := by
    cases below
    · refine .inr ⟨rfl, ?_⟩
      unfold valM valOk
      by_cases h : r < 9223372036854775808
      · exact .inl ⟨by omega, by simp [h], by simp [h]⟩
      · exact .inr ⟨by omega, by simp [h], by simp [h]⟩
    · refine .inl ⟨rfl, ?_, ?_⟩
      · unfold valM; rw [if_pos rfl, if_pos hr.2]
      · unfold valOk; rw [if_pos rfl]; exact decide_eq_true hr.2
  have f1 := s1.six
  have l1 := s1.lt
  clear h h1 h2 hpT hpF hre HV
  rcases hvm with ⟨rfl, e1, e2⟩ | ⟨rfl, ⟨hr3, e1, e2⟩ | ⟨rfl, e1, e2⟩⟩
  all_goals
    rw [e1, e2] at HSV
    clear e1 e2
  · rw [if_pos rfl]
    clear hr
    go_enter Tryz.func56, Tryz.ntmps56
    go_wp2_with fail
    refine HIX.out.mono ?_
    rintro e w1 ⟨rfl, hb⟩
    have HB := Lib.hid hb
    clear hb HIX f1 l1 s1
    go_wp2_with fail
    refine (HSV.out w1).mono ?_
    rintro e w2 ⟨rfl, rfl⟩
    clear HSV
    go_wp2
    go_ret
    exact ⟨rfl, HB.out⟩
  · have HM : Hid ((if (false : Bool) = true then -r else min r 9223372036854775807) = r) := by show _ = _; rw [if_neg (by simp)]; omega
    rw [HM.out]
    clear hr hr3 HM
    go_enter Tryz.func56, Tryz.ntmps56
    go_wp2_with fail
    refine HIX.out.mono ?_
    rintro e w1 ⟨rfl, hb⟩
    have HB := Lib.hid hb
    clear hb HIX f1 l1 s1
    go_wp2_with fail
    refine (HSV.out w1).mono ?_
    rintro e w2 ⟨rfl, rfl⟩
    clear HSV
    go_wp2
    go_ret
    exact ⟨rfl, HB.out⟩
  · have HM : Hid ((if (false : Bool) = true then -(9223372036854775808 : Int) else min 9223372036854775808 9223372036854775807) = 9223372036854775807) := by show _ = _; rw [if_neg (by simp)]; omega
    rw [HM.out]
    clear hr HM
    go_enter Tryz.func56, Tryz.ntmps56
    go_wp2_with fail
    refine HIX.out.mono ?_
    rintro e w1 ⟨rfl, hb⟩
    have HB := Lib.hid hb
    clear hb HIX f1 l1 s1
    go_wp2_with fail
    refine (HSV.out w1).mono ?_
    rintro e w2 ⟨rfl, rfl⟩
    clear HSV
    go_wp2
    go_ret
    exact ⟨rfl, HB.out⟩
theorem blost_nil (w : World) : Calls Tryz.prog 26 #[.pointer none] w fun e w' => e = .returned (.tuple #[.int .u64 0, .int .u64 0]) ∧ w = w' := by
  go_enter Tryz.func26, Tryz.ntmps26
  go_wp2
  go_ret2
  exact ⟨rfl, rfl⟩
set_option maxRecDepth 100000 in
theorem blost_at (PB : List Nat) (b : Nat) (k : Bool) (pa : Nat) (part : Nat → Int) (rep : Int → Int) (s : Bool) (most : Int) (c0 c1 : Nat) (S0 S1 : List Nat) (ps0 ps1 : List (Int × Int)) (t0 t1 zero : Int) (w : World)
    (h : BnB PB w b k pa part rep s most c0 c1 S0 S1 ps0 ps1 t0 t1 zero) :
    Calls Tryz.prog 26 #[.pointer (some ⟨b, 0, none⟩)] w fun e w' => e = .returned (.tuple #[.int .u64 (t0 - sumP ps0), .int .u64 (t1 - sumP ps1)]) ∧ Below w.heap.size w w' := by
  have s1 := h.at'
  have HT0 := Lib.hid fun W (hb : Below w.heap.size w W) => (sto_lost s c0 S0 most t0 ps0 W (h.s0.below hb)).mono fun e w' (h : e = .returned (.int .u64 (t0 - sumP ps0)) ∧ W = w') => (⟨h.1, by rw [← h.2]; exact Below.refl _ _⟩ : e = .returned (.int .u64 (t0 - sumP ps0)) ∧ Below W.heap.size W w')
  have HT1 := Lib.hid fun W (hb : Below w.heap.size w W) => (sto_lost s c1 S1 most t1 ps1 W (h.s1.below hb)).mono fun e w' (h : e = .returned (.int .u64 (t1 - sumP ps1)) ∧ W = w') => (⟨h.1, by rw [← h.2]; exact Below.refl _ _⟩ : e = .returned (.int .u64 (t1 - sumP ps1)) ∧ Below W.heap.size W w')
  have m1 := (sLost s).1
  have m2 := (sLost s).2
  obtain ⟨u, hu⟩ : ∃ u, t0 - sumP ps0 = u := ⟨_, rfl⟩
  obtain ⟨v, hv⟩ : ∃ u, t1 - sumP ps1 = u := ⟨_, rfl⟩
  rw [hu] at HT0 ⊢
  rw [hv] at HT1 ⊢
  obtain ⟨sT, hsT⟩ : ∃ z, (sKnd s).T = z := ⟨_, rfl⟩
  obtain ⟨sF, hsF⟩ : ∃ z, (sKnd s).fL = z := ⟨_, rfl⟩
  rw [hsT] at s1 m1
  rw [hsF] at m1 m2 HT0 HT1
  clear h hsT hsF hu hv
  go_enter Tryz.func26, Tryz.ntmps26
  go_wp2
  have hfar1 := fun x : Far w => (x.at s1).six
  refine wp_region_far (by kernel_rfl) (by kernel_rfl) ?_
  repeat (first | go_big_quiet_skip | (go_big_quiet_want; go_big_quiet_op; first | go_big_quiet_on | (apply Exists.intro; refine ⟨fun _ => ?_, ?_⟩; (focus (first | (with_reducible refine far_of (HT0.out _ (Far.below _))) | (with_reducible refine far_of (HT1.out _ (Far.below _))))); go_big_quiet_on)))
  refine wpQuiet_nil ?_
  rintro _ ⟨xq, rfl⟩
  clear hfar1
  have hb := xq.below
  clear HT0 HT1 s1
  go_wp2
  go_ret2
  exact ⟨rfl, hb⟩
theorem brows_nil (w : World) : Calls Tryz.prog 25 #[.pointer none] w fun e w' => e = .returned (.tuple #[.slice none 0 0, .slice none 0 0]) ∧ w = w' := by
  go_enter Tryz.func25, Tryz.ntmps25
  go_wp2
  go_ret2
  exact ⟨rfl, rfl⟩
def BnW (b : Nat) (cs : Array Value) (W : World) : Prop := At W b cs 103
theorem BnW.at {b : Nat} {cs : Array Value} {W : World} (h : BnW b cs W) : At W b cs 103 := h
/-- Two rows of a caller's own. -/
def RowsR (ps0 ps1 : List (Int × Int)) (w : World) (e : Ending) (w' : World) : Prop :=
  ∃ A0 c0 A1 c1, e = .returned (.tuple #[.slice A0 ps0.length c0, .slice A1 ps1.length c1]) ∧ RdP w' A0 ps0 ∧ RdP w' A1 ps1 ∧ Below w.heap.size w w'
set_option maxRecDepth 100000 in
set_option maxHeartbeats 2000000 in
theorem brows_at (PB : List Nat) (b : Nat) (k : Bool) (pa : Nat) (part : Nat → Int) (rep : Int → Int) (s : Bool) (most : Int) (c0 c1 : Nat) (S0 S1 : List Nat) (ps0 ps1 : List (Int × Int)) (t0 t1 zero : Int) (w : World)
    (h : BnB PB w b k pa part rep s most c0 c1 S0 S1 ps0 ps1 t0 t1 zero) :
    Calls Tryz.prog 25 #[.pointer (some ⟨b, 0, none⟩)] w fun e w' => RowsR ps0 ps1 w e w' := by
  have H := Lib.hid h
  have s1 := h.at'
  have HP0 := Lib.hid fun W => sto_pairs s c0 S0 most t0 ps0 W
  have HP1 := Lib.hid fun W => sto_pairs s c1 S1 most t1 ps1 W
  have m1 := (sPairs s).1
  have m2 := (sPairs s).2
  obtain ⟨n0, hn0⟩ : ∃ n, ps0.length = n := ⟨_, rfl⟩
  obtain ⟨n1, hn1⟩ : ∃ n, ps1.length = n := ⟨_, rfl⟩
  have HN := Lib.hid (And.intro hn0 hn1)
  obtain ⟨sT, hsT⟩ : ∃ z, (sKnd s).T = z := ⟨_, rfl⟩
  obtain ⟨sF, hsF⟩ : ∃ z, (sKnd s).fP = z := ⟨_, rfl⟩
  rw [hsT] at s1 m1
  rw [hsF] at m1 m2 HP0 HP1
  obtain ⟨pv, hpv⟩ : ∃ v : Value, .iface (pKnd k).T (.pointer (some ⟨pa, 0, none⟩)) = v := ⟨_, rfl⟩
  obtain ⟨sz, hsz⟩ : ∃ v : Value, .int .i64 (sideZ s) = v := ⟨_, rfl⟩
  rw [hpv, hsz] at s1
  clear h hn0 hn1 hsT hsF hpv hsz
  go_enter Tryz.func25, Tryz.ntmps25
  go_wp2
  have H1 : Hid (BnB PB w.drew b k pa part rep s most c0 c1 S0 S1 ps0 ps1 t0 t1 zero) := H.out.below (Below.refl _ _).drew
  have HB1 : Hid (Below w.heap.size w w.drew) := (Below.refl _ _).drew
  have s2 := s1.drew
  obtain ⟨W1, hW1⟩ : ∃ W, w.drew = W := ⟨_, rfl⟩
  rw [hW1] at H1 HB1 s2
  clear s1 H
  have hHeld : HeldS (BnW b #[pv, sz, .int .i64 most, .iface sT (.pointer (some ⟨c0, 0, none⟩)), .iface sT (.pointer (some ⟨c1, 0, none⟩)), .int .u64 zero]) W1 := HeldS.mk' s2
  haveI hne : Nonempty (Held (BnW b #[pv, sz, .int .i64 most, .iface sT (.pointer (some ⟨c0, 0, none⟩)), .iface sT (.pointer (some ⟨c1, 0, none⟩)), .int .u64 zero])) := ⟨⟨W1, s2⟩⟩
  have hfar := fun x : Held (BnW b #[pv, sz, .int .i64 most, .iface sT (.pointer (some ⟨c0, 0, none⟩)), .iface sT (.pointer (some ⟨c1, 0, none⟩)), .int .u64 zero]) => x.held.at.six
  refine wp_region_noPanic ?_
  refine wp_region_held_drew (S := HeldS (BnW b #[pv, sz, .int .i64 most, .iface sT (.pointer (some ⟨c0, 0, none⟩)), .iface sT (.pointer (some ⟨c1, 0, none⟩)), .int .u64 zero])) (by kernel_rfl) (by rw [hW1]; exact hHeld) (fun _ => ?_)
  rw [hW1]
  clear hW1
  refine wpAnyH_run0 [true, true, true, true, false, true, true, true, true] 4 (by kernel_rfl) (by kernel_rfl) (fun _ _ _ _ h => h) (by kernel_rfl) hHeld ?_
  simp only [runOps_true, runOps_false, runOps_nil]
  repeat (first | go_big_quiet_skip | (go_big_quiet_want; go_big_quiet_op; go_big_quiet_on))
  refine wpQuiet_nil ?_
  clear hfar hne
  refine wpAnyH_ready (rs := [4]) (by kernel_rfl) (by simp) ?_
  refine AllReadyH.cons rfl (fun K hK => ?_) (AllReadyH.nil)
  go_simp
  go_wp2_with fail
  refine (HP0.out W1 H1.out.s0).mono ?_
  rintro e w5 ⟨A0, k0, rfl, hO, hb⟩
  dsimp only
  refine hK.out _ _ (HeldS.mk' (s2.below hb)) (fun hHeld => ?_)
  clear hK K
  have H5 := Lib.hid (H1.out.below hb)
  have HB5 := Lib.hid (keep1 HB1.out hb)
  have HR0 := Lib.hid hO.rd
  have s5 := s2.below hb
  clear hO hb s2 H1 HB1 HP0
  refine wpAnyH_ready (rs := [9]) (by kernel_rfl) (by simp) ?_
  refine AllReadyH.cons rfl (fun K hK => ?_) (AllReadyH.nil)
  go_simp
  go_wp2_with fail
  refine (HP1.out w5 H5.out.s1).mono ?_
  rintro e w6 ⟨A1, k1, rfl, hO, hb⟩
  dsimp only
  refine hK.out _ _ (HeldS.mk' (s5.below hb)) (fun hHeld => ?_)
  clear hK K
  have HB6 := Lib.hid (keep1 HB5.out hb)
  have HR0' := Lib.hid (HR0.out.below hb)
  have HR1 := Lib.hid hO.rd
  clear hO hb H5 HB5 HR0 s5 HP1
  refine wpAnyH_run0 [false, false, false, false, false, false, false, false, false, false, true, true] 0 (by kernel_rfl) (by kernel_rfl) (fun _ _ _ _ h => h) (by kernel_rfl) hHeld ?_
  simp only [runOps_true, runOps_false, runOps_nil]
  repeat (first | go_big_quiet_skip | (go_big_quiet_want; go_big_quiet_op; go_big_quiet_on))
  refine wpQuiet_nil ?_
  refine wpAnyH_done (by kernel_rfl) ?_ _
  refine NoPanic.normal ?_
  clear hHeld
  have HRR : Hid (∀ v, v = Ending.returned (.tuple #[.slice A0 n0 k0, .slice A1 n1 k1]) → RowsR ps0 ps1 w v w6) := fun v hv => ⟨A0, k0, A1, k1, by rw [hv, HN.out.1, HN.out.2], HR0'.out, HR1.out, HB6.out⟩
  rw [HN.out.1, HN.out.2]
  clear HN HR0' HR1 HB6
  go_wp2
  go_ret2
  exact HRR.out _ rfl
theorem blike_nil (w : World) : Calls Tryz.prog 66 #[.pointer none, .pointer none] w fun e w' => e = .returned (.bool false) ∧ Below w.heap.size w w' := by
  go_enter Tryz.func66, Tryz.ntmps66
  go_wp2
  go_quiet (fail)
  have hb0 : Below w.heap.size w (w.drewN nq) := (Below.refl _ _).drewN _
  go_wp2
  go_ret
  exact ⟨rfl, hb0⟩
/-- Of the same side: as many parts? -/
theorem blike_at (b o : Nat) (v0 v3 v4 v5 u0 u3 u4 u5 : Value) (z most most' : Int) (w : World) (h : At w b #[v0, .int .i64 z, .int .i64 most, v3, v4, v5] 103) (h' : At w o #[u0, .int .i64 z, .int .i64 most', u3, u4, u5] 103) :
    Calls Tryz.prog 66 #[.pointer (some ⟨b, 0, none⟩), .pointer (some ⟨o, 0, none⟩)] w fun e w' => e = .returned (.bool (decide (most = most'))) ∧ Below w.heap.size w w' := by
  have hzz : (z == z) = true := beq_self_eq_true z
  by_cases hm : most = most'
  · have hmm : (most == most') = true := beq_iff_eq.2 hm
    rw [decide_eq_true hm]
    clear hm
    go_enter Tryz.func66, Tryz.ntmps66
    go_wp2
    have hfar1 := fun x : Far w => (x.at h).six
    have hfar2 := fun x : Far w => (x.at h').six
    refine wp_region_far (by kernel_rfl) (by kernel_rfl) ?_
    repeat (first | go_big_quiet_skip | (go_big_quiet_want; go_big_quiet_op; first | go_big_quiet_on | (apply Exists.intro; refine ⟨fun _ => ?_, ?_⟩; (focus (first | (fail))); go_big_quiet_on)))
    refine wpQuiet_nil ?_
    rintro _ ⟨xq, rfl⟩
    clear hfar1 hfar2
    have hb := xq.below
    go_wp2
    go_ret
    exact ⟨rfl, hb⟩
  · have hmm : (most == most') = false := beq_eq_false_iff_ne.2 hm
    rw [decide_eq_false hm]
    clear hm
    go_enter Tryz.func66, Tryz.ntmps66
    go_wp2
    have hfar1 := fun x : Far w => (x.at h).six
    have hfar2 := fun x : Far w => (x.at h').six
    refine wp_region_far (by kernel_rfl) (by kernel_rfl) ?_
    repeat (first | go_big_quiet_skip | (go_big_quiet_want; go_big_quiet_op; first | go_big_quiet_on | (apply Exists.intro; refine ⟨fun _ => ?_, ?_⟩; (focus (first | (fail))); go_big_quiet_on)))
    refine wpQuiet_nil ?_
    rintro _ ⟨xq, rfl⟩
    clear hfar1 hfar2
    have hb := xq.below
    go_wp2
    go_ret
    exact ⟨rfl, hb⟩
end Go.Proofs.YtondkkhagbcadaaGreat
