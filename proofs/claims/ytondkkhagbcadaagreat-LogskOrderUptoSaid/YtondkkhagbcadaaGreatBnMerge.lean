/- Contracts of package bins: merge, Merge. -/
import Derived.Test.YtondkkhagbcadaaGreatProg
import Derived.Test.YtondkkhagbcadaaGreatBnAsk
namespace Go.Proofs.YtondkkhagbcadaaGreat
open Go.RowKit

theorem asLow (b : Nat) (w : World) : (Instr.typeAssert (.iface 149 (.pointer (some ⟨b, 0, none⟩))) 101 149 true).run Tryz.prog w = .ok (.tuple #[.pointer (some ⟨b, 0, none⟩), .bool true]) w := by kernel_rfl
theorem asLow' (b : Nat) (w : World) : (Instr.typeAssert (.iface 149 (.pointer (some ⟨b, 0, none⟩))) 101 149 false).run Tryz.prog w = .ok (.pointer (some ⟨b, 0, none⟩)) w := by kernel_rfl
theorem asHigh0 (b : Nat) (w : World) : (Instr.typeAssert (.iface 151 (.pointer (some ⟨b, 0, none⟩))) 101 149 true).run Tryz.prog w = .ok (.tuple #[.pointer none, .bool false]) w := by kernel_rfl
theorem asHigh (b : Nat) (w : World) : (Instr.typeAssert (.iface 151 (.pointer (some ⟨b, 0, none⟩))) 101 151 true).run Tryz.prog w = .ok (.tuple #[.pointer (some ⟨b, 0, none⟩), .bool true]) w := by kernel_rfl
theorem asHigh' (b : Nat) (w : World) : (Instr.typeAssert (.iface 151 (.pointer (some ⟨b, 0, none⟩))) 101 151 false).run Tryz.prog w = .ok (.pointer (some ⟨b, 0, none⟩)) w := by kernel_rfl
set_option maxRecDepth 100000 in
theorem merge_any (s : Bool) (b o : Nat) (S So : List Nat) (most T U : Int) (ps qs : List (Int × Int)) (w : World) (h : Sto w s b S most ps T) (k : Sto w s o So most qs U) (hT : T + U ≤ 9223372036854775807) :
    Calls Tryz.prog 68 #[.iface (sKnd s).T (.pointer (some ⟨b, 0, none⟩)), .iface (sKnd s).T (.pointer (some ⟨o, 0, none⟩))] w fun e w' => e = .returned (.tuple #[]) ∧ StoA s b S most (capAll s most ps qs) (T + U) w w' := by
  cases s
  · have HM := Lib.hid (Hi.lmerge_any b o S So most T U ps qs w h k hT)
    have a1 := asHigh0 b
    have a2 := asHigh b
    have a3 := asHigh' o
    show Calls _ _ #[.iface 151 _, .iface 151 _] _ _
    clear h k hT
    go_enter Tryz.func68, Tryz.ntmps68
    go_wp2_with fail
    refine HM.out.mono ?_
    rintro e w1 ⟨rfl, hA⟩
    have HA : Hid (StoA false b S most (capAll false most ps qs) (T + U) w w1) := hA
    clear hA HM
    go_wp2
    exact bodyPost_end (results_none rfl _ _ _) rfl ⟨rfl, HA.out⟩
  · have HM := Lib.hid (Lo.lmerge_any b o S So most T U ps qs w h k hT)
    have a1 := asLow b
    have a2 := asLow' o
    show Calls _ _ #[.iface 149 _, .iface 149 _] _ _
    clear h k hT
    go_enter Tryz.func68, Tryz.ntmps68
    go_wp2_with fail
    refine HM.out.mono ?_
    rintro e w1 ⟨rfl, hA⟩
    have HA : Hid (StoA true b S most (capAll true most ps qs) (T + U) w w1) := hA
    clear hA HM
    go_wp2
    exact bodyPost_end (results_none rfl _ _ _) rfl ⟨rfl, HA.out⟩
theorem bmerge_nil (w : World) : Calls Tryz.prog 48 #[.pointer none, .pointer none] w fun e w' => e = .returned (.int .i64 2) ∧ w = w' := by
  go_enter Tryz.func48, Tryz.ntmps48
  go_wp2
  go_ret
  exact ⟨rfl, rfl⟩
theorem bmerge_match (b o : Nat) (v0 v3 v4 v5 u0 u3 u4 u5 : Value) (z most most' : Int) (w : World) (h : At w b #[v0, .int .i64 z, .int .i64 most, v3, v4, v5] 103) (h' : At w o #[u0, .int .i64 z, .int .i64 most', u3, u4, u5] 103) (hne : most ≠ most') :
    Calls Tryz.prog 48 #[.pointer (some ⟨b, 0, none⟩), .pointer (some ⟨o, 0, none⟩)] w fun e w' => e = .returned (.int .i64 8) ∧ Below w.heap.size w w' := by
  have HL := Lib.hid (blike_at b o _ _ _ _ _ _ _ _ z most most' w h h')
  rw [decide_eq_false hne] at HL
  clear h h' hne
  go_enter Tryz.func48, Tryz.ntmps48
  go_wp2_with fail
  refine HL.out.mono ?_
  rintro e w1 ⟨rfl, hb⟩
  have HB := Lib.hid hb
  clear hb HL
  go_wp2
  go_ret
  exact ⟨rfl, HB.out⟩
/-- Both blocks. -/
def BnWW (b o : Nat) (cs ds : Array Value) (W : World) : Prop := At W b cs 103 ∧ At W o ds 103
theorem BnWW.a {b o : Nat} {cs ds : Array Value} {W : World} (h : BnWW b o cs ds W) : At W b cs 103 := h.1
theorem BnWW.b {b o : Nat} {cs ds : Array Value} {W : World} (h : BnWW b o cs ds W) : At W o ds 103 := h.2
set_option maxRecDepth 100000 in
set_option maxHeartbeats 4000000 in
theorem bmerge_at (PB : List Nat) (b : Nat) (k : Bool) (pa : Nat) (part : Nat → Int) (rep : Int → Int) (s : Bool) (most : Int) (c0 c1 : Nat) (S0 S1 : List Nat) (ps0 ps1 : List (Int × Int)) (t0 t1 zero t : Int)
    (PB' : List Nat) (o : Nat) (k' : Bool) (pa' : Nat) (part' : Nat → Int) (rep' : Int → Int) (d0 d1 : Nat) (U0 U1 : List Nat) (qs0 qs1 : List (Int × Int)) (u0 u1 zero2 u : Int) (w : World)
    (h : BnB PB w b k pa part rep s most c0 c1 S0 S1 ps0 ps1 t0 t1 zero) (h' : BnB PB' w o k' pa' part' rep' s most d0 d1 U0 U1 qs0 qs1 u0 u1 zero2) (hap : Apart (PB ++ (b :: (S0 ++ S1))) (PB' ++ (o :: (U0 ++ U1))))
    (hz : 0 ≤ zero) (hz2 : 0 ≤ zero2) (he : t0 + zero + t1 = t) (he2 : u0 + zero2 + u1 = u) (hf : t + u ≤ 9223372036854775807) :
    Calls Tryz.prog 48 #[.pointer (some ⟨b, 0, none⟩), .pointer (some ⟨o, 0, none⟩)] w fun e w' => e = .returned (.int .i64 0) ∧
      BaddR b (PB ++ (b :: (S0 ++ S1))) k part rep s most (capAll s most ps0 qs0) (capAll s most ps1 qs1) (t0 + u0) (t1 + u1) (zero + zero2) w w' := by
  have p0 := h.s0.sums
  have p1 := h.s1.sums
  have q0 := h'.s0.sums
  have q1 := h'.s1.sums
  have H := Lib.hid h
  have K' := Lib.hid h'
  have HAP := Lib.hid hap
  have HTB := Lib.hid fun W (hb : Below w.heap.size w W) => btot_at _ _ _ _ _ _ _ _ _ _ _ _ _ _ _ _ _ _ W (h.below hb) hz he (by omega)
  have HTO := Lib.hid fun W (hb : Below w.heap.size w W) => btot_at _ _ _ _ _ _ _ _ _ _ _ _ _ _ _ _ _ _ W (h'.below hb) hz2 he2 (by omega)
  have HL := Lib.hid (blike_at b o _ _ _ _ _ _ _ _ _ most most w h.at' h'.at')
  rw [decide_eq_true rfl] at HL
  have HB0 : Hid (0 ≤ t ∧ 0 ≤ u ∧ t + u ≤ 9223372036854775807 ∧ t0 + u0 ≤ 9223372036854775807 ∧ t1 + u1 ≤ 9223372036854775807 ∧ 0 ≤ zero ∧ 0 ≤ zero2 ∧ zero + zero2 ≤ 9223372036854775807) := ⟨by omega, by omega, hf, by omega, by omega, hz, hz2, by omega⟩
  obtain ⟨r1, r2⟩ := plus2_yes (a := t) (b := u) (by omega)
  have HP := Lib.hid (And.intro r1 r2)
  clear h h' hap p0 p1 q0 q1 hz hz2 he he2 hf r1 r2
  go_enter Tryz.func48, Tryz.ntmps48
  go_wp2_with fail
  refine HL.out.mono ?_
  rintro e w1 ⟨rfl, hb⟩
  have HB1 := Lib.hid hb
  clear hb HL
  go_wp2_with fail
  refine (HTB.out w1 HB1.out).mono ?_
  rintro e w2 ⟨rfl, hb⟩
  have HB2 := Lib.hid (keep1 HB1.out hb)
  clear hb HB1 HTB
  go_wp2_with fail
  refine (HTO.out w2 HB2.out).mono ?_
  rintro e w3 ⟨rfl, hb⟩
  have hB3 := keep1 HB2.out hb
  have z3 := hB3.size
  clear hb HB2 HTO
  go_wp2_with fail
  have a1 := At.new w3 #[.int .u64 t, .int .u64 u] 22
  refine (plus2_any w3.heap.size t u _ (by have := HB0.out; omega) (by have := HB0.out; omega) (by have := HB0.out; omega) (by have := HB0.out; omega) (a1.cell rfl) (a1.cell rfl)).mono ?_
  rintro e w4 ⟨rfl, rfl⟩
  rw [HP.out.1, HP.out.2]
  have hB4 : Below w.heap.size w (w3.alloc (.cells #[.int .u64 t, .int .u64 u] 22)).drew := (by repeat (first | with_reducible assumption | with_reducible exact Below.refl _ _ | with_reducible refine Below.drew ?_ | with_reducible refine Below.drewN ?_ _ | with_reducible refine Below.setCell ?_ (by first | omega | (simp; done) | (simp; omega)) _ | with_reducible refine Below.alloc ?_ (by first | omega | (simp; done) | (simp; omega) | (simp [World.setCell]; omega)) _))
  go_wp2
  obtain ⟨W4, hW4⟩ : ∃ W, (w3.alloc (.cells #[.int .u64 t, .int .u64 u] 22)).drew = W := ⟨_, rfl⟩
  rw [hW4] at hB4
  have HB4 := Lib.hid hB4
  have H4 := Lib.hid (H.out.below hB4)
  have K4 := Lib.hid (K'.out.below hB4)
  obtain ⟨pv, hpv⟩ : ∃ v : Value, .iface (pKnd k).T (.pointer (some ⟨pa, 0, none⟩)) = v := ⟨_, rfl⟩
  obtain ⟨pv', hpv'⟩ : ∃ v : Value, .iface (pKnd k').T (.pointer (some ⟨pa', 0, none⟩)) = v := ⟨_, rfl⟩
  obtain ⟨sz, hsz⟩ : ∃ v : Value, .int .i64 (sideZ s) = v := ⟨_, rfl⟩
  obtain ⟨e0, he0⟩ : ∃ v : Value, .iface (sKnd s).T (.pointer (some ⟨c0, 0, none⟩)) = v := ⟨_, rfl⟩
  obtain ⟨e1, he1⟩ : ∃ v : Value, .iface (sKnd s).T (.pointer (some ⟨c1, 0, none⟩)) = v := ⟨_, rfl⟩
  obtain ⟨f0, hf0⟩ : ∃ v : Value, .iface (sKnd s).T (.pointer (some ⟨d0, 0, none⟩)) = v := ⟨_, rfl⟩
  obtain ⟨f1, hf1⟩ : ∃ v : Value, .iface (sKnd s).T (.pointer (some ⟨d1, 0, none⟩)) = v := ⟨_, rfl⟩
  have HM0 := Lib.hid fun (W : World) (a : Sto W s c0 S0 most ps0 t0) (b : Sto W s d0 U0 most qs0 u0) => merge_any s c0 d0 S0 U0 most t0 u0 ps0 qs0 W a b (by have := HB0.out; omega)
  have HM1 := Lib.hid fun (W : World) (a : Sto W s c1 S1 most ps1 t1) (b : Sto W s d1 U1 most qs1 u1) => merge_any s c1 d1 S1 U1 most t1 u1 ps1 qs1 W a b (by have := HB0.out; omega)
  have HAT := Lib.hid fun (W : World) (S0 S1 : List Nat) (ps0 ps1 : List (Int × Int)) (t0 t1 : Int) (a : BnB PB W b k pa part rep s most c0 c1 S0 S1 ps0 ps1 t0 t1 zero) => a.at'
  have KAT := Lib.hid fun (W : World) (a : BnB PB' W o k' pa' part' rep' s most d0 d1 U0 U1 qs0 qs1 u0 u1 zero2) => a.at'
  rw [hpv, hsz, he0, he1] at HAT
  rw [hpv', hsz, hf0, hf1] at KAT
  rw [he0, hf0] at HM0
  rw [he1, hf1] at HM1
  have s4 : BnWW b o #[pv, sz, .int .i64 most, e0, e1, .int .u64 zero] #[pv', sz, .int .i64 most, f0, f1, .int .u64 zero2] W4 := ⟨HAT.out _ _ _ _ _ _ _ H4.out, KAT.out _ K4.out⟩
  have hHeld : HeldS (BnWW b o #[pv, sz, .int .i64 most, e0, e1, .int .u64 zero] #[pv', sz, .int .i64 most, f0, f1, .int .u64 zero2]) W4 := HeldS.mk' s4
  have hne : Nonempty (Held (BnWW b o #[pv, sz, .int .i64 most, e0, e1, .int .u64 zero] #[pv', sz, .int .i64 most, f0, f1, .int .u64 zero2])) := ⟨⟨W4, s4⟩⟩
  have hfar1 := fun x : Held (BnWW b o #[pv, sz, .int .i64 most, e0, e1, .int .u64 zero] #[pv', sz, .int .i64 most, f0, f1, .int .u64 zero2]) => x.held.a.six
  have hfar2 := fun x : Held (BnWW b o #[pv, sz, .int .i64 most, e0, e1, .int .u64 zero] #[pv', sz, .int .i64 most, f0, f1, .int .u64 zero2]) => x.held.b.six
  refine wp_region_noPanic ?_
  refine wp_region_held_drew (S := HeldS (BnWW b o #[pv, sz, .int .i64 most, e0, e1, .int .u64 zero] #[pv', sz, .int .i64 most, f0, f1, .int .u64 zero2])) (by kernel_rfl) (by rw [hW4]; exact hHeld) (fun _ => ?_)
  rw [hW4]
  clear hW4 hB4 z3 a1 H K' hpv hpv' hsz he0 he1 hf0 hf1
  refine wpAnyH_run0 [true, true, true, true, true, true, true, true] 1 (by kernel_rfl) (by kernel_rfl) (fun _ _ _ _ h => h) (by kernel_rfl) hHeld ?_
  simp only [runOps_true, runOps_false, runOps_nil]
  repeat (first | go_big_quiet_skip | (go_big_quiet_want; go_big_quiet_op; go_big_quiet_on))
  refine wpQuiet_nil ?_
  refine wpAnyH_ready (rs := [8]) (by kernel_rfl) (by simp) ?_
  refine AllReadyH.cons rfl (fun K hK => ?_) AllReadyH.nil
  go_simp
  go_wp2_with (go_at_call 68; refine (HM0.out W4 H4.out.s0 K4.out.s0).mono ?_; rintro e w5 ⟨rfl, hA⟩; obtain ⟨T0, hg0, hS0, hF0⟩ := hA)
  refine hK.out _ _ ?_ (fun hHeld => ?_)
  clear hK K
  · exact HeldS.mk' ⟨hF0.at s4.1 H4.out.n0, hF0.at s4.2 (fun hm => HAP.out o (by simp [hm]) (by simp))⟩
  have H5 := Lib.hid (H4.out.side0 hg0 hS0 hF0)
  have K5 := Lib.hid (K4.out.frame hF0 (fun j hj hm => HAP.out j (by simp [hm]) (by simp [hj])) (fun hm => HAP.out o (by simp [hm]) (by simp)) (fun j hj hm => HAP.out j (by simp [hm]) (by simp [hj])) (fun j hj hm => HAP.out j (by simp [hm]) (by simp [hj])))
  have HF5 : Hid (Frame S0 w w5 ∧ GrownS S0 T0 w.heap.size) := ⟨(Frame.of_below HB4.out).trans hF0, fun j hj => (hg0 j hj).imp id fun h => Nat.le_trans HB4.out.size h⟩
  refine wpAnyH_done (by kernel_rfl) ?_ _
  refine NoPanic.normal ?_
  clear hfar1 hfar2 hHeld hne s4 hF0 hg0 hS0 H4 K4 HB4 HM0
  go_wp2
  have H6 : Hid (BnB PB w5.drew b k pa part rep s most c0 c1 T0 S1 (capAll s most ps0 qs0) ps1 (t0 + u0) t1 zero) := H5.out.below (Below.refl _ _).drew
  have K6 : Hid (BnB PB' w5.drew o k' pa' part' rep' s most d0 d1 U0 U1 qs0 qs1 u0 u1 zero2) := K5.out.below (Below.refl _ _).drew
  have HF6 : Hid (Frame S0 w w5.drew) := HF5.out.1.drew
  have HG6 := Lib.hid HF5.out.2
  obtain ⟨W6, hW6⟩ : ∃ W, w5.drew = W := ⟨_, rfl⟩
  rw [hW6] at H6 K6 HF6
  have s6 : BnWW b o #[pv, sz, .int .i64 most, e0, e1, .int .u64 zero] #[pv', sz, .int .i64 most, f0, f1, .int .u64 zero2] W6 := ⟨HAT.out _ _ _ _ _ _ _ H6.out, KAT.out _ K6.out⟩
  have hHeld : HeldS (BnWW b o #[pv, sz, .int .i64 most, e0, e1, .int .u64 zero] #[pv', sz, .int .i64 most, f0, f1, .int .u64 zero2]) W6 := HeldS.mk' s6
  have hne : Nonempty (Held (BnWW b o #[pv, sz, .int .i64 most, e0, e1, .int .u64 zero] #[pv', sz, .int .i64 most, f0, f1, .int .u64 zero2])) := ⟨⟨W6, s6⟩⟩
  have hfar1 := fun x : Held (BnWW b o #[pv, sz, .int .i64 most, e0, e1, .int .u64 zero] #[pv', sz, .int .i64 most, f0, f1, .int .u64 zero2]) => x.held.a.six
  have hfar2 := fun x : Held (BnWW b o #[pv, sz, .int .i64 most, e0, e1, .int .u64 zero] #[pv', sz, .int .i64 most, f0, f1, .int .u64 zero2]) => x.held.b.six
  refine wp_region_noPanic ?_
  refine wp_region_held_drew (S := HeldS (BnWW b o #[pv, sz, .int .i64 most, e0, e1, .int .u64 zero] #[pv', sz, .int .i64 most, f0, f1, .int .u64 zero2])) (by kernel_rfl) (by rw [hW6]; exact hHeld) (fun _ => ?_)
  rw [hW6]
  clear hW6 H5 K5 HF5
  refine wpAnyH_run0 [true, true, true, true, true, true, true, true] 1 (by kernel_rfl) (by kernel_rfl) (fun _ _ _ _ h => h) (by kernel_rfl) hHeld ?_
  simp only [runOps_true, runOps_false, runOps_nil]
  repeat (first | go_big_quiet_skip | (go_big_quiet_want; go_big_quiet_op; go_big_quiet_on))
  refine wpQuiet_nil ?_
  refine wpAnyH_ready (rs := [8]) (by kernel_rfl) (by simp) ?_
  refine AllReadyH.cons rfl (fun K hK => ?_) AllReadyH.nil
  go_simp
  go_wp2_with (go_at_call 68; refine (HM1.out W6 H6.out.s1 K6.out.s1).mono ?_; rintro e w7 ⟨rfl, hA⟩; obtain ⟨T1, hg1, hS1, hF1⟩ := hA)
  refine hK.out _ _ ?_ (fun hHeld => ?_)
  clear hK K
  · exact HeldS.mk' ⟨hF1.at s6.1 H6.out.n1, hF1.at s6.2 (fun hm => HAP.out o (by simp [hm]) (by simp))⟩
  have H7 := Lib.hid (H6.out.side1 hg1 hS1 hF1)
  have K7 := Lib.hid (K6.out.frame hF1 (fun j hj hm => HAP.out j (by simp [hm]) (by simp [hj])) (fun hm => HAP.out o (by simp [hm]) (by simp)) (fun j hj hm => HAP.out j (by simp [hm]) (by simp [hj])) (fun j hj hm => HAP.out j (by simp [hm]) (by simp [hj])))
  have HF7 : Hid (Frame (PB ++ (b :: (S0 ++ S1))) w w7) := (HF6.out.mono fun j hj => by simp [hj]).trans (hF1.mono fun j hj => by simp [hj])
  have HG7 : Hid (GrownS (PB ++ (b :: (S0 ++ S1))) (PB ++ (b :: (T0 ++ T1))) w.heap.size) := fun j hj => by
    simp only [List.mem_cons, List.mem_append] at hj ⊢
    rcases hj with hj | rfl | hj | hj
    · exact .inl (.inl hj)
    · exact .inl (.inr (.inl rfl))
    · rcases HG6.out j hj with h1 | h1
      · exact .inl (.inr (.inr (.inl h1)))
      · exact .inr h1
    · rcases hg1 j hj with h1 | h1
      · exact .inl (.inr (.inr (.inr h1)))
      · exact .inr (Nat.le_trans HF6.out.size h1)
  refine wpAnyH_done (by kernel_rfl) ?_ _
  refine NoPanic.normal ?_
  clear hfar1 hfar2 hHeld hne s6 hF1 hg1 hS1 H6 K6 HF6 HG6 HM1
  have HW : Hid (IntKind.u64.wrap (zero + zero2) = zero + zero2) := by show _ = _; have := HB0.out; simp only [IntKind.wrap_u64]; omega
  have HFIN : Hid (BaddR b (PB ++ (b :: (S0 ++ S1))) k part rep s most (capAll s most ps0 qs0) (capAll s most ps1 qs1) (t0 + u0) (t1 + u1) (zero + zero2) w (w7.setCell ⟨b, 5, none⟩ (.int .u64 (zero + zero2))).drew) :=
    ⟨_, HG7.out, ⟨_, _, _, _, _, _, rfl, H7.out.noughts.below (Below.refl _ _).drew⟩, (HF7.out.setc (.inl (by simp)) 5 _).drew⟩
  have s7 := HAT.out _ _ _ _ _ _ _ H7.out
  have t7 := KAT.out _ K7.out
  have f7 := s7.six
  have l7 := s7.lt
  have g7 := t7.six
  have m7 := t7.lt
  clear H7 K7 HF7 HG7 s7 t7
  go_wp2
  go_region
  rw [HW.out]
  clear f7 l7 g7 m7
  go_wp2
  go_ret
  exact ⟨rfl, HFIN.out⟩
end Go.Proofs.YtondkkhagbcadaaGreat
