/- Texts of this claim, joined, indents halved: SuiteF, GkP, GkM, GkF. -/
import Derived.Test.YtlbnlmhcpephbaaGreatDoorProg
import Derived.WalkKit
import Derived.Test.YtlbnlmhcpephbaaGreatDoorKc13
namespace Go.Proofs.YtlbnlmhcpephbaaGreatDoor
open Go.RowKit
set_option maxRecDepth 100000 in
set_option maxHeartbeats 1000000 in
theorem sput_at (b q : Nat) (T : TypeId) (fn : FuncId) (k0 k1 k2 k3 k4 k5 k6 k7 k8 k9 k10 : Value) (x n : Int) (w : World) (R : Int → World → Prop)
  (ha : At w b #[k0, k1, k2, k3, k4, k5, k6, k7, k8, k9, k10, .iface T (.agg #[.pointer (some ⟨q, 0, none⟩)])] 79) (m : MethC T (.agg #[.pointer (some ⟨q, 0, none⟩)]) "Put" fn (.pointer (some ⟨q, 0, none⟩)))
  (hR : Calls Tryz.prog fn #[.pointer (some ⟨q, 0, none⟩), .int .i64 x, .int .u64 n] w fun e w' => ∃ f, e = .returned (.int .i64 f) ∧ R f w') :
  Calls Tryz.prog 26 #[.pointer (some ⟨b, 0, none⟩), .int .i64 x, .int .u64 n] w fun e w' => ∃ f, e = .returned (.int .i64 f) ∧ R f w' := by
 have f1 := ha.tw
 have l1 := ha.lt
 obtain ⟨m1, m2⟩ := m
 have HR := Lib.hid hR
 clear ha hR
 go_enter Tryz.func26, Tryz.ntmps26
 go_wp2_with fail
 refine HR.out.mono ?_
 rintro e w1 ⟨f, rfl, hr⟩
 have HF := Lib.hid hr
 clear hr HR m1 m2 f1 l1
 go_wp2
 go_ret
 exact ⟨f, rfl, HF.out⟩
def JnP (b pb : Nat) (cs ds : Array Value) (W : World) : Prop := At W b cs 79 ∧ At W pb ds 25
theorem JnP.at {b pb : Nat} {cs ds : Array Value} {W : World} (h : JnP b pb cs ds W) : At W b cs 79 ∧ At W pb ds 25 := h
set_option maxRecDepth 100000 in
set_option maxHeartbeats 1000000 in
theorem squant_at (b q : Nat) (T : TypeId) (fn : FuncId) (k0 k1 k2 k3 k4 k5 k6 k7 k8 k9 k10 : Value) (p0 p1 : Int) (F : List Nat) (w : World) (R : World → Int → Int → World → Prop) (hF : ∀ j ∈ F, j < w.heap.size) (hbF : b ∉ F)
  (ha : At w b #[k0, k1, k2, k3, k4, k5, k6, k7, k8, k9, k10, .iface T (.agg #[.pointer (some ⟨q, 0, none⟩)])] 79) (m : MethC T (.agg #[.pointer (some ⟨q, 0, none⟩)]) "Quantile" fn (.pointer (some ⟨q, 0, none⟩)))
  (hR : ∀ W, Below w.heap.size w W → Calls Tryz.prog fn #[.pointer (some ⟨q, 0, none⟩), .agg #[.int .u64 p0, .int .u64 p1]] W fun e w' => ∃ x f, e = .returned (.tuple #[.int .i64 x, .int .i64 f]) ∧ Frame F W w' ∧ R W x f w') :
  Calls Tryz.prog 14 #[.pointer (some ⟨b, 0, none⟩), .agg #[.int .u64 p0, .int .u64 p1]] w fun e w' => ∃ x f, e = .returned (.tuple #[.int .i64 x, .int .i64 f]) ∧ ∃ W, Below w.heap.size w W ∧ Frame F W w' ∧ R W x f w' := by
 have hba : Below w.heap.size w (w.alloc (.cells #[.int .u64 p0, .int .u64 p1] 25)) := (Below.refl _ _).alloc (Nat.le_refl _) _
 have ap := At.new w #[.int .u64 p0, .int .u64 p1] 25
 have ha1 := ha.below hba
 obtain ⟨m1, m2⟩ := m
 have HR := Lib.hid hR
 have HF := Lib.hid (And.intro hF hbF)
 have l1 := ha1.lt
 clear ha hR hF hbF
 go_enter Tryz.func14, Tryz.ntmps14
 go_wp2_with fail
 obtain ⟨W1, hW1⟩ : ∃ W, w.alloc (.cells #[.int .u64 p0, .int .u64 p1] 25) = W := ⟨_, rfl⟩
 obtain ⟨pb, hpb⟩ : ∃ r, w.heap.size = r := ⟨_, rfl⟩
 have HPB : Hid (w.heap.size = pb) := hpb
 rw [hW1] at hba ha1 ap l1
 rw [hpb] at ap
 simp only [hW1, hpb]
 clear hW1 hpb
 have hbd : Below W1.heap.size W1 W1.drew := (Below.refl _ _).drew
 obtain ⟨W4, hW4⟩ : ∃ W, W1.drew = W := ⟨_, rfl⟩
 rw [hW4] at hbd
 have hK4 : JnP b pb #[k0, k1, k2, k3, k4, k5, k6, k7, k8, k9, k10, .iface T (.agg #[.pointer (some ⟨q, 0, none⟩)])] #[.int .u64 p0, .int .u64 p1] W4 := ⟨ha1.below hbd, ap.below hbd⟩
 have HB4 := Lib.hid (keep1 hba hbd)
 haveI hne : Nonempty (Held (JnP b pb #[k0, k1, k2, k3, k4, k5, k6, k7, k8, k9, k10, .iface T (.agg #[.pointer (some ⟨q, 0, none⟩)])] #[.int .u64 p0, .int .u64 p1])) := ⟨⟨W4, hK4⟩⟩
 have hfar1 := fun v : Held (JnP b pb #[k0, k1, k2, k3, k4, k5, k6, k7, k8, k9, k10, .iface T (.agg #[.pointer (some ⟨q, 0, none⟩)])] #[.int .u64 p0, .int .u64 p1]) => v.held.at.1.tw
 have hfar2 := fun v : Held (JnP b pb #[k0, k1, k2, k3, k4, k5, k6, k7, k8, k9, k10, .iface T (.agg #[.pointer (some ⟨q, 0, none⟩)])] #[.int .u64 p0, .int .u64 p1]) => v.held.at.2.two
 refine wp_region_noPanic ?_
 refine wp_region_held_drew (S := HeldS (JnP b pb #[k0, k1, k2, k3, k4, k5, k6, k7, k8, k9, k10, .iface T (.agg #[.pointer (some ⟨q, 0, none⟩)])] #[.int .u64 p0, .int .u64 p1])) (by kernel_rfl) (by rw [hW4]; exact HeldS.mk' hK4) (fun hHeld => ?_)
 rw [hW4] at hHeld ⊢
 have HK4 := Lib.hid hK4
 clear hW4 hK4 hbd hba ha1 ap l1
 refine wpAnyH_run0 [true, true, true, true, true] 5 (by kernel_rfl) (by kernel_rfl) (fun _ _ _ _ h => h) (by kernel_rfl) hHeld ?_
 simp only [runOps_true, runOps_false, runOps_nil]
 repeat (first | go_big_quiet_skip | (go_big_quiet_want; go_big_quiet_op; go_big_quiet_on))
 refine wpQuiet_nil ?_
 clear hfar1 hfar2
 refine wpAnyH_ready (rs := [5]) (by kernel_rfl) (by simp) ?_
 refine AllReadyH.cons rfl (fun K hK => ?_) AllReadyH.nil
 go_simp
 refine (HR.out W4 HB4.out).mono ?_
 rintro e w5 ⟨x, f, rfl, hFr, hr⟩
 refine hK.out _ _ ?_ (fun hHeld => ?_)
 clear hK K
 ·exact HeldS.mk' ⟨hFr.at HK4.out.1 HF.out.2, hFr.at HK4.out.2 fun hm => by have := HF.out.1 _ hm; have := HPB.out; omega⟩
 have HFR := Lib.hid (And.intro HB4.out (And.intro hFr hr))
 clear hFr hr
 refine wpAnyH_run0 [false, false, false, false, false, false, true, true, true, true] 0 (by kernel_rfl) (by kernel_rfl) (fun _ _ _ _ h => h) (by kernel_rfl) hHeld ?_
 simp only [runOps_true, runOps_false, runOps_nil]
 repeat (first | go_big_quiet_skip | (go_big_quiet_want; go_big_quiet_op; go_big_quiet_on))
 refine wpQuiet_nil ?_
 refine wpAnyH_done (by kernel_rfl) ?_ _
 refine NoPanic.normal ?_
 clear hne hHeld m1 m2
 go_wp2
 go_ret2
 exact ⟨x, f, rfl, W4, HFR.out⟩
set_option maxRecDepth 100000 in
set_option maxHeartbeats 4000000 in
theorem sjoin_at (b o q r : Nat) (T : TypeId) (fn : FuncId) (kd : Int) (k1 k2 k3 k4 k5 k6 k7 k8 k9 k10 j1 j2 j3 j4 j5 j6 j7 j8 j9 j10 : Value) (F : List Nat) (P : World → Int → World → Prop) (w : World) (ha : At w b #[.int .i64 kd, k1, k2, k3, k4, k5, k6, k7, k8, k9, k10, .iface T (.agg #[.pointer (some ⟨q, 0, none⟩)])] 79) (ho : At w o #[.int .i64 kd, j1, j2, j3, j4, j5, j6, j7, j8, j9, j10, .iface T (.agg #[.pointer (some ⟨r, 0, none⟩)])] 79) (hbF : b ∉ F) (hoF : o ∉ F)
  (m : MethC T (.agg #[.pointer (some ⟨q, 0, none⟩)]) "ogive/suite.join" fn (.agg #[.pointer (some ⟨q, 0, none⟩)]))
  (hJ : ∀ W, Below w.heap.size w W → Calls Tryz.prog fn #[.agg #[.pointer (some ⟨q, 0, none⟩)], .iface T (.agg #[.pointer (some ⟨r, 0, none⟩)])] W fun e w' => ∃ f, e = .returned (.int .i64 f) ∧ ∃ W2, Below w.heap.size w W2 ∧ Frame F W2 w' ∧ P W2 f w') :
  Calls Tryz.prog 28 #[.pointer (some ⟨b, 0, none⟩), .pointer (some ⟨o, 0, none⟩)] w fun e w' => ∃ f, e = .returned (.int .i64 f) ∧ ∃ W, Below w.heap.size w W ∧ Frame F W w' ∧ P W f w' := by
 have f1 := ha.tw
 have l1 := ha.lt
 have f2 := ho.tw
 have l2 := ho.lt
 have HA := Lib.hid ha
 have HO := Lib.hid ho
 have HJ := Lib.hid hJ
 have HN := Lib.hid (And.intro hbF hoF)
 obtain ⟨m1, m2⟩ := m
 have hkk : (kd == kd) = true := beq_self_eq_true kd
 clear hJ ha ho hbF hoF
 go_enter Tryz.func28, Tryz.ntmps28
 go_wp2
 go_quiet (fail)
 go_wp2
 have hbd : Below w.heap.size w (w.drewN nq).drew := ((Below.refl _ _).drewN nq).drew
 obtain ⟨W3, hW3⟩ : ∃ W, w.drewN nq = W := ⟨_, rfl⟩
 rw [hW3] at hbd
 simp only [hW3]
 clear hW3
 obtain ⟨W4, hW4⟩ : ∃ W, W3.drew = W := ⟨_, rfl⟩
 rw [hW4] at hbd
 have hK4 : JnS b o #[.int .i64 kd, k1, k2, k3, k4, k5, k6, k7, k8, k9, k10, .iface T (.agg #[.pointer (some ⟨q, 0, none⟩)])] #[.int .i64 kd, j1, j2, j3, j4, j5, j6, j7, j8, j9, j10, .iface T (.agg #[.pointer (some ⟨r, 0, none⟩)])] W4 := ⟨HA.out.below hbd, HO.out.below hbd⟩
 have HB4 := Lib.hid hbd
 haveI hne : Nonempty (Held (JnS b o #[.int .i64 kd, k1, k2, k3, k4, k5, k6, k7, k8, k9, k10, .iface T (.agg #[.pointer (some ⟨q, 0, none⟩)])] #[.int .i64 kd, j1, j2, j3, j4, j5, j6, j7, j8, j9, j10, .iface T (.agg #[.pointer (some ⟨r, 0, none⟩)])])) := ⟨⟨W4, hK4⟩⟩
 have hfar1 := fun v : Held (JnS b o #[.int .i64 kd, k1, k2, k3, k4, k5, k6, k7, k8, k9, k10, .iface T (.agg #[.pointer (some ⟨q, 0, none⟩)])] #[.int .i64 kd, j1, j2, j3, j4, j5, j6, j7, j8, j9, j10, .iface T (.agg #[.pointer (some ⟨r, 0, none⟩)])]) => v.held.at.1.tw
 have hfar2 := fun v : Held (JnS b o #[.int .i64 kd, k1, k2, k3, k4, k5, k6, k7, k8, k9, k10, .iface T (.agg #[.pointer (some ⟨q, 0, none⟩)])] #[.int .i64 kd, j1, j2, j3, j4, j5, j6, j7, j8, j9, j10, .iface T (.agg #[.pointer (some ⟨r, 0, none⟩)])]) => v.held.at.2.tw
 refine wp_region_noPanic ?_
 refine wp_region_held_drew (S := HeldS (JnS b o #[.int .i64 kd, k1, k2, k3, k4, k5, k6, k7, k8, k9, k10, .iface T (.agg #[.pointer (some ⟨q, 0, none⟩)])] #[.int .i64 kd, j1, j2, j3, j4, j5, j6, j7, j8, j9, j10, .iface T (.agg #[.pointer (some ⟨r, 0, none⟩)])])) (by kernel_rfl) (by rw [hW4]; exact HeldS.mk' hK4) (fun hHeld => ?_)
 rw [hW4] at hHeld ⊢
 have HK4 := Lib.hid hK4
 clear hW4 hK4 hbd f1 f2 l1 l2
 refine wpAnyH_run0 [true, true, true, true, true, true, true, true] 4 (by kernel_rfl) (by kernel_rfl) (fun _ _ _ _ h => h) (by kernel_rfl) hHeld ?_
 simp only [runOps_true, runOps_false, runOps_nil]
 repeat (first | go_big_quiet_skip | (go_big_quiet_want; go_big_quiet_op; go_big_quiet_on))
 refine wpQuiet_nil ?_
 refine wpAnyH_ready (rs := [8]) (by kernel_rfl) (by simp) ?_
 refine AllReadyH.cons rfl (fun K hK => ?_) (AllReadyH.nil)
 go_simp
 refine hK.out _ _ (HeldS.mk' HK4.out) (fun hHeld => ?_)
 clear hK K
 refine wpAnyH_run0 [false, false, false, false, false, false, false, false, false, true] 2 (by kernel_rfl) (by kernel_rfl) (fun _ _ _ _ h => h) (by kernel_rfl) hHeld ?_
 simp only [runOps_true, runOps_false, runOps_nil]
 repeat (first | go_big_quiet_skip | (go_big_quiet_want; go_big_quiet_op; go_big_quiet_on))
 refine wpQuiet_nil ?_
 clear hfar1 hfar2
 refine wpAnyH_ready (rs := [10]) (by kernel_rfl) (by simp) ?_
 refine AllReadyH.cons rfl (fun K hK => ?_) AllReadyH.nil
 go_simp
 refine (HJ.out W4 HB4.out).mono ?_
 rintro e w5 ⟨f, rfl, W2, hB2, hFr, hR⟩
 refine hK.out _ _ ?_ (fun hHeld => ?_)
 clear hK K
 ·exact HeldS.mk' ⟨hFr.at (HA.out.below hB2) HN.out.1, hFr.at (HO.out.below hB2) HN.out.2⟩
 have HR := Lib.hid (And.intro hB2 (And.intro hFr hR))
 clear hB2 hFr hR
 refine wpAnyH_run0 [false, false, false, false, false, false, false, false, false, false, false, true] 0 (by kernel_rfl) (by kernel_rfl) (fun _ _ _ _ h => h) (by kernel_rfl) hHeld ?_
 simp only [runOps_true, runOps_false, runOps_nil]
 repeat (first | go_big_quiet_skip | (go_big_quiet_want; go_big_quiet_op; go_big_quiet_on))
 refine wpQuiet_nil ?_
 refine wpAnyH_done (by kernel_rfl) ?_ _
 refine NoPanic.normal ?_
 clear hne hHeld m1 m2
 go_wp2
 go_ret
 exact ⟨f, rfl, W2, HR.out⟩
def NwR (kd pn pd sd mo dg li de fa wi wo : Int) (T : TypeId) (X : World → Nat → List Nat → Prop) (w : World) (e : Ending) (w' : World) : Prop :=
  ((∃ b q Q, e = .returned (.tuple #[.pointer (some ⟨b, 0, none⟩), .int .i64 0]) ∧ Within (b :: Q) w.heap.size w'.heap.size ∧ b ∉ Q ∧
    At w' b #[.int .i64 kd, .int .u64 pn, .int .u64 pd, .int .i64 sd, .int .i64 mo, .int .i64 dg, .int .u64 li, .int .i64 de, .int .i64 fa, .int .i64 wi, .int .u64 wo, .iface T (.agg #[.pointer (some ⟨q, 0, none⟩)])] 79 ∧ X w' q Q) ∨ (∃ f : Int, f ≠ 0 ∧ e = .returned (.tuple #[.pointer none, .int .i64 f]))) ∧ Below w.heap.size w w'
set_option maxRecDepth 100000 in
set_option maxHeartbeats 4000000 in
theorem sknew_at (kd pn pd sd mo dg li de fa wi wo : Int) (T : TypeId) (X : World → Nat → List Nat → Prop) (cz : Value) (hX : ∀ W W' q Q S, X W q Q → Frame S W W' → Apart Q S → X W' q Q) (w : World)
  (hB : ∀ W, Calls Tryz.prog 36 #[.agg #[.int .i64 kd, .int .u64 pn, .int .u64 pd, .int .i64 sd, .int .i64 mo, .int .i64 dg, .int .u64 li, .int .i64 de, .int .i64 fa, .int .i64 wi, .int .u64 wo]] W fun e w' => e = .returned (.agg #[.int .i64 kd, .int .u64 pn, .int .u64 pd, .int .i64 sd, .int .i64 mo, .int .i64 dg, .int .u64 li, .int .i64 de, .int .i64 fa, .int .i64 wi, .int .u64 wo]) ∧ Below W.heap.size W w')
  (hFr : ∀ W, Below w.heap.size w W → Calls Tryz.prog 37 #[.agg #[.int .i64 kd, .int .u64 pn, .int .u64 pd, .int .i64 sd, .int .i64 mo, .int .i64 dg, .int .u64 li, .int .i64 de, .int .i64 fa, .int .i64 wi, .int .u64 wo]] W fun e w' => ((∃ q Q, e = .returned (.tuple #[.iface T (.agg #[.pointer (some ⟨q, 0, none⟩)]), .int .i64 0]) ∧ Within Q W.heap.size w'.heap.size ∧ X w' q Q) ∨ (∃ f : Int, f ≠ 0 ∧ e = .returned (.tuple #[.iface T cz, .int .i64 f]))) ∧ Below W.heap.size W w') :
  Calls Tryz.prog 25 #[.agg #[.int .i64 kd, .int .u64 pn, .int .u64 pd, .int .i64 sd, .int .i64 mo, .int .i64 dg, .int .u64 li, .int .i64 de, .int .i64 fa, .int .i64 wi, .int .u64 wo]] w fun e w' => NwR kd pn pd sd mo dg li de fa wi wo T X w e w' := by
 have HBR := Lib.hid hB
 have HFR := Lib.hid hFr
 have HX := Lib.hid hX
 have hba : Below w.heap.size w (w.alloc (.cells #[.int .i64 kd, .int .u64 pn, .int .u64 pd, .int .i64 sd, .int .i64 mo, .int .i64 dg, .int .u64 li, .int .i64 de, .int .i64 fa, .int .i64 wi, .int .u64 wo] 28)) := (Below.refl _ _).alloc (Nat.le_refl _) _
 have s0 := At.new w #[.int .i64 kd, .int .u64 pn, .int .u64 pd, .int .i64 sd, .int .i64 mo, .int .i64 dg, .int .u64 li, .int .i64 de, .int .i64 fa, .int .i64 wi, .int .u64 wo] 28
 clear hB hFr hX
 go_enter Tryz.func25, Tryz.ntmps25
 go_wp2_with fail
 obtain ⟨W1, hW1⟩ : ∃ W, w.alloc (.cells #[.int .i64 kd, .int .u64 pn, .int .u64 pd, .int .i64 sd, .int .i64 mo, .int .i64 dg, .int .u64 li, .int .i64 de, .int .i64 fa, .int .i64 wi, .int .u64 wo] 28) = W := ⟨_, rfl⟩
 obtain ⟨cb, hcb⟩ : ∃ r, w.heap.size = r := ⟨_, rfl⟩
 have HCB := Lib.hid hcb
 rw [hW1] at hba s0
 rw [hcb] at s0
 simp only [hW1, hcb]
 clear hW1 hcb
 have hfar1 := fun x : Far W1 => (x.at s0).el
 refine wp_region_far (by kernel_rfl) (by kernel_rfl) ?_
 repeat (first | go_big_quiet_skip | (go_big_quiet_want; go_big_quiet_op; first | go_big_quiet_on | (apply Exists.intro; refine ⟨fun _ => ?_, ?_⟩; (focus (first | (with_reducible refine far_of (HBR.out _)))); go_big_quiet_on)))
 refine wpQuiet_nil ?_
 rintro _ ⟨xq, rfl⟩
 clear hfar1
 have hbf := xq.below
 obtain ⟨W2, hW2⟩ : ∃ W, xq.far = W := ⟨_, rfl⟩
 rw [hW2] at hbf ⊢
 have s2 := s0.below hbf
 have f2 := s2.el
 have l2 := s2.lt
 have HB2 := Lib.hid (keep1 hba hbf)
 clear hba hbf hW2 s0
 go_wp2_with fail
 refine (HFR.out W2 HB2.out).mono ?_
 rintro e w3 ⟨⟨q, Q, rfl, hW, hL⟩ | ⟨f, hf, rfl⟩, hb⟩
 ·have HB3 := Lib.hid (keep1 HB2.out hb)
  have s3 := s2.below hb
  have f3 := s3.el
  have l3 := s3.lt
  have HLT : Hid (∀ j ∈ Q, j < w3.heap.size) := fun j hj => (hW j hj).2
  have hbe : Below w3.heap.size w3 (w3.alloc (.cells #[.int .i64 kd, .int .u64 pn, .int .u64 pd, .int .i64 sd, .int .i64 mo, .int .i64 dg, .int .u64 li, .int .i64 de, .int .i64 fa, .int .i64 wi, .int .u64 wo, .iface T (.agg #[.pointer (some ⟨q, 0, none⟩)])] 79)) := (Below.refl _ _).alloc (Nat.le_refl _) _
  have HNB : Hid (w3.heap.size ∉ Q) := fun hm => by have := HLT.out _ hm; omega
  have HAT := Lib.hid (At.new w3 #[.int .i64 kd, .int .u64 pn, .int .u64 pd, .int .i64 sd, .int .i64 mo, .int .i64 dg, .int .u64 li, .int .i64 de, .int .i64 fa, .int .i64 wi, .int .u64 wo, .iface T (.agg #[.pointer (some ⟨q, 0, none⟩)])] 79)
  have HWI : Hid (Within (w3.heap.size :: Q) w.heap.size (w3.alloc (.cells #[.int .i64 kd, .int .u64 pn, .int .u64 pd, .int .i64 sd, .int .i64 mo, .int .i64 dg, .int .u64 li, .int .i64 de, .int .i64 fa, .int .i64 wi, .int .u64 wo, .iface T (.agg #[.pointer (some ⟨q, 0, none⟩)])] 79)).heap.size) := fun j hj => by
   rcases List.mem_cons.1 hj with rfl | hj
   ·exact ⟨HB3.out.size, HAT.out.lt⟩
   ·exact ⟨Nat.le_trans HB2.out.size (hW j hj).1, Nat.lt_of_lt_of_le (hW j hj).2 hbe.size⟩
  have HSK : Hid (X (w3.alloc (.cells #[.int .i64 kd, .int .u64 pn, .int .u64 pd, .int .i64 sd, .int .i64 mo, .int .i64 dg, .int .u64 li, .int .i64 de, .int .i64 fa, .int .i64 wi, .int .u64 wo, .iface T (.agg #[.pointer (some ⟨q, 0, none⟩)])] 79)) q Q) := HX.out _ _ _ _ [] hL (Frame.of_below hbe) (fun _ _ => by simp)
  have HFIN := Lib.hid (keep1 HB3.out hbe)
  clear hb hW hL hbe s2 s3 f2 l2
  go_wp2
  go_ret2
  exact ⟨.inl ⟨_, q, Q, rfl, HWI.out, HNB.out, HAT.out, HSK.out⟩, HFIN.out⟩
 ·have HF := Lib.hid hf
  have hfz : (f == 0) = false := beq_eq_false_iff_ne.2 hf
  have HB3 := Lib.hid (keep1 HB2.out hb)
  clear hb hf f2 l2 s2
  go_wp2
  go_ret2
  exact ⟨.inr ⟨f, HF.out, rfl⟩, HB3.out⟩
set_option maxRecDepth 100000 in
set_option maxHeartbeats 1000000 in
theorem sknew_not (kd pn pd sd mo dg li de fa wi wo b1 b2 b3 b4 b5 b6 b7 b8 b9 b10 : Int) (w : World)
  (hB : ∀ W, Calls Tryz.prog 36 #[.agg #[.int .i64 kd, .int .u64 pn, .int .u64 pd, .int .i64 sd, .int .i64 mo, .int .i64 dg, .int .u64 li, .int .i64 de, .int .i64 fa, .int .i64 wi, .int .u64 wo]] W fun e w' => e = .returned (.agg #[.int .i64 kd, .int .u64 b1, .int .u64 b2, .int .i64 b3, .int .i64 b4, .int .i64 b5, .int .u64 b6, .int .i64 b7, .int .i64 b8, .int .i64 b9, .int .u64 b10]) ∧ Below W.heap.size W w')
  (hne : ∀ W, (binOp .neq 28 (.agg #[.int .i64 kd, .int .u64 pn, .int .u64 pd, .int .i64 sd, .int .i64 mo, .int .i64 dg, .int .u64 li, .int .i64 de, .int .i64 fa, .int .i64 wi, .int .u64 wo]) (.agg #[.int .i64 kd, .int .u64 b1, .int .u64 b2, .int .i64 b3, .int .i64 b4, .int .i64 b5, .int .u64 b6, .int .i64 b7, .int .i64 b8, .int .i64 b9, .int .u64 b10])).run Tryz.prog W = .ok (.bool true) W) :
  Calls Tryz.prog 25 #[.agg #[.int .i64 kd, .int .u64 pn, .int .u64 pd, .int .i64 sd, .int .i64 mo, .int .i64 dg, .int .u64 li, .int .i64 de, .int .i64 fa, .int .i64 wi, .int .u64 wo]] w fun e w' => e = .returned (.tuple #[.pointer none, .int .i64 1]) ∧ Below w.heap.size w w' := by
 have HBR := Lib.hid hB
 have hba : Below w.heap.size w (w.alloc (.cells #[.int .i64 kd, .int .u64 pn, .int .u64 pd, .int .i64 sd, .int .i64 mo, .int .i64 dg, .int .u64 li, .int .i64 de, .int .i64 fa, .int .i64 wi, .int .u64 wo] 28)) := (Below.refl _ _).alloc (Nat.le_refl _) _
 have s0 := At.new w #[.int .i64 kd, .int .u64 pn, .int .u64 pd, .int .i64 sd, .int .i64 mo, .int .i64 dg, .int .u64 li, .int .i64 de, .int .i64 fa, .int .i64 wi, .int .u64 wo] 28
 clear hB
 go_enter Tryz.func25, Tryz.ntmps25
 go_wp2_with fail
 obtain ⟨W1, hW1⟩ : ∃ W, w.alloc (.cells #[.int .i64 kd, .int .u64 pn, .int .u64 pd, .int .i64 sd, .int .i64 mo, .int .i64 dg, .int .u64 li, .int .i64 de, .int .i64 fa, .int .i64 wi, .int .u64 wo] 28) = W := ⟨_, rfl⟩
 obtain ⟨pb, hpb⟩ : ∃ r, w.heap.size = r := ⟨_, rfl⟩
 have HPB := Lib.hid hpb
 rw [hW1] at hba s0
 rw [hpb] at s0
 simp only [hW1, hpb]
 clear hW1 hpb
 have hfar1 := fun x : Far W1 => (x.at s0).el
 refine wp_region_far (by kernel_rfl) (by kernel_rfl) ?_
 repeat (first | go_big_quiet_skip | (go_big_quiet_want; go_big_quiet_op; first | go_big_quiet_on | (apply Exists.intro; refine ⟨fun _ => ?_, ?_⟩; (focus (first | (with_reducible refine far_of (HBR.out _)))); go_big_quiet_on)))
 refine wpQuiet_nil ?_
 rintro _ ⟨xq, rfl⟩
 clear hfar1
 have hbf := xq.below
 have HB2 := Lib.hid (keep1 hba hbf)
 clear hba hbf s0 hne
 go_wp2
 go_ret2
 exact ⟨rfl, HB2.out⟩
end Go.Proofs.YtlbnlmhcpephbaaGreatDoor

namespace Go.Proofs.YtlbnlmhcpephbaaGreatDoor
abbrev Tu := Int × Int × Int
def upC (V : List Int) (x : Int) : Int := (V.countP (fun v => decide (v ≤ x)) : Nat)
theorem upC_nil (x : Int) : upC [] x = 0 := rfl
theorem upC_nn (V : List Int) (x : Int) : 0 ≤ upC V x := by unfold upC; omega
theorem upC_le (V : List Int) (x : Int) : upC V x ≤ V.length := by unfold upC; have := List.countP_le_length (p := fun v => decide (v ≤ x)) (l := V); omega
theorem upC_append (V W : List Int) (x : Int) : upC (V ++ W) x = upC V x + upC W x := by unfold upC; rw [List.countP_append]; omega
theorem upC_one (v x : Int) : upC [v] x = if v ≤ x then 1 else 0 := by
 unfold upC
 by_cases h : v ≤ x
 ·simp [h]
 ·simp [h]
theorem upC_mono {V : List Int} {x y : Int} (h : x ≤ y) : upC V x ≤ upC V y := by
  induction V with
  | nil => simp [upC_nil]
  | cons v V ih =>
    have e : ∀ z, upC (v :: V) z = upC [v] z + upC V z := fun z => upC_append [v] V z
    rw [e, e, upC_one, upC_one]
    split <;> split <;> omega
theorem upC_mem {V : List Int} {x : Int} (h : upC V (x - 1) < upC V x) : x ∈ V := by
  induction V with
  | nil => simp [upC_nil] at h
  | cons v V ih =>
    have e : ∀ z, upC (v :: V) z = upC [v] z + upC V z := fun z => upC_append [v] V z
    rw [e, e, upC_one, upC_one] at h
    by_cases hv : v = x
    · simp [hv]
    · refine List.mem_cons_of_mem _ (ih ?_)
      split at h <;> split at h <;> omega
theorem eq_nil_or_snoc {α : Type} (l : List α) : l = [] ∨ ∃ C z, l = C ++ [z] := by
 rcases List.eq_nil_or_concat l with rfl | ⟨C, z, rfl⟩
 ·exact .inl rfl
 ·exact .inr ⟨C, z, by simp⟩
def sg (row : List Tu) : Int := (row.map fun t => t.2.1).sum
theorem sg_nil : sg [] = 0 := rfl
theorem sg_cons (t : Tu) (row : List Tu) : sg (t :: row) = t.2.1 + sg row := by unfold sg; simp
theorem sg_append (a b : List Tu) : sg (a ++ b) = sg a + sg b := by unfold sg; simp
structure Gk (row : List Tu) (V : List Int) : Prop where
 srt : row.Pairwise fun a b => a.1 ≤ b.1
 pos : ∀ t ∈ row, 1 ≤ t.2.1 ∧ 0 ≤ t.2.2
 sum : sg row = V.length
 plc : ∀ A t B, row = A ++ t :: B → ∃ r, sg A + t.2.1 ≤ r ∧ r ≤ sg A + t.2.1 + t.2.2 ∧ upC V (t.1 - 1) < r ∧ r ≤ upC V t.1
 fst : ∀ t B, row = t :: B → t.2.1 = 1 ∧ t.2.2 = 0
 lst : ∀ A t, row = A ++ [t] → t.2.2 = 0
theorem Gk.nil : Gk [] [] := ⟨List.Pairwise.nil, fun t h => by simp at h, rfl, fun A t B h => by simp at h, fun t B h => by simp at h, fun A t h => by simp at h⟩
theorem sg_nn {row : List Tu} (h : ∀ t ∈ row, 1 ≤ t.2.1 ∧ 0 ≤ t.2.2) : (row.length : Int) ≤ sg row := by
  induction row with
  | nil => simp [sg_nil]
  | cons t row ih =>
    have h1 := h t (by simp)
    have h2 := ih fun u hu => h u (by simp [hu])
    rw [sg_cons, List.length_cons]
    omega
section
variable {row a b A B : List Tu} {V Va Vb : List Int} {x L La Lb : Int} {t p q : Tu}
theorem append_cons_cases {α : Type} {A' B' A B : List α} {t t0 : α} (h : A' ++ t :: B' = A ++ t0 :: B) :
    (∃ C, A = A' ++ t :: C ∧ B' = C ++ t0 :: B) ∨ (A' = A ∧ t = t0 ∧ B' = B) ∨ (∃ C, A' = A ++ t0 :: C ∧ B = C ++ t :: B') := by
  rcases List.append_eq_append_iff.1 h with ⟨a1, h1, h2⟩ | ⟨bs, h1, h2⟩
  · cases a1 with
    | nil =>
      simp only [List.nil_append, List.append_nil, List.cons.injEq] at h1 h2
      exact .inr (.inl ⟨h1.symm, h2.1, h2.2⟩)
    | cons c a1 =>
      simp only [List.cons_append, List.cons.injEq] at h2
      obtain ⟨rfl, h2⟩ := h2
      exact .inl ⟨a1, h1, h2⟩
  · cases bs with
    | nil =>
      simp only [List.nil_append, List.append_nil, List.cons.injEq] at h1 h2
      exact .inr (.inl ⟨h1, h2.1.symm, h2.2.symm⟩)
    | cons c bs =>
      simp only [List.cons_append, List.cons.injEq] at h2
      obtain ⟨rfl, h2⟩ := h2
      exact .inr (.inr ⟨bs, h1, h2⟩)
theorem Gk.ahead (h : Gk (A ++ B) V) (hA : ∀ t ∈ A, t.1 ≤ x) : sg A ≤ upC V x := by
 rcases eq_nil_or_snoc A with rfl | ⟨C, z, rfl⟩
 ·rw [sg_nil]; exact upC_nn _ _
 ·obtain ⟨r, h1, _, _, h4⟩ := h.plc C z B (by simp)
  have h5 := upC_mono (V := V) (hA z (by simp))
  rw [sg_append, sg_cons, sg_nil]
  omega
theorem Gk.behind (h : Gk (A ++ q :: B) V) (hq : x ≤ q.1 - 1) : upC V x ≤ sg A + q.2.1 + q.2.2 - 1 := by
 obtain ⟨r, _, h2, h3, _⟩ := h.plc A q B rfl
 have h5 := upC_mono (V := V) hq
 omega
theorem Gk.ins (h : Gk (A ++ B) V) (hA : ∀ t ∈ A, t.1 ≤ x) (hB : ∀ t ∈ B, x < t.1) (d : Int) (hd : (A = [] ∨ B = []) ∧ d = 0 ∨ (A ≠ [] ∧ ∃ q C, B = q :: C ∧ d = q.2.1 + q.2.2 - 1)) :
    Gk (A ++ (x, 1, d) :: B) (V ++ [x]) := by
  obtain ⟨p1, p2, p3⟩ := List.pairwise_append.1 h.srt
  have hup : ∀ z, upC (V ++ [x]) z = upC V z + if x ≤ z then 1 else 0 := fun z => by rw [upC_append, upC_one]
  have hd0 : 0 ≤ d := by
    rcases hd with ⟨_, h0⟩ | ⟨_, q, C, rfl, h0⟩
    · omega
    · have := h.pos q (by simp); omega
  refine ⟨?_, ?_, ?_, ?_, ?_, ?_⟩
  · refine List.pairwise_append.2 ⟨p1, List.pairwise_cons.2 ⟨fun t ht => Int.le_of_lt (hB t ht), p2⟩, fun s hs t ht => ?_⟩
    rcases List.mem_cons.1 ht with rfl | ht
    · exact hA s hs
    · exact p3 s hs t ht
  · intro t ht
    rcases List.mem_append.1 ht with ht | ht
    · exact h.pos t (by simp [ht])
    · rcases List.mem_cons.1 ht with rfl | ht
      · exact ⟨Int.le_refl _, hd0⟩
      · exact h.pos t (by simp [ht])
  · have := h.sum
    rw [sg_append] at this ⊢
    rw [sg_cons, List.length_append]
    simp
    omega
  · intro A' t B' e
    rcases append_cons_cases e.symm with ⟨C, rfl, rfl⟩ | ⟨rfl, rfl, rfl⟩ | ⟨C, rfl, rfl⟩
    · obtain ⟨r, h1, h2, h3, h4⟩ := h.plc A' t (C ++ B) (by simp)
      have ht := hA t (by simp)
      refine ⟨r, h1, h2, ?_, ?_⟩
      · rw [hup, if_neg (by omega)]; omega
      · rw [hup]; split <;> omega
    · refine ⟨upC V x + 1, ?_, ?_, ?_, ?_⟩
      · have := h.ahead hA
        show sg A' + 1 ≤ _
        omega
      · show _ ≤ sg A' + 1 + d
        rcases hd with ⟨hh, hz⟩ | ⟨hne, q, C, rfl, hz⟩
        · rcases hh with rfl | rfl
          · cases B' with
            | nil =>
              have h1 := h.sum
              have h2 := upC_le V x
              rw [sg_nil] at *
              simp only [List.nil_append] at h1
              rw [sg_nil] at h1
              omega
            | cons q C =>
              have h1 := h.fst q C rfl
              have h2 := h.behind (A := []) (x := x) (by have := hB q (by simp); omega)
              rw [sg_nil] at h2 ⊢
              omega
          · have h1 := h.sum
            have h2 := upC_le V x
            rw [List.append_nil] at h1
            omega
        · have h2 := h.behind (x := x) (by have := hB q (by simp); omega)
          omega
      · show upC _ (x - 1) < _
        rw [hup, if_neg (by omega)]
        have := upC_mono (V := V) (show x - 1 ≤ x by omega)
        omega
      · show _ ≤ upC _ x
        rw [hup, if_pos (Int.le_refl _)]
        exact Int.le_refl _
    · obtain ⟨r, h1, h2, h3, h4⟩ := h.plc (A ++ C) t B' (by simp)
      have ht := hB t (by simp)
      refine ⟨r + 1, ?_, ?_, ?_, ?_⟩
      · rw [sg_append] at h1 ⊢; rw [sg_cons]; dsimp only; omega
      · rw [sg_append] at h2 ⊢; rw [sg_cons]; dsimp only; omega
      · rw [hup, if_pos (by omega)]; omega
      · rw [hup, if_pos (by omega)]; omega
  · intro t B' e
    cases A with
    | nil =>
      simp only [List.nil_append, List.cons.injEq] at e
      obtain ⟨rfl, rfl⟩ := e
      rcases hd with ⟨_, hz⟩ | ⟨hne, _⟩
      · exact ⟨rfl, hz⟩
      · exact absurd rfl hne
    | cons u A =>
      simp only [List.cons_append, List.cons.injEq] at e
      obtain ⟨rfl, _⟩ := e
      exact h.fst _ (A ++ B) rfl
  · intro A' t e
    rcases eq_nil_or_snoc B with rfl | ⟨C, z, rfl⟩
    · have e2 := List.append_inj_right' e rfl
      simp only [List.cons.injEq, and_true] at e2
      subst e2
      rcases hd with ⟨_, hz⟩ | ⟨_, q, C, hC, _⟩
      · exact hz
      · cases hC
    · have e2 : (A ++ (x, 1, d) :: C) ++ [z] = A' ++ [t] := by rw [← e]; simp
      have e3 := List.append_inj_right' e2 rfl
      simp only [List.cons.injEq, and_true] at e3
      subst e3
      exact h.lst (A ++ C) z (by simp)
theorem Gk.join (h : Gk (A ++ p :: q :: B) V) (hA : A ≠ []) : Gk (A ++ (q.1, p.2.1 + q.2.1, q.2.2) :: B) V := by
  obtain ⟨p1, p2, p3⟩ := List.pairwise_append.1 h.srt
  obtain ⟨p4, p5⟩ := List.pairwise_cons.1 p2
  obtain ⟨p6, p7⟩ := List.pairwise_cons.1 p5
  have hp := h.pos p (by simp)
  have hq := h.pos q (by simp)
  refine ⟨?_, ?_, ?_, ?_, ?_, ?_⟩
  · refine List.pairwise_append.2 ⟨p1, List.pairwise_cons.2 ⟨p6, p7⟩, fun s hs t ht => ?_⟩
    rcases List.mem_cons.1 ht with rfl | ht
    · exact p3 s hs q (by simp)
    · exact p3 s hs t (by simp [ht])
  · intro t ht
    rcases List.mem_append.1 ht with ht | ht
    · exact h.pos t (by simp [ht])
    · rcases List.mem_cons.1 ht with rfl | ht
      · exact ⟨by show 1 ≤ p.2.1 + q.2.1; omega, hq.2⟩
      · exact h.pos t (by simp [ht])
  · have := h.sum
    rw [sg_append, sg_cons, sg_cons] at this
    rw [sg_append, sg_cons]
    dsimp only
    omega
  · intro A' t B' e
    rcases append_cons_cases e.symm with ⟨C, rfl, rfl⟩ | ⟨rfl, rfl, rfl⟩ | ⟨C, rfl, rfl⟩
    · exact h.plc A' t (C ++ p :: q :: B) (by simp)
    · obtain ⟨r, h1, h2, h3, h4⟩ := h.plc (A' ++ [p]) q B' (by simp)
      rw [sg_append, sg_cons, sg_nil] at h1 h2
      exact ⟨r, by dsimp only; omega, by dsimp only; omega, h3, h4⟩
    · obtain ⟨r, h1, h2, h3, h4⟩ := h.plc (A ++ p :: q :: C) t B' (by simp)
      rw [sg_append, sg_cons, sg_cons] at h1 h2
      refine ⟨r, ?_, ?_, h3, h4⟩
      · rw [sg_append, sg_cons]; dsimp only; omega
      · rw [sg_append, sg_cons]; dsimp only; omega
  · intro t B' e
    cases A with
    | nil => exact absurd rfl hA
    | cons u A =>
      simp only [List.cons_append, List.cons.injEq] at e
      obtain ⟨rfl, _⟩ := e
      exact h.fst _ _ rfl
  · intro A' t e
    rcases eq_nil_or_snoc B with rfl | ⟨C, z, rfl⟩
    · have e2 := List.append_inj_right' e rfl
      simp only [List.cons.injEq, and_true] at e2
      subst e2
      exact h.lst (A ++ [p]) q (by simp)
    · have e2 : (A ++ (q.1, p.2.1 + q.2.1, q.2.2) :: C) ++ [z] = A' ++ [t] := by rw [← e]; simp
      have e3 := List.append_inj_right' e2 rfl
      simp only [List.cons.injEq, and_true] at e3
      subst e3
      exact h.lst (A ++ p :: q :: C) z (by simp)
end
end Go.Proofs.YtlbnlmhcpephbaaGreatDoor

namespace Go.Proofs.YtlbnlmhcpephbaaGreatDoor
def exA (b : List Tu) (x : Int) : Int := match b.dropWhile (fun t => decide (t.1 < x)) with
 | [] => 0
 | q :: _ => q.2.1 + q.2.2 - 1
def exB (a : List Tu) (x : Int) : Int := match a.dropWhile (fun t => decide (t.1 ≤ x)) with
 | [] => 0
 | q :: _ => q.2.1 + q.2.2 - 1
def partA (a b : List Tu) : List Tu := a.map fun p => (p.1, p.2.1, p.2.2 + exA b p.1)
def partB (b a : List Tu) : List Tu := b.map fun p => (p.1, p.2.1, p.2.2 + exB a p.1)
def mergeR : List Tu → List Tu → List Tu
 | [], s => s
 | f, [] => f
 | p :: f, q :: s => if p.1 ≤ q.1 then p :: mergeR f (q :: s) else q :: mergeR (p :: f) s
termination_by f s => f.length + s.length
theorem mergeR_nil_left (s : List Tu) : mergeR [] s = s := by unfold mergeR; rfl
theorem mergeR_nil_right (f : List Tu) : mergeR f [] = f := by cases f <;> (unfold mergeR; rfl)
theorem mergeR_cons (p q : Tu) (f s : List Tu) : mergeR (p :: f) (q :: s) = if p.1 ≤ q.1 then p :: mergeR f (q :: s) else q :: mergeR (p :: f) s := by
 conv => lhs; unfold mergeR
theorem mergeR_left {p q : Tu} {f s : List Tu} (h : p.1 ≤ q.1) : mergeR (p :: f) (q :: s) = p :: mergeR f (q :: s) := by rw [mergeR_cons, if_pos h]
theorem mergeR_right {p q : Tu} {f s : List Tu} (h : ¬ p.1 ≤ q.1) : mergeR (p :: f) (q :: s) = q :: mergeR (p :: f) s := by rw [mergeR_cons, if_neg h]
theorem mergeR_len : ∀ (n : Nat) (f s : List Tu), f.length + s.length ≤ n → (mergeR f s).length = f.length + s.length
  | _, [], s, _ => by rw [mergeR_nil_left]; simp
  | _, p :: f, [], _ => by rw [mergeR_nil_right]; simp
  | 0, p :: f, q :: s, h => by simp at h
  | n + 1, p :: f, q :: s, h => by
    simp only [List.length_cons] at h
    by_cases hpq : p.1 ≤ q.1
    · rw [mergeR_left hpq, List.length_cons, mergeR_len n f (q :: s) (by simp only [List.length_cons]; omega)]
      simp only [List.length_cons]; omega
    · rw [mergeR_right hpq, List.length_cons, mergeR_len n (p :: f) s (by simp only [List.length_cons]; omega)]
      simp only [List.length_cons]; omega
theorem mergeR_mem : ∀ (n : Nat) (f s : List Tu), f.length + s.length ≤ n → ∀ t ∈ mergeR f s, t ∈ f ∨ t ∈ s
  | _, [], s, _, t, ht => by rw [mergeR_nil_left] at ht; exact .inr ht
  | _, p :: f, [], _, t, ht => by rw [mergeR_nil_right] at ht; exact .inl ht
  | 0, p :: f, q :: s, h, _, _ => by simp at h
  | n + 1, p :: f, q :: s, h, t, ht => by
    simp only [List.length_cons] at h
    by_cases hpq : p.1 ≤ q.1
    · rw [mergeR_left hpq] at ht
      rcases List.mem_cons.1 ht with rfl | ht
      · exact .inl (by simp)
      · rcases mergeR_mem n f (q :: s) (by simp only [List.length_cons]; omega) t ht with h1 | h1
        · exact .inl (by simp [h1])
        · exact .inr h1
    · rw [mergeR_right hpq] at ht
      rcases List.mem_cons.1 ht with rfl | ht
      · exact .inr (by simp)
      · rcases mergeR_mem n (p :: f) s (by simp only [List.length_cons]; omega) t ht with h1 | h1
        · exact .inl h1
        · exact .inr (by simp [h1])
abbrev Srt (l : List Tu) : Prop := l.Pairwise fun a b => a.1 ≤ b.1
theorem mergeR_srt : ∀ (n : Nat) (f s : List Tu), f.length + s.length ≤ n → Srt f → Srt s → Srt (mergeR f s)
  | _, [], s, _, _, h => by rw [mergeR_nil_left]; exact h
  | _, p :: f, [], _, h, _ => by rw [mergeR_nil_right]; exact h
  | 0, p :: f, q :: s, h, _, _ => by simp at h
  | n + 1, p :: f, q :: s, h, hf, hs => by
    simp only [List.length_cons] at h
    obtain ⟨f1, f2⟩ := List.pairwise_cons.1 hf
    obtain ⟨s1, s2⟩ := List.pairwise_cons.1 hs
    by_cases hpq : p.1 ≤ q.1
    · rw [mergeR_left hpq]
      refine List.pairwise_cons.2 ⟨fun t ht => ?_, mergeR_srt n f (q :: s) (by simp only [List.length_cons]; omega) f2 hs⟩
      rcases mergeR_mem n f (q :: s) (by simp only [List.length_cons]; omega) t ht with h1 | h1
      · exact f1 t h1
      · rcases List.mem_cons.1 h1 with rfl | h1
        · exact hpq
        · exact Int.le_trans hpq (s1 t h1)
    · rw [mergeR_right hpq]
      refine List.pairwise_cons.2 ⟨fun t ht => ?_, mergeR_srt n (p :: f) s (by simp only [List.length_cons]; omega) hf s2⟩
      rcases mergeR_mem n (p :: f) s (by simp only [List.length_cons]; omega) t ht with h1 | h1
      · rcases List.mem_cons.1 h1 with rfl | h1
        · omega
        · have := f1 t h1; omega
      · exact s1 t h1
theorem mergeR_sg : ∀ (n : Nat) (f s : List Tu), f.length + s.length ≤ n → sg (mergeR f s) = sg f + sg s
  | _, [], s, _ => by rw [mergeR_nil_left, sg_nil]; omega
  | _, p :: f, [], _ => by rw [mergeR_nil_right, sg_nil]; omega
  | 0, p :: f, q :: s, h => by simp at h
  | n + 1, p :: f, q :: s, h => by
    simp only [List.length_cons] at h
    by_cases hpq : p.1 ≤ q.1
    · rw [mergeR_left hpq, sg_cons, mergeR_sg n f (q :: s) (by simp only [List.length_cons]; omega), sg_cons, sg_cons]; omega
    · rw [mergeR_right hpq, sg_cons, mergeR_sg n (p :: f) s (by simp only [List.length_cons]; omega), sg_cons, sg_cons]; omega
theorem mergeR_split : ∀ (n : Nat) (f s : List Tu), f.length + s.length ≤ n → Srt f → Srt s → ∀ A t B, mergeR f s = A ++ t :: B →
    (∃ F G, f = F ++ t :: G ∧ sg A = sg F + sg (s.takeWhile fun u => decide (u.1 < t.1))) ∨ (∃ F G, s = F ++ t :: G ∧ sg A = sg F + sg (f.takeWhile fun u => decide (u.1 ≤ t.1)))
  | _, [], s, _, _, _, A, t, B, e => by
    rw [mergeR_nil_left] at e
    exact .inr ⟨A, B, e, by simp [sg_nil]⟩
  | _, p :: f, [], _, _, _, A, t, B, e => by
    rw [mergeR_nil_right] at e
    exact .inl ⟨A, B, e, by simp [sg_nil]⟩
  | 0, p :: f, q :: s, h, _, _, _, _, _, _ => by simp at h
  | n + 1, p :: f, q :: s, h, hf, hs, A, t, B, e => by
    simp only [List.length_cons] at h
    obtain ⟨f1, f2⟩ := List.pairwise_cons.1 hf
    obtain ⟨s1, s2⟩ := List.pairwise_cons.1 hs
    by_cases hpq : p.1 ≤ q.1
    · rw [mergeR_left hpq] at e
      cases A with
      | nil =>
        simp only [List.nil_append, List.cons.injEq] at e
        obtain ⟨rfl, _⟩ := e
        refine .inl ⟨[], f, rfl, ?_⟩
        rw [List.takeWhile_cons, if_neg (by simp; omega), sg_nil]; rfl
      | cons u A =>
        simp only [List.cons_append, List.cons.injEq] at e
        obtain ⟨rfl, e⟩ := e
        rcases mergeR_split n f (q :: s) (by simp only [List.length_cons]; omega) f2 hs A t B e with ⟨F, G, h1, h2⟩ | ⟨F, G, h1, h2⟩
        · exact .inl ⟨p :: F, G, by rw [h1]; rfl, by rw [sg_cons, sg_cons, h2]; omega⟩
        · refine .inr ⟨F, G, h1, ?_⟩
          have ht : t ∈ q :: s := by rw [h1]; simp
          have hpt : p.1 ≤ t.1 := by
            rcases List.mem_cons.1 ht with rfl | ht
            · exact hpq
            · exact Int.le_trans hpq (s1 t ht)
          rw [List.takeWhile_cons, if_pos (by simpa using hpt), sg_cons, sg_cons, h2]; omega
    · rw [mergeR_right hpq] at e
      cases A with
      | nil =>
        simp only [List.nil_append, List.cons.injEq] at e
        obtain ⟨rfl, _⟩ := e
        refine .inr ⟨[], s, rfl, ?_⟩
        rw [List.takeWhile_cons, if_neg (by simp; omega), sg_nil]; rfl
      | cons u A =>
        simp only [List.cons_append, List.cons.injEq] at e
        obtain ⟨rfl, e⟩ := e
        rcases mergeR_split n (p :: f) s (by simp only [List.length_cons]; omega) hf s2 A t B e with ⟨F, G, h1, h2⟩ | ⟨F, G, h1, h2⟩
        · refine .inl ⟨F, G, h1, ?_⟩
          have ht : t ∈ p :: f := by rw [h1]; simp
          have hqt : q.1 < t.1 := by
            rcases List.mem_cons.1 ht with rfl | ht
            · omega
            · have := f1 t ht; omega
          rw [List.takeWhile_cons, if_pos (by simpa using hqt), sg_cons, sg_cons, h2]; omega
        · exact .inr ⟨q :: F, G, by rw [h1]; rfl, by rw [sg_cons, sg_cons, h2]; omega⟩
theorem sg_map (row : List Tu) (f : Tu → Int) : sg (row.map fun p => (p.1, p.2.1, f p)) = sg row := by unfold sg; rw [List.map_map]; rfl
theorem takeWhile_map (row : List Tu) (f : Tu → Int) (P : Int → Bool) : ((row.map fun p => (p.1, p.2.1, f p)).takeWhile fun u => P u.1) = (row.takeWhile fun u => P u.1).map fun p => (p.1, p.2.1, f p) := by
 rw [List.takeWhile_map]
 rfl
theorem split_at_lt (b : List Tu) (hb : Srt b) (x : Int) : (∀ t ∈ b.takeWhile (fun t => decide (t.1 < x)), t.1 ≤ x - 1) ∧ (∀ t ∈ b.dropWhile (fun t => decide (t.1 < x)), x ≤ t.1) := by
  constructor
  · intro t ht
    have := List.all_eq_true.1 (List.all_takeWhile (p := fun t : Tu => decide (t.1 < x)) (l := b)) t ht
    simp at this
    omega
  · intro t ht
    have hs : Srt (b.dropWhile fun t => decide (t.1 < x)) := hb.sublist (List.dropWhile_sublist _)
    cases hd : b.dropWhile (fun t => decide (t.1 < x)) with
    | nil => rw [hd] at ht; simp at ht
    | cons q C =>
      have hq : ¬ q.1 < x := by
        have := List.head?_dropWhile_not (fun t : Tu => decide (t.1 < x)) b
        rw [hd] at this
        simpa using this
      rw [hd] at ht hs
      rcases List.mem_cons.1 ht with rfl | ht
      · omega
      · have := (List.pairwise_cons.1 hs).1 t ht; omega
theorem split_at_le (a : List Tu) (ha : Srt a) (x : Int) : (∀ t ∈ a.takeWhile (fun t => decide (t.1 ≤ x)), t.1 ≤ x) ∧ (∀ t ∈ a.dropWhile (fun t => decide (t.1 ≤ x)), x + 1 ≤ t.1) := by
  constructor
  · intro t ht
    have := List.all_eq_true.1 (List.all_takeWhile (p := fun t : Tu => decide (t.1 ≤ x)) (l := a)) t ht
    simpa using this
  · intro t ht
    have hs : Srt (a.dropWhile fun t => decide (t.1 ≤ x)) := ha.sublist (List.dropWhile_sublist _)
    cases hd : a.dropWhile (fun t => decide (t.1 ≤ x)) with
    | nil => rw [hd] at ht; simp at ht
    | cons q C =>
      have hq : ¬ q.1 ≤ x := by
        have := List.head?_dropWhile_not (fun t : Tu => decide (t.1 ≤ x)) a
        rw [hd] at this
        simpa using this
      rw [hd] at ht hs
      rcases List.mem_cons.1 ht with rfl | ht
      · omega
      · have := (List.pairwise_cons.1 hs).1 t ht; omega
section
variable {a b : List Tu} {Va Vb : List Int} {L La Lb : Int}
theorem Gk.cutA (h : Gk b Vb) (x : Int) : 0 ≤ exA b x ∧ sg (b.takeWhile fun t => decide (t.1 < x)) ≤ upC Vb (x - 1) ∧ upC Vb (x - 1) ≤ sg (b.takeWhile fun t => decide (t.1 < x)) + exA b x := by
  obtain ⟨h1, h2⟩ := split_at_lt b h.srt x
  have hb := List.takeWhile_append_dropWhile (p := fun t : Tu => decide (t.1 < x)) (l := b)
  have h' := h
  rw [← hb] at h'
  refine ⟨?_, h'.ahead h1, ?_⟩
  · unfold exA
    cases hd : b.dropWhile (fun t => decide (t.1 < x)) with
    | nil => exact Int.le_refl _
    | cons q C =>
      have := h.pos q (by rw [← hb, hd]; simp)
      show 0 ≤ q.2.1 + q.2.2 - 1
      omega
  · unfold exA
    cases hd : b.dropWhile (fun t => decide (t.1 < x)) with
    | nil =>
      rw [hd, List.append_nil] at h' hb
      have h3 := h'.sum
      have h4 := upC_le Vb (x - 1)
      dsimp only
      omega
    | cons q C =>
      rw [hd] at h' h2
      have h3 := h'.behind (x := x - 1) (by have := h2 q (by simp); omega)
      dsimp only
      omega
theorem Gk.cutB (h : Gk a Va) (x : Int) : 0 ≤ exB a x ∧ sg (a.takeWhile fun t => decide (t.1 ≤ x)) ≤ upC Va x ∧ upC Va x ≤ sg (a.takeWhile fun t => decide (t.1 ≤ x)) + exB a x := by
  obtain ⟨h1, h2⟩ := split_at_le a h.srt x
  have hb := List.takeWhile_append_dropWhile (p := fun t : Tu => decide (t.1 ≤ x)) (l := a)
  have h' := h
  rw [← hb] at h'
  refine ⟨?_, h'.ahead h1, ?_⟩
  · unfold exB
    cases hd : a.dropWhile (fun t => decide (t.1 ≤ x)) with
    | nil => exact Int.le_refl _
    | cons q C =>
      have := h.pos q (by rw [← hb, hd]; simp)
      show 0 ≤ q.2.1 + q.2.2 - 1
      omega
  · unfold exB
    cases hd : a.dropWhile (fun t => decide (t.1 ≤ x)) with
    | nil =>
      rw [hd, List.append_nil] at h' hb
      have h3 := h'.sum
      have h4 := upC_le Va x
      dsimp only
      omega
    | cons q C =>
      rw [hd] at h' h2
      have h3 := h'.behind (x := x) (by have := h2 q (by simp); omega)
      dsimp only
      omega
theorem map_split {f : Tu → Tu} {row F G : List Tu} {t : Tu} (h : row.map f = F ++ t :: G) : ∃ r1 p r2, row = r1 ++ p :: r2 ∧ F = r1.map f ∧ t = f p ∧ G = r2.map f := by
 obtain ⟨r1, r', e, h1, h2⟩ := List.map_eq_append_iff.1 h
 obtain ⟨p, r2, e2, h3, h4⟩ := List.map_eq_cons_iff.1 h2
 exact ⟨r1, p, r2, by rw [e, e2], h1.symm, h3.symm, h4.symm⟩
theorem srt_map {row : List Tu} {f : Tu → Int} (h : Srt row) : Srt (row.map fun p => (p.1, p.2.1, f p)) := List.pairwise_map.2 h
theorem Gk.merge (ha : Gk a Va) (hb : Gk b Vb) : Gk (mergeR (partA a b) (partB b a)) (Va ++ Vb) := by
  have sa : Srt (partA a b) := srt_map ha.srt
  have sb : Srt (partB b a) := srt_map hb.srt
  have ga : sg (partA a b) = sg a := sg_map _ _
  have gb : sg (partB b a) = sg b := sg_map _ _
  have pa : ∀ t ∈ partA a b, 1 ≤ t.2.1 ∧ 0 ≤ t.2.2 := fun t ht => by
    obtain ⟨p, hp, rfl⟩ := List.mem_map.1 ht
    have := ha.pos p hp
    have := (hb.cutA p.1).1
    exact ⟨by dsimp only; omega, by dsimp only; omega⟩
  have pb : ∀ t ∈ partB b a, 1 ≤ t.2.1 ∧ 0 ≤ t.2.2 := fun t ht => by
    obtain ⟨p, hp, rfl⟩ := List.mem_map.1 ht
    have := hb.pos p hp
    have := (ha.cutB p.1).1
    exact ⟨by dsimp only; omega, by dsimp only; omega⟩
  have hsum : sg (mergeR (partA a b) (partB b a)) = sg a + sg b := by rw [mergeR_sg _ _ _ (Nat.le_refl _), ga, gb]
  have twB : ∀ x, sg ((partB b a).takeWhile fun u => decide (u.1 < x)) = sg (b.takeWhile fun u => decide (u.1 < x)) := fun x => by
    unfold partB
    rw [takeWhile_map b _ fun z => decide (z < x), sg_map]
  have twA : ∀ x, sg ((partA a b).takeWhile fun u => decide (u.1 ≤ x)) = sg (a.takeWhile fun u => decide (u.1 ≤ x)) := fun x => by
    unfold partA
    rw [takeWhile_map a _ fun z => decide (z ≤ x), sg_map]
  have spl : ∀ A t B, mergeR (partA a b) (partB b a) = A ++ t :: B →
      (∃ a1 p a2, a = a1 ++ p :: a2 ∧ t = (p.1, p.2.1, p.2.2 + exA b p.1) ∧ sg A = sg a1 + sg (b.takeWhile fun u => decide (u.1 < p.1))) ∨
      (∃ b1 p b2, b = b1 ++ p :: b2 ∧ t = (p.1, p.2.1, p.2.2 + exB a p.1) ∧ sg A = sg b1 + sg (a.takeWhile fun u => decide (u.1 ≤ p.1))) := fun A t B e => by
    rcases mergeR_split _ _ _ (Nat.le_refl _) sa sb A t B e with ⟨F, G, h1, h2⟩ | ⟨F, G, h1, h2⟩
    · obtain ⟨a1, p, a2, rfl, rfl, rfl, _⟩ := map_split h1
      refine .inl ⟨a1, p, a2, rfl, rfl, ?_⟩
      rw [h2, twB, sg_map]
    · obtain ⟨b1, p, b2, rfl, rfl, rfl, _⟩ := map_split h1
      refine .inr ⟨b1, p, b2, rfl, rfl, ?_⟩
      rw [h2, twA, sg_map]
  refine ⟨mergeR_srt _ _ _ (Nat.le_refl _) sa sb, fun t ht => ?_, ?_, fun A t B e => ?_, fun t B e => ?_, fun A t e => ?_⟩
  · rcases mergeR_mem _ _ _ (Nat.le_refl _) t ht with h | h
    · exact pa t h
    · exact pb t h
  · rw [hsum, ha.sum, hb.sum, List.length_append]; omega
  · rcases spl A t B e with ⟨a1, p, a2, rfl, rfl, hA⟩ | ⟨b1, p, b2, rfl, rfl, hA⟩
    · obtain ⟨r, r1, r2, r3, r4⟩ := ha.plc a1 p a2 rfl
      obtain ⟨c0, c1, c2⟩ := hb.cutA p.1
      refine ⟨r + upC Vb (p.1 - 1), ?_, ?_, ?_, ?_⟩
      · dsimp only; omega
      · dsimp only; omega
      · rw [upC_append]; dsimp only; omega
      · rw [upC_append]
        have := upC_mono (V := Vb) (show p.1 - 1 ≤ p.1 by omega)
        dsimp only; omega
    · obtain ⟨r, r1, r2, r3, r4⟩ := hb.plc b1 p b2 rfl
      obtain ⟨c0, c1, c2⟩ := ha.cutB p.1
      refine ⟨r + upC Va p.1, ?_, ?_, ?_, ?_⟩
      · dsimp only; omega
      · dsimp only; omega
      · rw [upC_append]
        have := upC_mono (V := Va) (show p.1 - 1 ≤ p.1 by omega)
        dsimp only; omega
      · rw [upC_append]; dsimp only; omega
  · -- the first one
    have hsame : ∀ (c : List Tu) (Vc : List Int), Gk c Vc → ∀ (c1 c2 : List Tu) (p : Tu), c = c1 ++ p :: c2 → sg c1 = 0 → p.2.1 = 1 ∧ p.2.2 = 0 := fun c Vc hc c1 c2 p e2 h0 => by
      cases c1 with
      | nil => exact hc.fst p c2 e2
      | cons u c1 =>
        have h1 := sg_nn (row := u :: c1) fun z hz => hc.pos z (by rw [e2]; exact List.mem_append.2 (.inl hz))
        rw [h0, List.length_cons] at h1
        omega
    have hex : ∀ (c : List Tu) (Vc : List Int) (P : Tu → Bool), Gk c Vc → sg (c.takeWhile P) ≤ 0 → c.dropWhile P = [] ∨ ∃ q C, c.dropWhile P = q :: C ∧ q.2.1 + q.2.2 - 1 = 0 := fun c Vc P hc h0 => by
      have hb' := List.takeWhile_append_dropWhile (p := P) (l := c)
      cases hd : c.dropWhile P with
      | nil => exact .inl rfl
      | cons q C =>
        right
        refine ⟨q, C, rfl, ?_⟩
        have h1 := sg_nn (row := c.takeWhile P) fun z hz => hc.pos z (List.takeWhile_sublist (p := P) (l := c) |>.subset hz)
        have h2 : c.takeWhile P = [] := List.eq_nil_of_length_eq_zero (by omega)
        rw [h2, hd, List.nil_append] at hb'
        have := hc.fst q C hb'.symm
        omega
    have e' : mergeR (partA a b) (partB b a) = [] ++ t :: B := e
    rcases spl [] t B e' with ⟨a1, p, a2, h1, rfl, hA⟩ | ⟨b1, p, b2, h1, rfl, hA⟩
    · have n1 := sg_nn (row := a1) fun z hz => ha.pos z (by rw [h1]; simp [hz])
      have n2 := sg_nn (row := b.takeWhile fun u => decide (u.1 < p.1)) fun z hz => hb.pos z (List.takeWhile_sublist (p := fun u : Tu => decide (u.1 < p.1)) (l := b) |>.subset hz)
      rw [sg_nil] at hA
      obtain ⟨k1, k2⟩ := hsame a Va ha a1 a2 p h1 (by omega)
      refine ⟨k1, ?_⟩
      show p.2.2 + exA b p.1 = 0
      unfold exA
      rcases hex b Vb (fun u => decide (u.1 < p.1)) hb (by omega) with h | ⟨q, C, h, hq⟩
      · rw [h]; dsimp only; omega
      · rw [h]; dsimp only; omega
    · have n1 := sg_nn (row := b1) fun z hz => hb.pos z (by rw [h1]; simp [hz])
      have n2 := sg_nn (row := a.takeWhile fun u => decide (u.1 ≤ p.1)) fun z hz => ha.pos z (List.takeWhile_sublist (p := fun u : Tu => decide (u.1 ≤ p.1)) (l := a) |>.subset hz)
      rw [sg_nil] at hA
      obtain ⟨k1, k2⟩ := hsame b Vb hb b1 b2 p h1 (by omega)
      refine ⟨k1, ?_⟩
      show p.2.2 + exB a p.1 = 0
      unfold exB
      rcases hex a Va (fun u => decide (u.1 ≤ p.1)) ha (by omega) with h | ⟨q, C, h, hq⟩
      · rw [h]; dsimp only; omega
      · rw [h]; dsimp only; omega
  · -- the last one
    have hlast : ∀ (c : List Tu) (Vc : List Int) (P : Tu → Bool), Gk c Vc → sg c ≤ sg (c.takeWhile P) → c.dropWhile P = [] := fun c Vc P hc h0 => by
      have hb' := List.takeWhile_append_dropWhile (p := P) (l := c)
      have h1 := sg_append (c.takeWhile P) (c.dropWhile P)
      rw [hb'] at h1
      have h2 := sg_nn (row := c.dropWhile P) fun z hz => hc.pos z (List.dropWhile_sublist (p := P) (l := c) |>.subset hz)
      exact List.eq_nil_of_length_eq_zero (by omega)
    have htot := hsum
    rw [e, sg_append, sg_cons, sg_nil] at htot
    rcases spl A t [] e with ⟨a1, p, a2, h1, rfl, hA⟩ | ⟨b1, p, b2, h1, rfl, hA⟩
    · have n1 := sg_nn (row := a2) fun z hz => ha.pos z (by rw [h1]; simp [hz])
      have ea : sg a = sg a1 + (p.2.1 + sg a2) := by rw [h1, sg_append, sg_cons]
      have hb' := sg_append (b.takeWhile fun u => decide (u.1 < p.1)) (b.dropWhile fun u => decide (u.1 < p.1))
      rw [List.takeWhile_append_dropWhile] at hb'
      have n2 := sg_nn (row := b.dropWhile fun u => decide (u.1 < p.1)) fun z hz => hb.pos z (List.dropWhile_sublist (p := fun u : Tu => decide (u.1 < p.1)) (l := b) |>.subset hz)
      dsimp only at htot
      have h2 : a2 = [] := List.eq_nil_of_length_eq_zero (by omega)
      subst h2
      have h3 := ha.lst a1 p h1
      have h4 := hlast b Vb (fun u => decide (u.1 < p.1)) hb (by omega)
      show p.2.2 + exA b p.1 = 0
      unfold exA
      rw [h4]; dsimp only; omega
    · have n1 := sg_nn (row := b2) fun z hz => hb.pos z (by rw [h1]; simp [hz])
      have ea : sg b = sg b1 + (p.2.1 + sg b2) := by rw [h1, sg_append, sg_cons]
      have hb' := sg_append (a.takeWhile fun u => decide (u.1 ≤ p.1)) (a.dropWhile fun u => decide (u.1 ≤ p.1))
      rw [List.takeWhile_append_dropWhile] at hb'
      have n2 := sg_nn (row := a.dropWhile fun u => decide (u.1 ≤ p.1)) fun z hz => ha.pos z (List.dropWhile_sublist (p := fun u : Tu => decide (u.1 ≤ p.1)) (l := a) |>.subset hz)
      dsimp only at htot
      have h2 : b2 = [] := List.eq_nil_of_length_eq_zero (by omega)
      subst h2
      have h3 := hb.lst b1 p h1
      have h4 := hlast a Va (fun u => decide (u.1 ≤ p.1)) ha (by omega)
      show p.2.2 + exB a p.1 = 0
      unfold exB
      rw [h4]; dsimp only; omega
def Lim (row : List Tu) (L : Int) : Prop := ∀ t ∈ row, t.2.1 + t.2.2 ≤ L
theorem Lim.merge (ha : Gk a Va) (hb : Gk b Vb) (la : Lim a La) (lb : Lim b Lb) (hL : La ≤ L) (hL' : Lb ≤ L) (h : a ≠ [] → b ≠ [] → La + Lb - 1 ≤ L) : Lim (mergeR (partA a b) (partB b a)) L := by
  intro t ht
  rcases mergeR_mem _ _ _ (Nat.le_refl _) t ht with h1 | h1
  · obtain ⟨p, hp, rfl⟩ := List.mem_map.1 h1
    have h2 := la p hp
    show p.2.1 + (p.2.2 + exA b p.1) ≤ L
    unfold exA
    cases hd : b.dropWhile (fun t => decide (t.1 < p.1)) with
    | nil => dsimp only; omega
    | cons q C =>
      have hq : q ∈ b := (List.dropWhile_sublist (p := fun u : Tu => decide (u.1 < p.1)) (l := b)).subset (by rw [hd]; simp)
      have h3 := lb q hq
      have h4 := h (List.ne_nil_of_mem hp) (List.ne_nil_of_mem hq)
      dsimp only; omega
  · obtain ⟨p, hp, rfl⟩ := List.mem_map.1 h1
    have h2 := lb p hp
    show p.2.1 + (p.2.2 + exB a p.1) ≤ L
    unfold exB
    cases hd : a.dropWhile (fun t => decide (t.1 ≤ p.1)) with
    | nil => dsimp only; omega
    | cons q C =>
      have hq : q ∈ a := (List.dropWhile_sublist (p := fun u : Tu => decide (u.1 ≤ p.1)) (l := a)).subset (by rw [hd]; simp)
      have h3 := la q hq
      have h4 := h (List.ne_nil_of_mem hq) (List.ne_nil_of_mem hp)
      dsimp only; omega
end
end Go.Proofs.YtlbnlmhcpephbaaGreatDoor

namespace Go.Proofs.YtlbnlmhcpephbaaGreatDoor
def offT (t least most : Int) : Int := max (max (t - least) 0) (max (most - t) 0)
section
variable {row : List Tu} {V : List Int} {L E t : Int}
theorem Gk.close (h : Gk row V) (hl : Lim row L) (hE : 0 ≤ E) (hL : L ≤ 2 * E + 1) (h1 : 1 ≤ t) (h2 : t ≤ V.length) :
    ∃ A u B, row = A ++ u :: B ∧ offT t (sg A + u.2.1) (sg A + u.2.1 + u.2.2) ≤ E := by
  have key : ∀ (B A : List Tu), row = A ++ B → (∀ A1 u A2, A = A1 ++ u :: A2 → sg A1 + u.2.1 + u.2.2 ≤ t + E) →
      ∃ A u B, row = A ++ u :: B ∧ offT t (sg A + u.2.1) (sg A + u.2.1 + u.2.2) ≤ E := by
    intro B
    induction B with
    | nil =>
      intro A e hA
      rw [List.append_nil] at e
      subst e
      rcases eq_nil_or_snoc row with h0 | ⟨C, z, h0⟩
      · have := h.sum
        rw [h0, sg_nil] at this
        omega
      · have hz := h.lst C z h0
        have hs := h.sum
        rw [h0, sg_append, sg_cons, sg_nil] at hs
        have h3 := hA C z [] (by rw [h0])
        refine ⟨C, z, [], by rw [h0], ?_⟩
        unfold offT
        omega
    | cons q B ih =>
      intro A e hA
      by_cases hq : sg A + q.2.1 + q.2.2 ≤ t + E
      · refine ih (A ++ [q]) (by rw [e]; simp) fun A1 u A2 e1 => ?_
        rcases eq_nil_or_snoc A2 with h0 | ⟨C, z, h0⟩
        · subst h0
          have e2 := List.append_inj' e1 rfl
          obtain ⟨rfl, e3⟩ := e2
          simp only [List.cons.injEq, and_true] at e3
          subst e3
          exact hq
        · subst h0
          have e2 : A ++ [q] = (A1 ++ u :: C) ++ [z] := by rw [e1]; simp
          obtain ⟨rfl, _⟩ := List.append_inj' e2 rfl
          exact hA A1 u C rfl
      · have hlq := hl q (by rw [e]; simp)
        rcases eq_nil_or_snoc A with h0 | ⟨C, z, h0⟩
        · subst h0
          have hf := h.fst q B (by rw [e]; rfl)
          rw [sg_nil] at hq
          omega
        · subst h0
          have h3 := hA C z [] rfl
          rw [sg_append, sg_cons, sg_nil] at hq
          refine ⟨C, z, q :: B, by rw [e]; simp, ?_⟩
          unfold offT
          omega
  exact key row [] rfl fun A1 u A2 e => by simp at e
def gapT (V : List Int) (x t : Int) : Int := if t < upC V (x - 1) + 1 then upC V (x - 1) + 1 - t else if upC V x < t then t - upC V x else 0
theorem Gk.gap (h : Gk row V) {A B : List Tu} {u : Tu} (e : row = A ++ u :: B) : upC V (u.1 - 1) < upC V u.1 ∧ gapT V u.1 t ≤ offT t (sg A + u.2.1) (sg A + u.2.1 + u.2.2) ∧ 0 ≤ gapT V u.1 t := by
 obtain ⟨r, h1, h2, h3, h4⟩ := h.plc A u B e
 unfold gapT offT
 refine ⟨by omega, ?_, ?_⟩
 ·split
  ·omega
  ·split <;> omega
 ·split
  ·omega
  ·split <;> omega
end
structure FindJ (row : List Tu) (t : Int) (k : Nat) (best x at' : Int) : Prop where
 at' : at' = sg (row.take k)
 least : ∀ A u B, row = A ++ u :: B → A.length < k → best ≤ offT t (sg A + u.2.1) (sg A + u.2.1 + u.2.2)
 is : 0 < k → ∃ A u B, row = A ++ u :: B ∧ A.length < k ∧ best = offT t (sg A + u.2.1) (sg A + u.2.1 + u.2.2) ∧ x = u.1
theorem FindJ.start (row : List Tu) (t : Int) : FindJ row t 0 0 0 0 := ⟨by simp [sg_nil], fun A u B _ h => by omega, fun h => by omega⟩
section
variable {row : List Tu} {t best x at' : Int} {k : Nat}
theorem take_split (hk : k < row.length) : row = row.take k ++ (row[k]'hk) :: row.drop (k + 1) ∧ row.take (k + 1) = row.take k ++ [row[k]'hk] :=
 ⟨by rw [← List.drop_eq_getElem_cons hk, List.take_append_drop], List.take_succ_eq_append_getElem hk⟩
theorem split_at_k {A B : List Tu} {u : Tu} (e : row = A ++ u :: B) (hA : A.length = k) (hk : k < row.length) : A = row.take k ∧ u = row[k]'hk := by
 subst e
 subst hA
 exact ⟨by simp, by simp⟩
theorem FindJ.better (h : FindJ row t k best x at') (hk : k < row.length) (hd : k = 0 ∨ offT t (at' + (row[k]'hk).2.1) (at' + (row[k]'hk).2.1 + (row[k]'hk).2.2) < best) :
  FindJ row t (k + 1) (offT t (at' + (row[k]'hk).2.1) (at' + (row[k]'hk).2.1 + (row[k]'hk).2.2)) (row[k]'hk).1 (at' + (row[k]'hk).2.1) := by
 obtain ⟨e1, e2⟩ := take_split hk
 have hat := h.at'
 refine ⟨by rw [e2, sg_append, sg_cons, sg_nil]; omega, fun A u B e hA => ?_, fun _ => ?_⟩
 ·by_cases hAk : A.length < k
  ·have h1 := h.least A u B e hAk
   rcases hd with h0 | h0 <;> omega
  ·obtain ⟨rfl, rfl⟩ := split_at_k e (by omega) hk
   rw [hat]
   exact Int.le_refl _
 ·refine ⟨row.take k, row[k]'hk, row.drop (k + 1), e1, by rw [List.length_take]; omega, ?_, rfl⟩
  rw [hat]
theorem FindJ.stay (h : FindJ row t k best x at') (hk : k < row.length) (h0 : 0 < k) (hd : best ≤ offT t (at' + (row[k]'hk).2.1) (at' + (row[k]'hk).2.1 + (row[k]'hk).2.2)) :
  FindJ row t (k + 1) best x (at' + (row[k]'hk).2.1) := by
 obtain ⟨e1, e2⟩ := take_split hk
 have hat := h.at'
 refine ⟨by rw [e2, sg_append, sg_cons, sg_nil]; omega, fun A u B e hA => ?_, fun _ => ?_⟩
 ·by_cases hAk : A.length < k
  ·exact h.least A u B e hAk
  ·obtain ⟨rfl, rfl⟩ := split_at_k e (by omega) hk
   rw [← hat]
   exact hd
 ·obtain ⟨A, u, B, e, hA, h1, h2⟩ := h.is h0
  exact ⟨A, u, B, e, by omega, h1, h2⟩
theorem FindJ.done {V : List Int} {L E : Int} (h : FindJ row t k best x at') (hk : k = row.length) (hg : Gk row V) (hl : Lim row L) (hE : 0 ≤ E) (hL : L ≤ 2 * E + 1) (h1 : 1 ≤ t) (h2 : t ≤ V.length) :
  upC V (x - 1) < upC V x ∧ 0 ≤ gapT V x t ∧ gapT V x t ≤ E := by
 obtain ⟨A, u, B, e, hc⟩ := hg.close hl hE hL h1 h2
 have hlen : A.length < k := by rw [hk, e]; simp
 have hb := h.least A u B e hlen
 obtain ⟨A', u', B', e', _, hb', rfl⟩ := h.is (by omega)
 obtain ⟨g1, g2, g3⟩ := hg.gap (t := t) e'
 exact ⟨g1, g3, by omega⟩
end
end Go.Proofs.YtlbnlmhcpephbaaGreatDoor
