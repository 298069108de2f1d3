/- Contracts of package logsk: Join, Reset. -/
import Derived.Test.YtondkkhagbcadaaGreatProg
import Derived.Test.YtondkkhagbcadaaGreatLs3
namespace Go.Proofs.YtondkkhagbcadaaGreat
open Go.RowKit

theorem lsjoin_nil (w : World) : Calls Tryz.prog 28 #[.pointer none, .pointer none] w fun e w' => e = .returned (.int .i64 2) ∧ w = w' := by
  go_enter Tryz.func28, Tryz.ntmps28
  go_wp2
  go_ret
  exact ⟨rfl, rfl⟩
theorem lsjoin_none (b : Nat) (w : World) : Calls Tryz.prog 28 #[.pointer (some ⟨b, 0, none⟩), .pointer none] w fun e w' => e = .returned (.int .i64 2) ∧ w = w' := by
  go_enter Tryz.func28, Tryz.ntmps28
  go_wp2
  go_ret
  exact ⟨rfl, rfl⟩
set_option maxRecDepth 100000 in
theorem lsjoin_match (b o : Nat) (x0 x5 x6 y0 y5 y6 : Value) (u v z m u' v' : Int) (w : World) (h : At w b #[x0, .int .u64 u, .int .u64 v, .int .i64 z, .int .i64 m, x5, x6] 86) (h' : At w o #[y0, .int .u64 u', .int .u64 v', .int .i64 z, .int .i64 m, y5, y6] 86) (hne : ¬ (u = u' ∧ v = v')) :
    Calls Tryz.prog 28 #[.pointer (some ⟨b, 0, none⟩), .pointer (some ⟨o, 0, none⟩)] w fun e w' => e = .returned (.int .i64 8) ∧ Below w.heap.size w w' := by
  by_cases hu : u = u'
  · have hv : (v == v') = false := beq_eq_false_iff_ne.2 fun e => hne ⟨hu, e⟩
    subst hu
    have hcd := fun w => conf_diff u v z m u v' w (fun e => hne ⟨rfl, e.2⟩)
    clear hne
    go_enter Tryz.func28, Tryz.ntmps28
    go_wp2
    have hfar1 := fun x : Far w => (x.at h).seven
    have hfar2 := fun x : Far w => (x.at h').seven
    refine wp_region_far (by kernel_rfl) (by kernel_rfl) ?_
    repeat (first | go_big_quiet_skip | (go_big_quiet_want; go_big_quiet_op; first | go_big_quiet_on | (apply Exists.intro; refine ⟨fun _ => ?_, ?_⟩; (focus (first | (fail))); go_big_quiet_on)))
    refine wpQuiet_nil ?_
    rintro _ ⟨xq, rfl⟩
    clear hfar1 hfar2
    have hb := xq.below
    clear h h'
    go_wp2
    go_ret
    exact ⟨rfl, hb⟩
  · have hu' : (u == u') = false := beq_eq_false_iff_ne.2 hu
    have hcd := fun w => conf_diff u v z m u' v' w hne
    clear hne hu
    go_enter Tryz.func28, Tryz.ntmps28
    go_wp2
    have hfar1 := fun x : Far w => (x.at h).seven
    have hfar2 := fun x : Far w => (x.at h').seven
    refine wp_region_far (by kernel_rfl) (by kernel_rfl) ?_
    repeat (first | go_big_quiet_skip | (go_big_quiet_want; go_big_quiet_op; first | go_big_quiet_on | (apply Exists.intro; refine ⟨fun _ => ?_, ?_⟩; (focus (first | (fail))); go_big_quiet_on)))
    refine wpQuiet_nil ?_
    rintro _ ⟨xq, rfl⟩
    clear hfar1 hfar2
    have hb := xq.below
    clear h h'
    go_wp2
    go_ret
    exact ⟨rfl, hb⟩
/-- One block; two blocks. -/
def SkW (o : Nat) (cs : Array Value) (W : World) : Prop := At W o cs 86
theorem SkW.at {o : Nat} {cs : Array Value} {W : World} (h : SkW o cs W) : At W o cs 86 := h
def SkW2 (b o : Nat) (cs cs' : Array Value) (W : World) : Prop := At W b cs 86 ∧ At W o cs' 86
theorem SkW2.at {b o : Nat} {cs cs' : Array Value} {W : World} (h : SkW2 b o cs cs' W) : At W b cs 86 ∧ At W o cs' 86 := h
set_option maxRecDepth 100000 in
set_option maxHeartbeats 4000000 in
theorem lsjoin_v (b o : Nat) (S T : List Nat) (part : Nat → Int) (rep : Int → Int) (u v : Int) (s : Bool) (most : Int) (l l' : List (Int × Int)) (w : World) (h : LsV w b S part rep u v s most l) (h' : LsV w o T part rep u v s most l') (hap : Apart S T) (hv : VOk l) (hv' : VOk l') (hs : sumP l + sumP l' ≤ 9223372036854775807) :
    Calls Tryz.prog 28 #[.pointer (some ⟨b, 0, none⟩), .pointer (some ⟨o, 0, none⟩)] w fun e w' => e = .returned (.int .i64 0) ∧ LpvR b S part rep u v s most (l ++ l') w w' ∧ LsV w' o T part rep u v s most l' := by
  have HSV := Lib.hid h
  have HTV := Lib.hid h'
  obtain ⟨bb, B, rfl, h⟩ := h
  obtain ⟨ob, T', rfl, h'⟩ := h'
  have HT := Lib.hid fun W (hb : Below w.heap.size w W) => btot_v ob T' false part rep s most l' W (h'.bn.below hb) hv'
  have HH := Lib.hid fun W (hb : Below w.heap.size w W) => And.intro (h.below hb) (h'.below hb)
  have HBO : Hid (b ≠ o ∧ b ∉ T' ∧ o ∉ B ∧ Apart B T') := ⟨fun e => hap b (by simp) (by simp [e]), fun hm => hap b (by simp) (by simp [hm]), fun hm => hap o (by simp [hm]) (by simp), fun j hj hm => hap j (by simp [hj]) (by simp [hm])⟩
  have HEN := Lib.hid fun (lo hi : Int) W k => lsend_any b bb B part rep u v s most l (eLow l) (eHigh l) lo hi W k hv
  have HMG := Lib.hid fun W (k : BnV W bb B false part rep s most l) (k' : BnV W ob T' false part rep s most l') => bmerge_v bb ob B T' false false part rep rep s most l l' W k k' HBO.out.2.2.2 hv hv' hs
  have HEA : Hid (l' ≠ [] → eLow (l ++ l') = (if sumP l = 0 then eLow l' else min (eLow l) (eLow l')) ∧ eHigh (l ++ l') = (if sumP l = 0 then eHigh l' else max (eHigh l) (eHigh l'))) := fun hn => eLow_app hv hn
  have HE0 := Lib.hid hv'.empty
  have s1 := h.at'
  have s2 := h'.at'
  have hcs := fun w => conf_same u v (sideZ s) most w
  obtain ⟨z, hz⟩ : ∃ z, sideZ s = z := ⟨_, rfl⟩
  have HZZ := Lib.hid hz
  rw [hz] at s1 s2 hcs
  obtain ⟨t, ht⟩ : ∃ t, sumP l' = t := ⟨_, rfl⟩
  rw [ht] at HT HE0
  have hA1 := Lib.hid fun W (hb : Below w.heap.size w W) => (s1.below hb)
  have hA2 := Lib.hid fun W (hb : Below w.heap.size w W) => (s2.below hb)
  clear h h' hap hv hv' hs hz ht
  go_enter Tryz.func28, Tryz.ntmps28
  go_wp2
  have hfar1 := fun x : Far w => (x.at s1).seven
  have hfar2 := fun x : Far w => (x.at s2).seven
  refine wp_region_far (by kernel_rfl) (by kernel_rfl) ?_
  repeat (first | go_big_quiet_skip | (go_big_quiet_want; go_big_quiet_op; first | go_big_quiet_on | (apply Exists.intro; refine ⟨fun _ => ?_, ?_⟩; (focus (first | (fail))); go_big_quiet_on)))
  refine wpQuiet_nil ?_
  rintro _ ⟨xq, rfl⟩
  clear hfar1 hfar2
  have HB1 : Hid (Below w.heap.size w xq.far) := xq.below
  obtain ⟨W1, hW1⟩ : ∃ W, xq.far = W := ⟨_, rfl⟩
  rw [hW1] at HB1 ⊢
  clear hW1 s1 s2
  have f1 := (hA2.out W1 HB1.out).seven
  have l1 := (hA2.out W1 HB1.out).lt
  go_wp2_with fail
  refine (HT.out W1 HB1.out).mono ?_
  rintro e w2 ⟨rfl, hb⟩
  have HB2 := Lib.hid (keep1 HB1.out hb)
  clear hb HT HB1 f1 l1
  by_cases h0 : t = 0
  · have hl : l' = [] := HE0.out.1 h0
    subst hl
    have hd : (t == 0) = true := beq_iff_eq.2 h0
    have HF : Hid (LpvR b (b :: B) part rep u v s most (l ++ []) w w2 ∧ LsV w2 o (o :: T') part rep u v s most []) := ⟨by rw [List.append_nil]; exact LpvR.same HSV.out HB2.out, HTV.out.below HB2.out⟩
    clear h0 HEN HMG HEA HE0 HH hA1 hA2 hcs HSV HTV
    go_wp2
    go_ret
    exact ⟨rfl, HF.out⟩
  have hl : l' ≠ [] := fun e => h0 (HE0.out.2 e)
  have hd : (t == 0) = false := beq_eq_false_iff_ne.2 h0
  have HEL := Lib.hid (HEA.out hl)
  clear hl h0 HEA HE0
  have s3 := hA1.out w2 HB2.out
  go_wp2
  have hfar1 := fun x : Far w2 => (x.at s3).seven
  refine wp_region_far (by kernel_rfl) (by kernel_rfl) ?_
  repeat (first | go_big_quiet_skip | (go_big_quiet_want; go_big_quiet_op; first | go_big_quiet_on | (apply Exists.intro; refine ⟨fun _ => ?_, ?_⟩; (focus (first | (fail))); go_big_quiet_on)))
  refine wpQuiet_nil ?_
  rintro _ ⟨xq, rfl⟩
  clear hfar1
  have HB3 : Hid (Below w.heap.size w xq.far) := keep1 HB2.out xq.below
  obtain ⟨W3, hW3⟩ : ∃ W, xq.far = W := ⟨_, rfl⟩
  rw [hW3] at HB3 ⊢
  clear hW3 s3 HB2 hd hcs
  -- the ends
  go_wp2
  have HB4 : Hid (Below w.heap.size w W3.drew) := keep1 HB3.out (Below.refl _ _).drew
  obtain ⟨W4, hW4⟩ : ∃ W, W3.drew = W := ⟨_, rfl⟩
  rw [hW4] at HB4
  have s4 := hA2.out W4 HB4.out
  obtain ⟨lo, hlo⟩ : ∃ z, eLow l' = z := ⟨_, rfl⟩
  obtain ⟨hi, hhi⟩ : ∃ z, eHigh l' = z := ⟨_, rfl⟩
  have HLO := Lib.hid (And.intro hlo hhi)
  rw [hlo, hhi] at s4 HEL
  clear hlo hhi
  haveI hne : Nonempty (Held (SkW o #[.pointer (some ⟨ob, 0, none⟩), .int .u64 u, .int .u64 v, .int .i64 z, .int .i64 most, .int .i64 lo, .int .i64 hi])) := ⟨⟨W4, s4⟩⟩
  have hfar := fun x : Held (SkW o #[.pointer (some ⟨ob, 0, none⟩), .int .u64 u, .int .u64 v, .int .i64 z, .int .i64 most, .int .i64 lo, .int .i64 hi]) => x.held.at.seven
  refine wp_region_noPanic ?_
  refine wp_region_held_drew (S := HeldS (SkW o #[.pointer (some ⟨ob, 0, none⟩), .int .u64 u, .int .u64 v, .int .i64 z, .int .i64 most, .int .i64 lo, .int .i64 hi])) (by kernel_rfl) (by rw [hW4]; exact HeldS.mk' s4) (fun hHeld => ?_)
  rw [hW4] at hHeld ⊢
  clear hW4
  refine wpAnyH_run0 [true, true, true, true, true, true, true, true, true] 1 (by kernel_rfl) (by kernel_rfl) (fun _ _ _ _ h => h) (by kernel_rfl) hHeld ?_
  simp only [runOps_true, runOps_false, runOps_nil]
  repeat (first | go_big_quiet_skip | (go_big_quiet_want; go_big_quiet_op; go_big_quiet_on))
  refine wpQuiet_nil ?_
  refine wpAnyH_ready (rs := [9]) (by kernel_rfl) (by simp) ?_
  refine AllReadyH.cons rfl (fun K hK => ?_) AllReadyH.nil
  go_simp
  go_wp2_with (go_at_call 47; refine (HEN.out lo hi W4 (HH.out W4 HB4.out).1).mono ?_; rintro e w5 ⟨rfl, hL, hF⟩)
  refine hK.out _ _ ?_ (fun hHeld => ?_)
  clear hK K
  · exact HeldS.mk' (hF.at s4 (by simp; exact fun e => HBO.out.1 e.symm))
  have s5 : At w5 o #[.pointer (some ⟨ob, 0, none⟩), .int .u64 u, .int .u64 v, .int .i64 z, .int .i64 most, .int .i64 lo, .int .i64 hi] 86 := hF.at s4 (by simp; exact fun e => HBO.out.1 e.symm)
  have HO5 := Lib.hid ((HH.out W4 HB4.out).2.frame hF (by simp; exact fun e => HBO.out.1 e.symm) (fun j hj hn => HBO.out.2.1 (by simp at hn; rwa [← hn])))
  have HL5 := Lib.hid hL
  have HF5 : Hid (Frame [b] w w5) := (Frame.of_below HB4.out).trans hF
  clear hL hF HEN HH HB4 HB3 s4
  refine wpAnyH_done (by kernel_rfl) ?_ _
  refine NoPanic.normal ?_
  clear hfar hne hHeld
  rw [← HEL.out.1, ← HEL.out.2] at HL5
  obtain ⟨ml, hml⟩ : ∃ z, eLow (l ++ l') = z := ⟨_, rfl⟩
  obtain ⟨mh, hmh⟩ : ∃ z, eHigh (l ++ l') = z := ⟨_, rfl⟩
  have HMM := Lib.hid (And.intro hml hmh)
  rw [hml, hmh] at HL5
  clear HEL hml hmh
  -- the bins
  have b5 := HL5.out.at'
  rw [HZZ.out] at b5
  go_wp2
  have b6 := b5.drew
  have s6 := s5.drew
  have HL6 := Lib.hid (HL5.out.below (Below.refl _ _).drew)
  have HO6 := Lib.hid (HO5.out.below (Below.refl _ _).drew)
  have HF6 : Hid (Frame [b] w w5.drew) := HF5.out.drew
  obtain ⟨W6, hW6⟩ : ∃ W, w5.drew = W := ⟨_, rfl⟩
  rw [hW6] at b6 s6 HL6 HO6 HF6
  have h6 : SkW2 b o #[.pointer (some ⟨bb, 0, none⟩), .int .u64 u, .int .u64 v, .int .i64 z, .int .i64 most, .int .i64 ml, .int .i64 mh] #[.pointer (some ⟨ob, 0, none⟩), .int .u64 u, .int .u64 v, .int .i64 z, .int .i64 most, .int .i64 lo, .int .i64 hi] W6 := ⟨b6, s6⟩
  haveI hne : Nonempty (Held (SkW2 b o #[.pointer (some ⟨bb, 0, none⟩), .int .u64 u, .int .u64 v, .int .i64 z, .int .i64 most, .int .i64 ml, .int .i64 mh] #[.pointer (some ⟨ob, 0, none⟩), .int .u64 u, .int .u64 v, .int .i64 z, .int .i64 most, .int .i64 lo, .int .i64 hi])) := ⟨⟨W6, h6⟩⟩
  have hfar1 := fun x : Held (SkW2 b o #[.pointer (some ⟨bb, 0, none⟩), .int .u64 u, .int .u64 v, .int .i64 z, .int .i64 most, .int .i64 ml, .int .i64 mh] #[.pointer (some ⟨ob, 0, none⟩), .int .u64 u, .int .u64 v, .int .i64 z, .int .i64 most, .int .i64 lo, .int .i64 hi]) => x.held.at.1.seven
  have hfar2 := fun x : Held (SkW2 b o #[.pointer (some ⟨bb, 0, none⟩), .int .u64 u, .int .u64 v, .int .i64 z, .int .i64 most, .int .i64 ml, .int .i64 mh] #[.pointer (some ⟨ob, 0, none⟩), .int .u64 u, .int .u64 v, .int .i64 z, .int .i64 most, .int .i64 lo, .int .i64 hi]) => x.held.at.2.seven
  refine wp_region_noPanic ?_
  refine wp_region_held_drew (S := HeldS (SkW2 b o #[.pointer (some ⟨bb, 0, none⟩), .int .u64 u, .int .u64 v, .int .i64 z, .int .i64 most, .int .i64 ml, .int .i64 mh] #[.pointer (some ⟨ob, 0, none⟩), .int .u64 u, .int .u64 v, .int .i64 z, .int .i64 most, .int .i64 lo, .int .i64 hi])) (by kernel_rfl) (by rw [hW6]; exact HeldS.mk' h6) (fun hHeld => ?_)
  rw [hW6] at hHeld ⊢
  clear hW6 b5 s5 HL5 HO5 HF5
  refine wpAnyH_run0 [true, true, true, true, true, true, true, true] 2 (by kernel_rfl) (by kernel_rfl) (fun _ _ _ _ h => h) (by kernel_rfl) hHeld ?_
  simp only [runOps_true, runOps_false, runOps_nil]
  repeat (first | go_big_quiet_skip | (go_big_quiet_want; go_big_quiet_op; go_big_quiet_on))
  refine wpQuiet_nil ?_
  refine wpAnyH_ready (rs := [8]) (by kernel_rfl) (by simp) ?_
  refine AllReadyH.cons rfl (fun K hK => ?_) AllReadyH.nil
  go_simp
  go_wp2_with (go_at_call 48; refine (HMG.out W6 HL6.out.bn HO6.out.bn).mono ?_; rintro e w7 ⟨rfl, ⟨B', hg, hX, hF⟩, hO⟩)
  refine hK.out _ _ ?_ (fun hHeld => ?_)
  clear hK K
  · exact HeldS.mk' ⟨hF.at b6 HL6.out.nb, hF.at s6 HBO.out.2.2.1⟩
  have HFIN : Hid (LpvR b (b :: B) part rep u v s most (l ++ l') w w7 ∧ LsV w7 o (o :: T') part rep u v s most l') := by
    refine ⟨⟨b :: B', grown_cons hg HF6.out.size, ⟨bb, B', rfl, ?_⟩, (HF6.out.mono (by simp)).trans (hF.mono fun j hj => by simp [hj])⟩, ⟨ob, T', rfl, ?_⟩⟩
    · rw [HMM.out.1, HMM.out.2]
      exact HL6.out.binned hg hX hF
    · exact ⟨hF.at HO6.out.at' HBO.out.2.2.1, hO, HO6.out.nb⟩
  clear hg hX hF hO HMG HL6 HO6 HF6 b6 s6 h6
  refine wpAnyH_run0 [false, false, false, false, false, false, false, false, false, true] 0 (by kernel_rfl) (by kernel_rfl) (fun _ _ _ _ h => h) (by kernel_rfl) hHeld ?_
  simp only [runOps_true, runOps_false, runOps_nil]
  repeat (first | go_big_quiet_skip | (go_big_quiet_want; go_big_quiet_op; go_big_quiet_on))
  refine wpQuiet_nil ?_
  refine wpAnyH_done (by kernel_rfl) ?_ _
  refine NoPanic.normal ?_
  clear hfar1 hfar2 hne hHeld hA1 hA2
  go_wp2
  go_ret
  exact ⟨rfl, HFIN.out⟩
/-! ## Reset. -/
theorem lsreset_nil (w : World) : Calls Tryz.prog 29 #[.pointer none] w fun e w' => e = .returned (.tuple #[]) ∧ w = w' := by
  go_enter Tryz.func29, Tryz.ntmps29
  go_wp2
  exact bodyPost_ret (results_none rfl _ _ _) rfl ⟨rfl, rfl⟩
theorem At.set7 {w : World} {b : Nat} {T : TypeId} {u0 u1 u2 u3 u4 u5 u6 : Value} (h : At w b #[u0, u1, u2, u3, u4, u5, u6] T) (v0 v1 v2 v3 v4 v5 v6 : Value) :
    At (((((((w.setCell ⟨b, 0, none⟩ v0).setCell ⟨b, 1, none⟩ v1).setCell ⟨b, 2, none⟩ v2).setCell ⟨b, 3, none⟩ v3).setCell ⟨b, 4, none⟩ v4).setCell ⟨b, 5, none⟩ v5).setCell ⟨b, 6, none⟩ v6) b #[v0, v1, v2, v3, v4, v5, v6] T := by
  have k0 : At (w.setCell ⟨b, 0, none⟩ v0) b #[v0, u1, u2, u3, u4, u5, u6] T := At.set_any h 0 v0 rfl
  have k1 : At ((w.setCell ⟨b, 0, none⟩ v0).setCell ⟨b, 1, none⟩ v1) b #[v0, v1, u2, u3, u4, u5, u6] T := At.set_any k0 1 v1 rfl
  have k2 : At (((w.setCell ⟨b, 0, none⟩ v0).setCell ⟨b, 1, none⟩ v1).setCell ⟨b, 2, none⟩ v2) b #[v0, v1, v2, u3, u4, u5, u6] T := At.set_any k1 2 v2 rfl
  have k3 : At ((((w.setCell ⟨b, 0, none⟩ v0).setCell ⟨b, 1, none⟩ v1).setCell ⟨b, 2, none⟩ v2).setCell ⟨b, 3, none⟩ v3) b #[v0, v1, v2, v3, u4, u5, u6] T := At.set_any k2 3 v3 rfl
  have k4 : At (((((w.setCell ⟨b, 0, none⟩ v0).setCell ⟨b, 1, none⟩ v1).setCell ⟨b, 2, none⟩ v2).setCell ⟨b, 3, none⟩ v3).setCell ⟨b, 4, none⟩ v4) b #[v0, v1, v2, v3, v4, u5, u6] T := At.set_any k3 4 v4 rfl
  have k5 : At ((((((w.setCell ⟨b, 0, none⟩ v0).setCell ⟨b, 1, none⟩ v1).setCell ⟨b, 2, none⟩ v2).setCell ⟨b, 3, none⟩ v3).setCell ⟨b, 4, none⟩ v4).setCell ⟨b, 5, none⟩ v5) b #[v0, v1, v2, v3, v4, v5, u6] T := At.set_any k4 5 v5 rfl
  have k6 : At (((((((w.setCell ⟨b, 0, none⟩ v0).setCell ⟨b, 1, none⟩ v1).setCell ⟨b, 2, none⟩ v2).setCell ⟨b, 3, none⟩ v3).setCell ⟨b, 4, none⟩ v4).setCell ⟨b, 5, none⟩ v5).setCell ⟨b, 6, none⟩ v6) b #[v0, v1, v2, v3, v4, v5, v6] T := At.set_any k5 6 v6 rfl
  exact k6
set_option maxRecDepth 100000 in
set_option maxHeartbeats 2000000 in
theorem lsreset_v (b : Nat) (S : List Nat) (part : Nat → Int) (rep stand : Int → Int) (u v : Int) (s : Bool) (most : Int) (l : List (Int × Int)) (w : World) (h : LsV w b S part rep u v s most l) (hc : Cs u v 0 false part rep stand) :
    Calls Tryz.prog 29 #[.pointer (some ⟨b, 0, none⟩)] w fun e w' => e = .returned (.tuple #[]) ∧ LpvR b S part rep u v s most [] w w' := by
  have HN := Lib.hid (lsnew_yes u v part rep stand s most w hc h.m14)
  obtain ⟨bb, B, rfl, h⟩ := h
  have s1 := h.at'
  have HS1 := Lib.hid h.at'
  have f1 := s1.seven
  have l1 := s1.lt
  obtain ⟨z, hz⟩ : ∃ z, sideZ s = z := ⟨_, rfl⟩
  have HZ := Lib.hid hz
  rw [hz] at HN f1
  clear h hc hz s1
  go_enter Tryz.func29, Tryz.ntmps29
  go_wp2_with fail
  refine HN.out.mono ?_
  rintro e w1 ⟨⟨n, Sn, rfl, hW, hN⟩, hb⟩
  obtain ⟨nb, Nb, rfl, hN⟩ := hN
  have a1 := HS1.out.below hb
  have n1 := hN.at'
  have hbn : b ∉ Nb := fun hm => by have := (hW b (by simp [hm])).1; have := HS1.out.lt; omega
  have hF : Frame [b] w1 (((((((w1.setCell ⟨b, 0, none⟩ (.pointer (some ⟨nb, 0, none⟩))).setCell ⟨b, 1, none⟩ (.int .u64 u)).setCell ⟨b, 2, none⟩ (.int .u64 v)).setCell ⟨b, 3, none⟩ (.int .i64 z)).setCell ⟨b, 4, none⟩ (.int .i64 most)).setCell ⟨b, 5, none⟩ (.int .i64 0)).setCell ⟨b, 6, none⟩ (.int .i64 0)) :=
    ((((((Frame.set [b] w1 b 0 _ (by simp)).setc (.inl (by simp)) 1 _).setc (.inl (by simp)) 2 _).setc (.inl (by simp)) 3 _).setc (.inl (by simp)) 4 _).setc (.inl (by simp)) 5 _).setc (.inl (by simp)) 6 _
  have HFIN : Hid (LpvR b (b :: B) part rep u v s most [] w (((((((w1.setCell ⟨b, 0, none⟩ (.pointer (some ⟨nb, 0, none⟩))).setCell ⟨b, 1, none⟩ (.int .u64 u)).setCell ⟨b, 2, none⟩ (.int .u64 v)).setCell ⟨b, 3, none⟩ (.int .i64 z)).setCell ⟨b, 4, none⟩ (.int .i64 most)).setCell ⟨b, 5, none⟩ (.int .i64 0)).setCell ⟨b, 6, none⟩ (.int .i64 0))) := by
    refine ⟨b :: Nb, fun j hj => ?_, ⟨nb, Nb, rfl, ⟨?_, hN.bn.frame hF fun j hj hm => hbn (by simp at hm; rwa [← hm]), hbn⟩⟩, (Frame.of_below hb).trans (hF.mono (by simp))⟩
    · rcases List.mem_cons.1 hj with rfl | hj
      · exact .inl (by simp)
      · exact .inr (hW j (by simp [hj])).1
    · rw [HZ.out]
      exact a1.set7 _ _ _ _ _ _ _
  have f2 := a1.seven
  have l2 := a1.lt
  have g2 := n1.seven
  have m2 := n1.lt
  rw [HZ.out] at f2 g2
  rw [show eLow [] = 0 from rfl, show eHigh [] = 0 from rfl] at g2
  have hnb : n ≠ b := fun e => by have := (hW n (by simp)).1; have := HS1.out.lt; omega
  have hnb' : b ≠ n := fun e => hnb e.symm
  clear hW hN hb HN f1 l1 a1 n1 hbn hF
  go_wp2
  exact bodyPost_end (results_none rfl _ _ _) rfl ⟨rfl, HFIN.out⟩
end Go.Proofs.YtondkkhagbcadaaGreat
