/- Contracts of package logsk: ends, Put. -/
import Derived.Test.YtondkkhagbcadaaGreatProg
import Derived.Test.YtondkkhagbcadaaGreatLs1
namespace Go.Proofs.YtondkkhagbcadaaGreat
open Go.RowKit

/-- The cell of the greatest. -/
def MostW (b : Nat) (most : Int) (W : World) : Prop := W.cell? ⟨b, 6, none⟩ = some (.int .i64 most)
theorem MostW.at {b : Nat} {most : Int} {W : World} (h : MostW b most W) : W.cell? ⟨b, 6, none⟩ = some (.int .i64 most) := h
set_option maxRecDepth 100000 in
set_option maxHeartbeats 2000000 in
theorem lsend_none (b bb : Nat) (B : List Nat) (part : Nat → Int) (rep : Int → Int) (u v : Int) (s : Bool) (pm : Int) (l : List (Int × Int)) (least most lo hi : Int) (w : World) (h : LsB w b bb B part rep u v s pm l least most) (hv : VOk l) (h0 : sumP l = 0) :
    Calls Tryz.prog 47 #[.pointer (some ⟨b, 0, none⟩), .int .i64 lo, .int .i64 hi] w fun e w' => e = .returned (.tuple #[]) ∧ LsB w' b bb B part rep u v s pm l lo hi ∧ Frame [b] w w' := by
  have H := Lib.hid h
  have HT := Lib.hid (btot_v bb B false part rep s pm l w h.bn hv)
  rw [h0] at HT
  have f0 := h.at'.seven
  have l0 := h.at'.lt
  clear h hv h0
  go_enter Tryz.func47, Tryz.ntmps47
  go_wp2_with fail
  refine HT.out.mono ?_
  rintro e w1 ⟨rfl, hb⟩
  replace H := Lib.hid (H.out.below hb)
  have hF := Lib.hid (Frame.of_below (S := [b]) hb)
  have s1 := H.out.at'
  have f1 := s1.seven
  have l1 := s1.lt
  clear HT hb f0 l0
  have H2 := Lib.hid (H.out.set (lo' := lo) (hi' := most) 5 (.int .i64 lo) (s1.set_any 5 _ rfl))
  have H3 := Lib.hid (H2.out.set (lo' := lo) (hi' := hi) 6 (.int .i64 hi) (H2.out.at'.set_any 6 _ rfl))
  have HF3 := Lib.hid ((hF.out.setc (b := b) (.inl (by simp)) 5 (.int .i64 lo)).setc (b := b) (.inl (by simp)) 6 (.int .i64 hi))
  go_wp2
  exact bodyPost_ret (results_none rfl _ _ _) rfl ⟨rfl, H3.out, HF3.out⟩
theorem ite_of' {c : Prop} [Decidable c] {A B : Prop} (h : c) (a : A) : if c then A else B := by rw [if_pos h]; exact a
set_option maxRecDepth 100000 in
set_option maxHeartbeats 2000000 in
theorem lsend_more (b bb : Nat) (B : List Nat) (part : Nat → Int) (rep : Int → Int) (u v : Int) (s : Bool) (pm : Int) (l : List (Int × Int)) (least most lo hi : Int) (w : World) (h : LsB w b bb B part rep u v s pm l least most) (hv : VOk l) (h0 : sumP l ≠ 0) :
    Calls Tryz.prog 47 #[.pointer (some ⟨b, 0, none⟩), .int .i64 lo, .int .i64 hi] w fun e w' => e = .returned (.tuple #[]) ∧ LsB w' b bb B part rep u v s pm l (min least lo) (max most hi) ∧ Frame [b] w w' := by
  have H := Lib.hid h
  have HT := Lib.hid (btot_v bb B false part rep s pm l w h.bn hv)
  have f0 := h.at'.seven
  have l0 := h.at'.lt
  have hn : (sumP l == 0) = false := beq_eq_false_iff_ne.2 h0
  obtain ⟨t, htt⟩ : ∃ t, sumP l = t := ⟨_, rfl⟩
  rw [htt] at HT hn
  clear h hv h0 htt
  go_enter Tryz.func47, Tryz.ntmps47
  go_wp2_with fail
  refine HT.out.mono ?_
  rintro e w1 ⟨rfl, hb⟩
  replace H := Lib.hid (H.out.below hb)
  have hF := Lib.hid (Frame.of_below (S := [b]) hb)
  clear HT hb f0 l0
  go_upto_region 2 with fail
  obtain ⟨W, hW⟩ : ∃ W, w1.drew = W := ⟨_, rfl⟩
  have H1 : Hid (LsB W b bb B part rep u v s pm l least most) := by show LsB _ _ _ _ _ _ _ _ _ _ _ _ _; rw [← hW]; exact H.out.below (Below.refl _ _).drew
  have hF1 : Hid (Frame [b] w W) := by show Frame _ _ _; rw [← hW]; exact hF.out.drew
  refine wp_region_noPanic ?_
  refine wp_region_until (S := HeldS (MostW b most)) 19 (by kernel_rfl) ?_
  rw [hW]
  clear hW H hF
  have s1 := H1.out.at'
  have H2 := Lib.hid (H1.out.set (lo' := min least lo) (hi' := most) 5 (.int .i64 (min least lo)) (s1.set_any 5 _ rfl))
  have H3 := Lib.hid (H2.out.set (lo' := min least lo) (hi' := max most hi) 6 (.int .i64 (max most hi)) (H2.out.at'.set_any 6 _ rfl))
  have HF3 := Lib.hid ((hF1.out.setc (b := b) (.inl (by simp)) 5 (.int .i64 (min least lo))).setc (b := b) (.inl (by simp)) 6 (.int .i64 (max most hi)))
  have hm1 : MostW b most W := s1.cell rfl
  have hm2 : MostW b most (W.setCell ⟨b, 5, none⟩ (.int .i64 (min least lo))) := H2.out.at'.cell rfl
  have hHeld : HeldS (MostW b most) W := HeldS.mk' hm1
  have hne : Nonempty (Held (MostW b most)) := ⟨⟨W, hm1⟩⟩
  have hfar := fun x : Held (MostW b most) => x.held.at
  have hneF : Nonempty (Held fun _ => True) := ⟨⟨W, trivial⟩⟩
  have f1 := s1.seven
  have l1 := s1.lt
  have f2 := H2.out.at'.seven
  have l2 := H2.out.at'.lt
  clear H1 hF1 H2 s1
  refine wpAnyU_run0F [true, true, true, true, true, false, true, false, true, true, true, false, true] 10 (by kernel_rfl) (by kernel_rfl) (fun _ _ _ _ h => h) (by kernel_rfl) hHeld ?_
  simp only [runOps_true, runOps_false, runOps_nil]
  repeat (first | go_big_quiet_skip | (go_big_quiet_want; go_big_quiet_op; go_big_quiet_on))
  refine wpQuiet_nil ?_
  refine wpAnyU_run0 [false, false, false, false, false, false, false, false, false, false, false, true] 9 (by kernel_rfl) (by kernel_rfl) (fun _ _ _ _ h => h) (by kernel_rfl) hHeld ?_
  simp only [runOps_true, runOps_false, runOps_nil]
  repeat (first | go_big_quiet_skip | (go_big_quiet_want; go_big_quiet_op; go_big_quiet_on))
  refine wpQuiet_nil ?_
  clear hfar hne
  refine wpAnyU_ready (rs := [5, 13]) (by kernel_rfl) (by simp) ?_
  refine AllReadyU.cons rfl (fun K hK => ?_) (AllReadyU.cons rfl (fun K hK => ?_) (AllReadyU.nil))
  · go_simp
    go_wp2
    refine hK.out _ _ (fun _ => HeldS.mk' hm1) ?_
    clear hK K
    refine wpAnyU_ready (rs := [7, 13]) (by kernel_rfl) (by simp) ?_
    refine AllReadyU.cons rfl (fun K hK => ?_) (AllReadyU.cons rfl (fun K hK => ?_) (AllReadyU.nil))
    · go_simp
      go_wp2
      refine hK.out _ _ (fun _ => HeldS.mk' hm1) ?_
      clear hK K
      refine wpAnyU_run0F [false, false, false, false, false, false, false, false, false, false, false, false, false, false, true, true] 5 (by kernel_rfl) (by kernel_rfl) (fun _ _ _ _ h => h) (by kernel_rfl) hHeld ?_
      simp only [runOps_true, runOps_false, runOps_nil]
      repeat (first | go_big_quiet_skip | (go_big_quiet_want; go_big_quiet_op; go_big_quiet_on))
      refine wpQuiet_nil ?_
      refine wpAnyU_ready (rs := [13, 16]) (by kernel_rfl) (by simp) ?_
      refine AllReadyU.cons rfl (fun K hK => ?_) (AllReadyU.cons rfl (fun K hK => ?_) (AllReadyU.nil))
      · go_simp
        go_wp2
        refine hK.out _ _ (fun _ => HeldS.mk' hm1) ?_
        clear hK K
        refine wpAnyU_ready (rs := [16]) (by kernel_rfl) (by simp) ?_
        refine AllReadyU.cons rfl (fun K hK => ?_) (AllReadyU.nil)
        go_simp
        go_wp2
        refine hK.out _ _ (fun _ => HeldS.mk' hm2) ?_
        clear hK K
        replace hHeld : HeldS (MostW b most) (W.setCell ⟨b, 5, none⟩ (.int .i64 (min least lo))) := HeldS.mk' hm2
        clear f1 l1
        refine wpAnyU_run0F [false, false, false, false, false, false, false, false, false, false, false, false, false, false, false, false, false, true, true] 1 (by kernel_rfl) (by kernel_rfl) (fun _ _ _ _ h => h) (by kernel_rfl) hHeld ?_
        simp only [runOps_true, runOps_false, runOps_nil]
        repeat (first | go_big_quiet_skip | (go_big_quiet_want; go_big_quiet_op; go_big_quiet_on))
        refine wpQuiet_nil ?_
        refine wpAnyU_ready (rs := [19]) (by kernel_rfl) (by simp) ?_
        refine AllReadyU.cons rfl (fun K hK => ?_) (AllReadyU.nil)
        go_simp
        go_wp2
        refine hK.out _ _ (fun h => late_no h (by kernel_rfl)) ?_
        clear hK K
        refine wpAnyU_done (by kernel_rfl) ?_ _
        refine NoPanic.normal ?_
        clear hHeld f2 l2
        go_wp2
        exact bodyPost_end (results_none rfl _ _ _) rfl ⟨rfl, H3.out, HF3.out⟩
      · go_simp
        go_wp2
        refine hK.out _ _ (fun _ => HeldS.mk' hm2) ?_
        clear hK K
        refine wpAnyU_ready (rs := [13]) (by kernel_rfl) (by simp) ?_
        refine AllReadyU.cons rfl (fun K hK => ?_) (AllReadyU.nil)
        go_simp
        go_wp2
        refine hK.out _ _ (fun _ => HeldS.mk' hm2) ?_
        clear hK K
        replace hHeld : HeldS (MostW b most) (W.setCell ⟨b, 5, none⟩ (.int .i64 (min least lo))) := HeldS.mk' hm2
        clear f1 l1
        refine wpAnyU_run0F [false, false, false, false, false, false, false, false, false, false, false, false, false, false, false, false, false, true, true] 1 (by kernel_rfl) (by kernel_rfl) (fun _ _ _ _ h => h) (by kernel_rfl) hHeld ?_
        simp only [runOps_true, runOps_false, runOps_nil]
        repeat (first | go_big_quiet_skip | (go_big_quiet_want; go_big_quiet_op; go_big_quiet_on))
        refine wpQuiet_nil ?_
        refine wpAnyU_ready (rs := [19]) (by kernel_rfl) (by simp) ?_
        refine AllReadyU.cons rfl (fun K hK => ?_) (AllReadyU.nil)
        go_simp
        go_wp2
        refine hK.out _ _ (fun h => late_no h (by kernel_rfl)) ?_
        clear hK K
        refine wpAnyU_done (by kernel_rfl) ?_ _
        refine NoPanic.normal ?_
        clear hHeld f2 l2
        go_wp2
        exact bodyPost_end (results_none rfl _ _ _) rfl ⟨rfl, H3.out, HF3.out⟩
    · go_simp
      go_wp2
      refine hK.out _ _ (fun _ => HeldS.mk' hm1) ?_
      clear hK K
      refine wpAnyU_ready (rs := [7]) (by kernel_rfl) (by simp) ?_
      refine AllReadyU.cons rfl (fun K hK => ?_) (AllReadyU.nil)
      go_simp
      go_wp2
      refine hK.out _ _ (fun _ => HeldS.mk' hm1) ?_
      clear hK K
      refine wpAnyU_run0F [false, false, false, false, false, false, false, false, false, false, false, false, false, false, true, true] 4 (by kernel_rfl) (by kernel_rfl) (fun _ _ _ _ h => h) (by kernel_rfl) hHeld ?_
      simp only [runOps_true, runOps_false, runOps_nil]
      repeat (first | go_big_quiet_skip | (go_big_quiet_want; go_big_quiet_op; go_big_quiet_on))
      refine wpQuiet_nil ?_
      refine wpAnyU_ready (rs := [16]) (by kernel_rfl) (by simp) ?_
      refine AllReadyU.cons rfl (fun K hK => ?_) (AllReadyU.nil)
      go_simp
      go_wp2
      refine hK.out _ _ (fun _ => HeldS.mk' hm2) ?_
      clear hK K
      replace hHeld : HeldS (MostW b most) (W.setCell ⟨b, 5, none⟩ (.int .i64 (min least lo))) := HeldS.mk' hm2
      clear f1 l1
      refine wpAnyU_run0F [false, false, false, false, false, false, false, false, false, false, false, false, false, false, false, false, false, true, true] 1 (by kernel_rfl) (by kernel_rfl) (fun _ _ _ _ h => h) (by kernel_rfl) hHeld ?_
      simp only [runOps_true, runOps_false, runOps_nil]
      repeat (first | go_big_quiet_skip | (go_big_quiet_want; go_big_quiet_op; go_big_quiet_on))
      refine wpQuiet_nil ?_
      refine wpAnyU_ready (rs := [19]) (by kernel_rfl) (by simp) ?_
      refine AllReadyU.cons rfl (fun K hK => ?_) (AllReadyU.nil)
      go_simp
      go_wp2
      refine hK.out _ _ (fun h => late_no h (by kernel_rfl)) ?_
      clear hK K
      refine wpAnyU_done (by kernel_rfl) ?_ _
      refine NoPanic.normal ?_
      clear hHeld f2 l2
      go_wp2
      exact bodyPost_end (results_none rfl _ _ _) rfl ⟨rfl, H3.out, HF3.out⟩
  · go_simp
    go_wp2
    refine hK.out _ _ (fun _ => HeldS.mk' hm1) ?_
    clear hK K
    refine wpAnyU_ready (rs := [5]) (by kernel_rfl) (by simp) ?_
    refine AllReadyU.cons rfl (fun K hK => ?_) (AllReadyU.nil)
    go_simp
    go_wp2
    refine hK.out _ _ (fun _ => HeldS.mk' hm1) ?_
    clear hK K
    refine wpAnyU_ready (rs := [7]) (by kernel_rfl) (by simp) ?_
    refine AllReadyU.cons rfl (fun K hK => ?_) (AllReadyU.nil)
    go_simp
    go_wp2
    refine hK.out _ _ (fun _ => HeldS.mk' hm1) ?_
    clear hK K
    refine wpAnyU_run0F [false, false, false, false, false, false, false, false, false, false, false, false, false, false, true, true] 4 (by kernel_rfl) (by kernel_rfl) (fun _ _ _ _ h => h) (by kernel_rfl) hHeld ?_
    simp only [runOps_true, runOps_false, runOps_nil]
    repeat (first | go_big_quiet_skip | (go_big_quiet_want; go_big_quiet_op; go_big_quiet_on))
    refine wpQuiet_nil ?_
    refine wpAnyU_ready (rs := [16]) (by kernel_rfl) (by simp) ?_
    refine AllReadyU.cons rfl (fun K hK => ?_) (AllReadyU.nil)
    go_simp
    go_wp2
    refine hK.out _ _ (fun _ => HeldS.mk' hm2) ?_
    clear hK K
    replace hHeld : HeldS (MostW b most) (W.setCell ⟨b, 5, none⟩ (.int .i64 (min least lo))) := HeldS.mk' hm2
    clear f1 l1
    refine wpAnyU_run0F [false, false, false, false, false, false, false, false, false, false, false, false, false, false, false, false, false, true, true] 1 (by kernel_rfl) (by kernel_rfl) (fun _ _ _ _ h => h) (by kernel_rfl) hHeld ?_
    simp only [runOps_true, runOps_false, runOps_nil]
    repeat (first | go_big_quiet_skip | (go_big_quiet_want; go_big_quiet_op; go_big_quiet_on))
    refine wpQuiet_nil ?_
    refine wpAnyU_ready (rs := [19]) (by kernel_rfl) (by simp) ?_
    refine AllReadyU.cons rfl (fun K hK => ?_) (AllReadyU.nil)
    go_simp
    go_wp2
    refine hK.out _ _ (fun h => late_no h (by kernel_rfl)) ?_
    clear hK K
    refine wpAnyU_done (by kernel_rfl) ?_ _
    refine NoPanic.normal ?_
    clear hHeld f2 l2
    go_wp2
    exact bodyPost_end (results_none rfl _ _ _) rfl ⟨rfl, H3.out, HF3.out⟩
theorem lsend_any (b bb : Nat) (B : List Nat) (part : Nat → Int) (rep : Int → Int) (u v : Int) (s : Bool) (pm : Int) (l : List (Int × Int)) (least most lo hi : Int) (w : World) (h : LsB w b bb B part rep u v s pm l least most) (hv : VOk l) :
    Calls Tryz.prog 47 #[.pointer (some ⟨b, 0, none⟩), .int .i64 lo, .int .i64 hi] w fun e w' => e = .returned (.tuple #[]) ∧ LsB w' b bb B part rep u v s pm l (if sumP l = 0 then lo else min least lo) (if sumP l = 0 then hi else max most hi) ∧ Frame [b] w w' := by
  by_cases h0 : sumP l = 0
  · rw [if_pos h0, if_pos h0]; exact lsend_none _ _ _ _ _ _ _ _ _ _ _ _ _ _ w h hv h0
  · rw [if_neg h0, if_neg h0]; exact lsend_more _ _ _ _ _ _ _ _ _ _ _ _ _ _ w h hv h0
/-! ## Put. -/
theorem lsput_nil (x c : Int) (w : World) : Calls Tryz.prog 30 #[.pointer none, .int .i64 x, .int .u64 c] w fun e w' => e = .returned (.int .i64 2) ∧ w = w' := by
  go_enter Tryz.func30, Tryz.ntmps30
  go_wp2
  go_ret
  exact ⟨rfl, rfl⟩
/-- What Put leaves. -/
def LpvR (b : Nat) (S : List Nat) (part : Nat → Int) (rep : Int → Int) (u v : Int) (s : Bool) (most : Int) (l : List (Int × Int)) (w w' : World) : Prop := ∃ S', GrownS S S' w.heap.size ∧ LsV w' b S' part rep u v s most l ∧ Frame S w w'
theorem LpvR.same {b : Nat} {S : List Nat} {part : Nat → Int} {rep : Int → Int} {u v : Int} {s : Bool} {most : Int} {l : List (Int × Int)} {w w' : World} (h : LsV w b S part rep u v s most l) (hb : Below w.heap.size w w') : LpvR b S part rep u v s most l w w' := ⟨S, fun j hj => .inl hj, h.below hb, Frame.of_below hb⟩
/-- The bins have turned. -/
theorem LsB.binned {w w' : World} {b bb : Nat} {B B' : List Nat} {part : Nat → Int} {rep : Int → Int} {u v : Int} {s : Bool} {most lo hi : Int} {l l' : List (Int × Int)} (h : LsB w b bb B part rep u v s most l lo hi) (hg : GrownS B B' w.heap.size) (hX : BnV w' bb B' false part rep s most l') (hF : Frame B w w') : LsB w' b bb B' part rep u v s most l' lo hi :=
  ⟨hF.at h.at' h.nb, hX, fun hm => by
    rcases hg b hm with h1 | h1
    · exact h.nb h1
    · have := h.at'.lt; omega⟩
theorem grown_cons {b : Nat} {B B' : List Nat} {n n' : Nat} (h : GrownS B B' n) (hn : n' ≤ n) : GrownS (b :: B) (b :: B') n' := fun j hj => by
  rcases List.mem_cons.1 hj with rfl | hj
  · exact .inl (by simp)
  · rcases h j hj with h1 | h1
    · exact .inl (by simp [h1])
    · exact .inr (by omega)
set_option maxRecDepth 100000 in
set_option maxHeartbeats 2000000 in
theorem lsput_v (b : Nat) (S : List Nat) (part : Nat → Int) (rep : Int → Int) (u v : Int) (s : Bool) (most x c : Int) (l : List (Int × Int)) (w : World) (h : LsV w b S part rep u v s most l) (hv : VOk l) (hx : -9223372036854775808 ≤ x ∧ x ≤ 9223372036854775807) (hc : 0 < c) (hs : sumP l + c ≤ 9223372036854775807) :
    Calls Tryz.prog 30 #[.pointer (some ⟨b, 0, none⟩), .int .i64 x, .int .u64 c] w fun e w' => e = .returned (.int .i64 0) ∧ LpvR b S part rep u v s most (l ++ [(x, c)]) w w' := by
  obtain ⟨bb, B, rfl, h⟩ := h
  have H := Lib.hid h
  have HEN := Lib.hid fun W (hb : Below w.heap.size w W) => lsend_any b bb B part rep u v s most l _ _ x x W (h.below hb) hv
  have HAD := Lib.hid fun W (k : BnV W bb B false part rep s most l) => badd_v bb B false part rep s most x c l W k hv hx hc hs
  obtain ⟨e1, e2⟩ := eLow_snoc hv x c
  have HFI : Hid (∀ w1 w2 lo hi, LsB w1 b bb B part rep u v s most l lo hi → lo = (if sumP l = 0 then x else min (eLow l) x) → hi = (if sumP l = 0 then x else max (eHigh l) x) → Frame [b] w w1 → BpvR bb B false part rep s most (l ++ [(x, c)]) w1 w2 → LpvR b (b :: B) part rep u v s most (l ++ [(x, c)]) w w2) := by
    intro w1 w2 lo hi k e3 e4 hF ⟨B', hg, hX, hF2⟩
    refine ⟨b :: B', grown_cons hg hF.size, ⟨bb, B', rfl, ?_⟩, (hF.mono (by simp)).trans (hF2.mono fun j hj => by simp [hj])⟩
    rw [e1, e2, ← e3, ← e4]
    exact k.binned hg hX hF2
  have s1 := h.at'
  obtain ⟨el, hel⟩ : ∃ z, eLow l = z := ⟨_, rfl⟩
  obtain ⟨eh, heh⟩ : ∃ z, eHigh l = z := ⟨_, rfl⟩
  rw [hel, heh] at s1 HEN H HFI
  clear h hel heh hv hx hc hs e1 e2
  go_enter Tryz.func30, Tryz.ntmps30
  go_wp2
  have hfar1 := fun x : Far w => (x.at s1).seven
  refine wp_region_far (by kernel_rfl) (by kernel_rfl) ?_
  repeat (first | go_big_quiet_skip | (go_big_quiet_want; go_big_quiet_op; first | go_big_quiet_on | (apply Exists.intro; refine ⟨fun _ => ?_, ?_⟩; (focus (first | (fail))); go_big_quiet_on)))
  refine wpQuiet_nil ?_
  rintro _ ⟨xq, rfl⟩
  clear hfar1
  have hb := xq.below
  obtain ⟨W1, hW1⟩ : ∃ W, xq.far = W := ⟨_, rfl⟩
  rw [hW1] at hb ⊢
  clear hW1 s1
  have HB := Lib.hid hb
  clear hb
  go_wp2_with fail
  refine (HEN.out W1 HB.out).mono ?_
  rintro e w2 ⟨rfl, hL, hF⟩
  have HL := Lib.hid hL
  have HF : Hid (Frame [b] w w2) := (Frame.of_below HB.out).trans hF
  have f2 := hL.at'.seven
  have l2 := hL.at'.lt
  clear hL hF HEN HB H
  go_wp2_with fail
  refine (HAD.out w2 HL.out.bn).mono ?_
  rintro e w3 ⟨rfl, hp⟩
  have HP := Lib.hid (HFI.out w2 w3 _ _ HL.out rfl rfl HF.out hp)
  clear hp HAD HFI HL HF f2 l2
  go_wp2
  go_ret
  exact ⟨rfl, HP.out⟩
set_option maxRecDepth 100000 in
set_option maxHeartbeats 2000000 in
/-- Where Add refuses, all stays as it was. -/
theorem lsput_no (b : Nat) (S : List Nat) (part : Nat → Int) (rep : Int → Int) (u v : Int) (s : Bool) (most x c cd : Int) (l : List (Int × Int)) (w : World) (h : LsV w b S part rep u v s most l) (hv : VOk l) (hcd : cd ≠ 0)
    (hadd : ∀ bb B W, BnV W bb B false part rep s most l → Calls Tryz.prog 49 #[.pointer (some ⟨bb, 0, none⟩), .int .i64 x, .int .u64 c] W fun e w' => e = .returned (.int .i64 cd) ∧ Below W.heap.size W w') :
    Calls Tryz.prog 30 #[.pointer (some ⟨b, 0, none⟩), .int .i64 x, .int .u64 c] w fun e w' => e = .returned (.int .i64 cd) ∧ LpvR b S part rep u v s most l w w' := by
  obtain ⟨bb, B, rfl, h⟩ := h
  have HEN := Lib.hid fun W (hb : Below w.heap.size w W) => lsend_any b bb B part rep u v s most l _ _ x x W (h.below hb) hv
  have HAD := Lib.hid fun W (k : BnV W bb B false part rep s most l) => hadd bb B W k
  have HFI : Hid (∀ w2, LsB w2 b bb B part rep u v s most l (eLow l) (eHigh l) → Frame [b] w w2 → LpvR b (b :: B) part rep u v s most l w w2) := fun w2 k hF => ⟨b :: B, fun j hj => .inl hj, ⟨bb, B, rfl, k⟩, hF.mono (by simp)⟩
  have s1 := h.at'
  have hd : (cd != 0) = true := bne_iff_ne.2 hcd
  obtain ⟨el, hel⟩ : ∃ z, eLow l = z := ⟨_, rfl⟩
  obtain ⟨eh, heh⟩ : ∃ z, eHigh l = z := ⟨_, rfl⟩
  rw [hel, heh] at s1 HEN HFI
  clear h hel heh hv hadd hcd
  go_enter Tryz.func30, Tryz.ntmps30
  go_wp2
  have hfar1 := fun x : Far w => (x.at s1).seven
  refine wp_region_far (by kernel_rfl) (by kernel_rfl) ?_
  repeat (first | go_big_quiet_skip | (go_big_quiet_want; go_big_quiet_op; first | go_big_quiet_on | (apply Exists.intro; refine ⟨fun _ => ?_, ?_⟩; (focus (first | (fail))); go_big_quiet_on)))
  refine wpQuiet_nil ?_
  rintro _ ⟨xq, rfl⟩
  clear hfar1
  have hb := xq.below
  obtain ⟨W1, hW1⟩ : ∃ W, xq.far = W := ⟨_, rfl⟩
  rw [hW1] at hb ⊢
  clear hW1 s1
  have HB := Lib.hid hb
  clear hb
  go_wp2_with fail
  refine (HEN.out W1 HB.out).mono ?_
  rintro e w2 ⟨rfl, hL, hF⟩
  have HL := Lib.hid hL
  have HF : Hid (Frame [b] w w2) := (Frame.of_below HB.out).trans hF
  have f2 := hL.at'.seven
  have l2 := hL.at'.lt
  clear hL hF HEN HB
  go_wp2_with fail
  refine (HAD.out w2 HL.out.bn).mono ?_
  rintro e w3 ⟨rfl, hb⟩
  have HL3 := Lib.hid (HL.out.below hb)
  have HF3 : Hid (Frame [b] w w3) := HF.out.trans (Frame.of_below hb)
  have s3 := HL3.out.at'
  have H4 := Lib.hid (HL3.out.set (lo' := el) 5 (.int .i64 el) (s3.set_any 5 _ rfl))
  have H5 := Lib.hid (H4.out.set (lo' := el) (hi' := eh) 6 (.int .i64 eh) (H4.out.at'.set_any 6 _ rfl))
  have HP := Lib.hid (HFI.out _ H5.out ((HF3.out.setc (b := b) (.inl (by simp)) 5 (.int .i64 el)).setc (b := b) (.inl (by simp)) 6 (.int .i64 eh)))
  have f3 := s3.seven
  have l3 := s3.lt
  clear hb HAD HFI HL HF f2 l2 HL3 HF3 s3 H4 H5
  go_wp2
  go_ret
  exact ⟨rfl, HP.out⟩
theorem lsput_zero (b : Nat) (S : List Nat) (part : Nat → Int) (rep : Int → Int) (u v : Int) (s : Bool) (most x : Int) (l : List (Int × Int)) (w : World) (h : LsV w b S part rep u v s most l) (hv : VOk l) :
    Calls Tryz.prog 30 #[.pointer (some ⟨b, 0, none⟩), .int .i64 x, .int .u64 0] w fun e w' => e = .returned (.int .i64 1) ∧ LpvR b S part rep u v s most l w w' :=
  lsput_no b S part rep u v s most x 0 1 l w h hv (by omega) fun bb B W _ => (badd_zero bb x W).mono fun e w' k => ⟨k.1, by rw [← k.2]; exact Below.refl _ _⟩
theorem lsput_full (b : Nat) (S : List Nat) (part : Nat → Int) (rep : Int → Int) (u v : Int) (s : Bool) (most x c : Int) (l : List (Int × Int)) (w : World) (h : LsV w b S part rep u v s most l) (hv : VOk l) (hc : 0 < c) (hc' : c < 18446744073709551616) (hs : 9223372036854775807 < sumP l + c) :
    Calls Tryz.prog 30 #[.pointer (some ⟨b, 0, none⟩), .int .i64 x, .int .u64 c] w fun e w' => e = .returned (.int .i64 6) ∧ LpvR b S part rep u v s most l w w' :=
  lsput_no b S part rep u v s most x c 6 l w h hv (by omega) fun bb B W k => badd_vfull bb B false part rep s most x c l W k hv hc hc' hs
end Go.Proofs.YtondkkhagbcadaaGreat
