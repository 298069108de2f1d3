/- Contract of the document's strip: Last. -/
import Derived.Test.YtekjfbgkoneihaaProg
import Derived.Test.YtekjfbgkoneihaaRef08b
namespace Go.Proofs.Ytekjfbgkoneihaa
open Go.RowKit

/-- What the regions' loads read. -/
def DlS (m g n c : Nat) (x y : Int) (W : World) : Prop := W.cell? ⟨m, 1, none⟩ = some (.slice (some ⟨g, 0, none⟩) n c) ∧ W.cell? ⟨g, (n - 1) * 2, none⟩ = some (.int .i64 x) ∧ W.cell? ⟨g, (n - 1) * 2 + 1, none⟩ = some (.int .u64 y)
theorem DlS.one {m g n c : Nat} {x y : Int} {W : World} (h : DlS m g n c x y W) : W.cell? ⟨m, 1, none⟩ = some (.slice (some ⟨g, 0, none⟩) n c) := h.1
theorem DlS.two {m g n c : Nat} {x y : Int} {W : World} (h : DlS m g n c x y W) : W.cell? ⟨g, (n - 1) * 2, none⟩ = some (.int .i64 x) := h.2.1
theorem DlS.three {m g n c : Nat} {x y : Int} {W : World} (h : DlS m g n c x y W) : W.cell? ⟨g, (n - 1) * 2 + 1, none⟩ = some (.int .u64 y) := h.2.2

set_option maxRecDepth 100000 in
set_option maxHeartbeats 4000000 in
theorem dlast_some (m : Nat) (S : List Nat) (most : Int) (ps : List (Int × Int)) (w : World) (h : DocS w m S most ps) (hn0 : 0 < ps.length) (hln : ps.length ≤ 4096) :
    Calls Try.prog 25 #[.pointer (some ⟨m, 0, none⟩)] w fun e w' => DouR m S most ps (ps.length - 1) w e w' := by
  obtain ⟨A, c, rfl, hB⟩ := h
  obtain ⟨g, rfl⟩ : ∃ g, A = some ⟨g, 0, none⟩ := by
    rcases hB.own.2 with ⟨_, h0⟩ | ⟨g, cp, cur, h, _⟩
    · omega
    · simp only [Value.slice.injEq] at h; exact ⟨g, h.1⟩
  have s1 := hB.at'
  obtain ⟨g', o, he, hg', hc1, hc2⟩ := hB.own.rd.at' (ps.length - 1) (by omega)
  cases he
  have hcp : ps.length ≤ c := by
    have := own_setRow w (show w.ownsRow 0 35 2 (.slice (some ⟨g, 0, none⟩) ps.length c) ps.length (flatP ps) from hB.own)
    obtain ⟨_, _, _, h, _⟩ := this
    exact h
  have HB := Lib.hid hB
  have HI := Lib.hid hn0
  have HLN := Lib.hid hln
  obtain ⟨n, hn⟩ : ∃ n, ps.length = n := ⟨_, rfl⟩
  rw [hn] at s1 hn0 hcp hln hc1 hc2
  have HQ : Hid ((fun e w' => DouR m (m :: blk (some ⟨g, 0, none⟩)) most ps (ps.length - 1) w e w') = fun e w' => DouR m (m :: blk (some ⟨g, 0, none⟩)) most ps (n - 1) w e w') := by show _ = _; rw [hn]
  rw [HQ.out]
  obtain ⟨x, hx⟩ : ∃ x, (ps.getD (n - 1) (0, 0)).1 = x := ⟨_, rfl⟩
  obtain ⟨y, hy⟩ : ∃ y, (ps.getD (n - 1) (0, 0)).2 = y := ⟨_, rfl⟩
  have HN := Lib.hid (And.intro hn (And.intro hx hy))
  rw [hx] at hc1
  rw [hy] at hc2
  rw [Nat.zero_add] at hc1 hc2
  have f1 := s1.two
  have l1 := s1.lt
  have n0 : ((n : Int) == 0) = false := beq_eq_false_iff_ne.2 (by omega)
  have v1 : IntKind.i64.wrap ((n : Int) - 1) = ((n - 1 : Nat) : Int) := by simp only [IntKind.wrap_i64]; omega
  have n1 : ((n - 1 : Nat) : Int) < n := by omega
  have n2 : (0 : Int) ≤ ((n - 1 : Nat) : Int) := by omega
  have n3 : n - 1 ≤ c := by omega
  have hD : Hid (∀ W, Below w.heap.size w W → DlS m g n c x y W) := fun W hb => ⟨((s1.below hb).two).2.1, cellB hb hg' hc1, cellB hb hg' hc2⟩
  clear hB hn hx hy hln hc1 hc2
  go_enter Try.func25, Try.ntmps25
  go_wp2_with fail
  refine gen_world (fun W => Hid (Below w.heap.size w W ∧ At W w.heap.size #[.int .i64 0, .int .u64 0] 35)) ?_ ?_
  · exact ⟨(by repeat (first | with_reducible assumption | with_reducible exact Below.refl _ _ | with_reducible refine Below.drew ?_ | with_reducible refine Below.drewN ?_ _ | with_reducible refine Below.setCell ?_ (by first | omega | (simp; done) | (simp; omega)) _ | with_reducible refine Below.alloc ?_ (by first | omega | (simp; done) | (simp; omega) | (simp [World.setCell]; omega)) _)), At.new' _ _ _ rfl⟩
  rintro W HW
  have hbW := HW.out.1.drew
  have TK := hD.out _ hbW
  have rW := HW.out.2.drew
  have HR := Lib.hid rW
  have hBW := rW.lt
  refine wp_region_noPanic ?_
  refine wp_region_until (S := HeldS (DlS m g n c x y)) 13 (by kernel_rfl) ?_
  obtain ⟨W0, hW0⟩ : ∃ W0, W.drew = W0 := ⟨_, rfl⟩
  rw [hW0] at TK hbW HR hBW ⊢
  have hHeld : HeldS (DlS m g n c x y) W0 := HeldS.mk' TK
  have hne : Nonempty (Held (DlS m g n c x y)) := ⟨⟨W0, TK⟩⟩
  have hneF : Nonempty (Held fun _ => True) := ⟨⟨W0, trivial⟩⟩
  have hfar1 := fun z : Held (DlS m g n c x y) => z.held.one
  have hfar2 := fun z : Held (DlS m g n c x y) => z.held.two
  have hfar3 := fun z : Held (DlS m g n c x y) => z.held.three
  clear hW0 rW HW s1 f1
  refine wpAnyU_run0F [true, true, true, false, true, true, true] 8 (by kernel_rfl) (by kernel_rfl) (fun _ _ _ _ h => h) (by kernel_rfl) hHeld ?_
  simp only [runOps_true, runOps_false, runOps_nil]
  repeat (first | go_big_quiet_skip | (go_big_quiet_want; go_big_quiet_op; go_big_quiet_on))
  refine wpQuiet_nil ?_
  refine wpAnyU_run0 [false, false, false, true, false, false, false, true] 6 (by kernel_rfl) (by kernel_rfl) (fun _ _ _ _ h => h) (by kernel_rfl) hHeld ?_
  simp only [runOps_true, runOps_false, runOps_nil]
  repeat (first | go_big_quiet_skip | (go_big_quiet_want; go_big_quiet_op; go_big_quiet_on))
  refine wpQuiet_nil ?_
  refine wpAnyU_run0F [false, false, false, false, false, false, false, false, true, true, true] 3 (by kernel_rfl) (by kernel_rfl) (fun _ _ _ _ h => h) (by kernel_rfl) hHeld ?_
  simp only [runOps_true, runOps_false, runOps_nil]
  repeat (first | go_big_quiet_skip | (go_big_quiet_want; go_big_quiet_op; go_big_quiet_on))
  refine wpQuiet_nil ?_
  refine wpAnyU_run0 [false, false, false, false, false, false, false, false, false, false, false, true] 2 (by kernel_rfl) (by kernel_rfl) (fun _ _ _ _ h => h) (by kernel_rfl) hHeld ?_
  simp only [runOps_true, runOps_false, runOps_nil]
  repeat (first | go_big_quiet_skip | (go_big_quiet_want; go_big_quiet_op; go_big_quiet_on))
  refine wpQuiet_nil ?_
  refine wpAnyU_ready (rs := [12]) (by kernel_rfl) (by simp) ?_
  refine AllReadyU.cons rfl (fun K hK => ?_) (AllReadyU.nil)
  go_simp
  refine hK.out _ _ (fun _ => HeldS.mk' (hD.out _ (hbW.alloc (Nat.le_trans (Nat.le_of_lt hBW) (Nat.le_refl _)) _))) ?_
  clear hK K hfar1 hfar2 hfar3 hne hneF
  refine wpAnyU_ready (rs := [13]) (by kernel_rfl) (by simp) ?_
  refine AllReadyU.cons rfl (fun K hK => ?_) (AllReadyU.nil)
  go_simp
  go_wp2
  refine hK.out _ _ (fun h => late_no h (by kernel_rfl)) ?_
  clear hK K
  refine wpAnyU_done (by kernel_rfl) ?_ _
  refine NoPanic.normal ?_
  obtain ⟨C, hC⟩ : ∃ C, W0.heap.size = C := ⟨_, rfl⟩
  rw [hC]
  go_wp2
  refine gen_world (fun W => Hid (Below w.heap.size w W ∧ At W C #[.int .i64 x, .int .u64 y] 35 ∧ At W w.heap.size #[.int .i64 0, .int .u64 0] 35)) ?_ ?_
  · subst hC
    exact ⟨hbW.alloc (Nat.le_of_lt hBW) _, At.new' _ _ _ rfl, HR.out.alloc _⟩
  rintro V HV
  have hbV := HV.out.1.drew
  have TV := hD.out _ hbV
  have hBC : w.heap.size < C := by rw [← hC]; exact hBW
  clear hHeld TK hbW HR hBW hC
  have l2 := HV.out.2.1.lt
  refine wp_region_noPanic ?_
  refine wp_region_until (S := HeldS (DlS m g n c x y)) 16 (by kernel_rfl) ?_
  obtain ⟨V0, hV0⟩ : ∃ V0, V.drew = V0 := ⟨_, rfl⟩
  have HV1 : Hid (Below w.heap.size w V0 ∧ At V0 C #[.int .i64 x, .int .u64 y] 35 ∧ At V0 w.heap.size #[.int .i64 0, .int .u64 0] 35) := by
    rw [← hV0]; exact ⟨HV.out.1.drew, HV.out.2.1.drew, HV.out.2.2.drew⟩
  rw [hV0] at TV hbV ⊢
  have hHeld : HeldS (DlS m g n c x y) V0 := HeldS.mk' TV
  have hne : Nonempty (Held (DlS m g n c x y)) := ⟨⟨V0, TV⟩⟩
  have hneF : Nonempty (Held fun _ => True) := ⟨⟨V0, trivial⟩⟩
  have hfar1 := fun z : Held (DlS m g n c x y) => z.held.one
  have hfar2 := fun z : Held (DlS m g n c x y) => z.held.two
  have hfar3 := fun z : Held (DlS m g n c x y) => z.held.three
  clear hV0 HV l2
  have l2 := HV1.out.2.1.lt
  refine wpAnyU_run0F [true, false, true, true, true, false, true, true, true] 10 (by kernel_rfl) (by kernel_rfl) (fun _ _ _ _ h => h) (by kernel_rfl) hHeld ?_
  simp only [runOps_true, runOps_false, runOps_nil]
  repeat (first | go_big_quiet_skip | (go_big_quiet_want; go_big_quiet_op; go_big_quiet_on))
  refine wpQuiet_nil ?_
  refine wpAnyU_run0 [false, false, false, false, false, true, false, false, false, true] 8 (by kernel_rfl) (by kernel_rfl) (fun _ _ _ _ h => h) (by kernel_rfl) hHeld ?_
  simp only [runOps_true, runOps_false, runOps_nil]
  repeat (first | go_big_quiet_skip | (go_big_quiet_want; go_big_quiet_op; go_big_quiet_on))
  refine wpQuiet_nil ?_
  refine wpAnyU_run0F [false, false, false, false, false, false, false, false, false, false, true, true, true] 5 (by kernel_rfl) (by kernel_rfl) (fun _ _ _ _ h => h) (by kernel_rfl) hHeld ?_
  simp only [runOps_true, runOps_false, runOps_nil]
  repeat (first | go_big_quiet_skip | (go_big_quiet_want; go_big_quiet_op; go_big_quiet_on))
  refine wpQuiet_nil ?_
  clear hfar1 hfar2 hfar3 hne hneF
  obtain ⟨A', c', w', hr, ho, hb⟩ := app_part (HB.out.own.below hbV) HLN.out 0 (n - 1) (by rw [HN.out.1]; omega) ⟨g, 0 * 2, none⟩ (.inl rfl) c
  rw [Nat.zero_mul] at hr
  replace hr := Lib.hid hr
  have hout : Hid (outF ps (n - 1) = (ps.drop 0).take (n - 1)) := by
    show _ = _
    unfold outF
    rw [List.drop_of_length_le (show ps.length ≤ n - 1 + 1 by rw [HN.out.1]; omega), List.append_nil]
    rfl
  have f3 := hD.out _ (keep1 hbV hb)
  have s3 := (HB.out.at'.below (keep1 hbV hb)).two
  have p3 := (HV1.out.2.1.below hb).two
  have r3 := (HV1.out.2.2.below hb).two
  have u1 := (((HV1.out.2.1.below hb).set_other (p := ⟨m, 1, none⟩) (by show C ≠ m; omega) (.slice A' (n - 1) c'))).two
  have u2 := ((((HV1.out.2.2.below hb).set_other (p := ⟨m, 1, none⟩) (by show w.heap.size ≠ m; omega) (.slice A' (n - 1) c')).set_any 0 (.int .i64 x) rfl).set_any 1 (.int .u64 y) rfl).two
  have HR : Hid (DouR m (m :: blk (some ⟨g, 0, none⟩)) most ps (n - 1) w (.returned (.tuple #[.agg #[.int .i64 x, .int .u64 y], .bool true])) (((w'.setCell ⟨m, 1, none⟩ (.slice A' (n - 1) c')).setCell ⟨w.heap.size, 0, none⟩ (.int .i64 x)).setCell ⟨w.heap.size, 1, none⟩ (.int .u64 y))) := by
    have := dou_some (i := n - 1) HB.out (by rw [HN.out.1]; omega) HN.out.2.1 HN.out.2.2 rfl hbV (by rw [hout.out]; exact ho) hb
    rw [HN.out.1] at this
    exact this.resolve_right (fun h => h (Nat.lt_trans hBC l2))
  clear ho hb
  refine wpAnyU_ready (rs := [1]) (by kernel_rfl) (by simp) ?_
  refine AllReadyU.cons rfl (fun K hK => ?_) (AllReadyU.nil)
  go_simp
  refine hK.out _ _ (fun _ => HeldS.mk' (hD.out _ (hbV.alloc (Nat.le_trans (Nat.le_of_lt hBC) (Nat.le_of_lt l2)) _))) ?_
  clear hK K
  refine wpAnyU_ready (rs := [13]) (by kernel_rfl) (by simp) ?_
  refine AllReadyU.cons rfl (fun K hK => ?_) (AllReadyU.nil)
  refine ite_of rfl ?_
  refine Lib.wp_append_run _ _ _ _ _ rfl _ _ rfl rfl _ _ hr.out ?_
  refine hK.out _ _ (fun _ => HeldS.mk' f3) ?_
  clear hK K
  simp only [Act.put, List.setIfInBounds_toArray, List.set_cons_zero, List.set_cons_succ]
  refine wpAnyU_ready (rs := [14]) (by kernel_rfl) (by simp) ?_
  refine AllReadyU.cons rfl (fun K hK => ?_) (AllReadyU.nil)
  go_simp
  refine hK.out _ _ (fun _ => HeldS.mk' f3) ?_
  clear hK K
  refine wpAnyU_ready (rs := [15]) (by kernel_rfl) (by simp) ?_
  refine AllReadyU.cons rfl (fun K hK => ?_) (AllReadyU.nil)
  go_simp
  refine hK.out _ _ (fun _ => HeldS.mk' f3) ?_
  clear hK K
  refine wpAnyU_ready (rs := [16]) (by kernel_rfl) (by simp) ?_
  refine AllReadyU.cons rfl (fun K hK => ?_) (AllReadyU.nil)
  go_simp
  go_wp2
  refine hK.out _ _ (fun h => late_no h (by kernel_rfl)) ?_
  clear hK K
  refine wpAnyU_done (by kernel_rfl) ?_ _
  refine NoPanic.normal ?_
  go_wp2
  exact bodyPost_ret (v := .tuple #[.agg #[.int .i64 x, .int .u64 y], .bool true]) (by simp only [results, Try.f25]; simp [go_sem, u2]) rfl HR.out

theorem dfirst_any (m : Nat) (S : List Nat) (most : Int) (ps : List (Int × Int)) (w : World) (h : DocS w m S most ps) (hln : ps.length ≤ 4096) :
    Calls Try.prog 24 #[.pointer (some ⟨m, 0, none⟩)] w fun e w' => DouR m S most ps 0 w e w' := by
  by_cases h0 : 0 < ps.length
  · exact dfirst_some m S most ps w h h0 hln
  · obtain rfl : ps = [] := List.eq_nil_of_length_eq_zero (by omega)
    exact dfirst_empty m S most w h
theorem dlast_any (m : Nat) (S : List Nat) (most : Int) (ps : List (Int × Int)) (w : World) (h : DocS w m S most ps) (hln : ps.length ≤ 4096) :
    Calls Try.prog 25 #[.pointer (some ⟨m, 0, none⟩)] w fun e w' => DouR m S most ps (ps.length - 1) w e w' := by
  by_cases h0 : 0 < ps.length
  · exact dlast_some m S most ps w h h0 hln
  · obtain rfl : ps = [] := List.eq_nil_of_length_eq_zero (by omega)
    exact dlast_empty m S most w h
end Go.Proofs.Ytekjfbgkoneihaa

