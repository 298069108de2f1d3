/- Contracts of package strip: take, First, Last. -/
import Derived.Test.YtooojpicbbpaaaaProg
import Derived.Test.YtooojpicbbpaaaaStripAdd
namespace Go.Proofs.Ytooojpicbbpaaaa
open Go.RowKit

/-- A pair leaves the row. -/
def outF (ps : List (Int × Int)) (i : Nat) : List (Int × Int) := ps.take i ++ ps.drop (i + 1)
theorem outF_split {ps : List (Int × Int)} {i : Nat} (hi : i < ps.length) : ps = ps.take i ++ ps.getD i (0, 0) :: ps.drop (i + 1) := by rw [← drop_cons hi, List.take_append_drop]
theorem gd_outF {ps : List (Int × Int)} (h : Gd ps) (i : Nat) : Gd (outF ps i) := by
  have hsub : (outF ps i).Sublist ps := by
    unfold outF
    conv => rhs; rw [← List.take_append_drop i ps]
    refine List.Sublist.append (List.Sublist.refl _) ?_
    rw [show ps.drop (i + 1) = (ps.drop i).drop 1 by rw [List.drop_drop]]
    exact List.drop_sublist _ _
  exact ⟨h.srt.sublist hsub, fun x hx => h.pos x (hsub.subset hx)⟩
theorem outF_mem {ps : List (Int × Int)} {i : Nat} {x : Int × Int} (h : x ∈ outF ps i) : x ∈ ps := by
  unfold outF at h
  rcases List.mem_append.1 h with h | h
  · exact List.mem_of_mem_take h
  · exact List.mem_of_mem_drop h
theorem sumP_outF {ps : List (Int × Int)} {i : Nat} (hi : i < ps.length) : sumP (outF ps i) = sumP ps - (ps.getD i (0, 0)).2 := by
  have e := congrArg sumP (outF_split hi)
  rw [sumP_append, sumP_cons] at e
  unfold outF
  rw [sumP_append]
  omega
theorem outF_length {ps : List (Int × Int)} {i : Nat} (hi : i < ps.length) : (outF ps i).length = ps.length - 1 := by
  unfold outF
  rw [List.length_append, List.length_take, List.length_drop]
  omega

/-- What take leaves. -/
def TakR (b : Nat) (S : List Nat) (most : Int) (ps : List (Int × Int)) (i : Nat) (w : World) (e : Ending) (w' : World) : Prop :=
  e = .returned (.tuple #[.agg #[.int .i64 (ps.getD i (0, 0)).1, .int .u64 (ps.getD i (0, 0)).2], .bool true]) ∧ Strip w' b S most (outF ps i) ∧ Frame S w w'

/-- What the region's loads read. -/
def TakS (b pb : Nat) (T x y : Int) (W : World) : Prop := W.cell? ⟨b, 2, none⟩ = some (.int .u64 T) ∧ At W pb #[.int .i64 x, .int .u64 y] 34
theorem TakS.one {b pb : Nat} {T x y : Int} {W : World} (h : TakS b pb T x y W) : W.cell? ⟨b, 2, none⟩ = some (.int .u64 T) := h.1
theorem TakS.two {b pb : Nat} {T x y : Int} {W : World} (h : TakS b pb T x y W) : At W pb #[.int .i64 x, .int .u64 y] 34 := h.2

set_option maxRecDepth 100000 in
set_option maxHeartbeats 4000000 in
theorem take_some (b : Nat) (S : List Nat) (most : Int) (ps : List (Int × Int)) (i : Nat) (w : World) (h : Strip w b S most ps) (hi : i < ps.length) :
    Calls Try.prog 55 #[.pointer (some ⟨b, 0, none⟩), .int .i64 i] w fun e w' => TakR b S most ps i w e w' := by
  have h0 := h
  obtain ⟨A, c, rfl, hB⟩ := h
  obtain ⟨g, rfl⟩ : ∃ g, A = some ⟨g, 0, none⟩ := by
    rcases hB.own.2 with ⟨_, h0⟩ | ⟨g, cp, cur, h, _⟩
    · omega
    · simp only [Value.slice.injEq] at h; exact ⟨g, h.1⟩
  have s1 := hB.at'
  have hl := h0.len
  obtain ⟨g', o, he, hg', hc1, hc2⟩ := hB.own.rd.at' i hi
  cases he
  have HB := Lib.hid hB
  have H0 := Lib.hid h0
  have hlt := hB.gd.pos _ (getD_mem' hi)
  have hsm := sumP_outF hi
  have hs0 := sumP_nonneg (gd_outF hB.gd i).pos
  have hle := hB.sum
  obtain ⟨n, hn⟩ : ∃ n, ps.length = n := ⟨_, rfl⟩
  obtain ⟨T, hT⟩ : ∃ T, sumP ps = T := ⟨_, rfl⟩
  obtain ⟨x, hx⟩ : ∃ x, (ps.getD i (0, 0)).1 = x := ⟨_, rfl⟩
  obtain ⟨y, hy⟩ : ∃ y, (ps.getD i (0, 0)).2 = y := ⟨_, rfl⟩
  have HI := Lib.hid hi
  rw [hn, hT] at s1
  rw [hn] at hl hi
  rw [hx] at hc1
  rw [hy] at hc2 hlt hsm
  rw [hT] at hsm hle
  have HN := Lib.hid (And.intro hn (And.intro hT (And.intro hx hy)))
  have HSM := Lib.hid hsm
  rw [hsm] at hs0
  have hbg : b ≠ g := fun e => hB.ne (by simp [blk, e])
  rw [Nat.zero_add] at hc1 hc2
  -- behind the two blocks
  obtain ⟨B, hBe⟩ : ∃ B, w.heap.size = B := ⟨_, rfl⟩
  have l1 := s1.lt
  have f1 := s1.three
  have f2 := (s1.alloc (.cells #[.int .i64 0, .int .u64 0] 34)).three
  have hc1' := (Below.refl w.heap.size w).alloc (Nat.le_refl _) (.cells #[.int .i64 0, .int .u64 0] 34) |> fun k => cellB k hg' hc1
  have hc2' := (Below.refl w.heap.size w).alloc (Nat.le_refl _) (.cells #[.int .i64 0, .int .u64 0] 34) |> fun k => cellB k hg' hc2
  have k0 : (0 : Int) ≤ i := by omega
  have k1 : (i : Int) < n := by omega
  have n0 : ((n : Int) == 0) = false := beq_eq_false_iff_ne.2 (by omega)
  have v1 : IntKind.i64.wrap ((i : Int) + 1) = ((i + 1 : Nat) : Int) := by simp only [IntKind.wrap_i64]; omega
  have v2 : IntKind.u64.wrap (T - y) = T - y := by simp only [IntKind.wrap_u64]; omega
  clear hB h0 hn hT hx hy hi hsm hs0 hle hlt hl hc1 hc2
  go_enter Try.func55, Try.ntmps55
  go_wp2
  refine gen_world (fun W => Hid (Below w.heap.size w W ∧ At W (B + 1) #[.int .i64 x, .int .u64 y] 34 ∧ At W B #[.int .i64 0, .int .u64 0] 34)) ?_ ?_
  · subst hBe
    exact ⟨(by repeat (first | with_reducible assumption | with_reducible exact Below.refl _ _ | with_reducible refine Below.drew ?_ | with_reducible refine Below.drewN ?_ _ | with_reducible refine Below.setCell ?_ (by first | omega | (simp; done) | (simp; omega)) _ | with_reducible refine Below.alloc ?_ (by first | omega | (simp; done) | (simp; omega) | (simp [World.setCell]; omega)) _)), At.new' _ _ _ (by simp), (At.new' _ _ _ rfl).alloc _⟩
  rintro W HW
  have hBW := HW.out.1
  have sW := (s1.below hBW).drew
  have pW := HW.out.2.1.drew
  have rW := HW.out.2.2.drew
  have hgB : g < B := by rw [← hBe]; exact hg'
  have hbB : b < B := by rw [← hBe]; exact l1
  have HBE := Lib.hid hBe
  have HD : Hid (Calls Try.prog 57 #[.slice (some ⟨g, 0, none⟩) n c, .int .i64 i, .int .i64 ((i + 1 : Nat) : Int)] W.drew fun e w' => e = .returned (.slice (some ⟨g, 0, none⟩) (n - 1) c) ∧ At w' b #[.int .i64 most, .slice (some ⟨g, 0, none⟩) n c, .int .u64 T] 72 ∧ At w' (B + 1) #[.int .i64 x, .int .u64 y] 34 ∧ At w' B #[.int .i64 0, .int .u64 0] 34 ∧
      Hid (TakR b (b :: blk (some ⟨g, 0, none⟩)) most ps i w (.returned (.tuple #[.agg #[.int .i64 x, .int .u64 y], .bool true])) ((((w'.setCell ⟨b, 1, none⟩ (.slice (some ⟨g, 0, none⟩) (n - 1) c)).setCell ⟨b, 2, none⟩ (.int .u64 (T - y))).setCell ⟨B, 0, none⟩ (.int .i64 x)).setCell ⟨B, 1, none⟩ (.int .u64 y)))) := by
    have hd := delete_any 0 g c i ps W.drew ((HB.out.own.below hBW).below (Below.refl _ _).drew) HI.out (by rw [HN.out.1]; have := H0.out.len; rw [HN.out.1] at this; omega)
    rw [HN.out.1] at hd
    refine hd.mono ?_
    rintro e w' ⟨rfl, ho, hf⟩
    rw [HN.out.1]
    have a1 := hf.at sW (by simp; exact hbg)
    have a2 := hf.at pW (by simp; omega)
    have a3 := hf.at rW (by simp; omega)
    refine ⟨rfl, a1, a2, a3, by rw [HN.out.2.2.1, HN.out.2.2.2], ?_, ?_⟩
    · have hlen : (outF ps i).length = n - 1 := by rw [outF_length HI.out, HN.out.1]
      refine ⟨some ⟨g, 0, none⟩, c, rfl, ?_, ?_, HB.out.ne, gd_outF HB.out.gd i, fun z hz => HB.out.ok z (outF_mem hz), ?_, ?_, HB.out.most1⟩
      · rw [hlen, HSM.out]
        exact (((a1.set_any 1 _ rfl).set_any 2 _ rfl).set_other (by show b ≠ B; omega) _).set_other (by show b ≠ B; omega) _
      · exact ((((ho.frame (Frame.set [b] _ b 1 _ (by simp)) (fun k hk e => by simp [blk] at hk e; omega)).frame (Frame.set [b] _ b 2 _ (by simp)) (fun k hk e => by simp [blk] at hk e; omega)).frame (Frame.set [B] _ B 0 _ (by simp)) (fun k hk e => by simp [blk] at hk e; omega)).frame (Frame.set [B] _ B 1 _ (by simp)) (fun k hk e => by simp [blk] at hk e; omega))
      · rw [HSM.out]
        have := HB.out.sum
        rw [HN.out.2.1] at this
        have := HB.out.gd.pos _ (getD_mem' HI.out)
        rw [HN.out.2.2.2] at this
        omega
      · have := HB.out.len
        rw [HN.out.1] at this
        rw [hlen]
        omega
    · have e0 := HBE.out
      have F0 : Frame (b :: blk (some ⟨g, 0, none⟩)) w w' := (Frame.of_below hBW).trans (hf.of_drew.mono fun k hk => by simp at hk; simp [blk, hk])
      exact (((F0.setc (.inl (by simp)) 1 _).setc (.inl (by simp)) 2 _).setc (.inr (by omega)) 0 _).setc (.inr (by omega)) 1 _
  have fW := sW.three
  have fp := pW.two
  have TK : TakS b (B + 1) T x y W.drew := ⟨fW.2.2.1, pW⟩
  have HA1 := Lib.hid sW
  clear f1 f2 hc1' hc2' s1 hBW HW H0 HI rW
  refine wp_region_noPanic ?_
  refine wp_region_until (S := HeldS (TakS b (B + 1) T x y)) 22 (by kernel_rfl) ?_
  obtain ⟨W0, hW0⟩ : ∃ W0, W.drew = W0 := ⟨_, rfl⟩
  rw [hW0] at HD fW fp TK ⊢
  have hHeld : HeldS (TakS b (B + 1) T x y) W0 := HeldS.mk' TK
  have hne : Nonempty (Held (TakS b (B + 1) T x y)) := ⟨⟨W0, TK⟩⟩
  have hneF : Nonempty (Held fun _ => True) := ⟨⟨W0, trivial⟩⟩
  have hfar1 := fun z : Held (TakS b (B + 1) T x y) => z.held.one
  have hfar2 := fun z : Held (TakS b (B + 1) T x y) => z.held.two.two
  clear hW0 sW pW HA1
  refine wpAnyU_run0F [true, true, true, true, true, false, true, true, true, false, true, true, true, false, true] 11 (by kernel_rfl) (by kernel_rfl) (fun _ _ _ _ h => h) (by kernel_rfl) hHeld ?_
  simp only [runOps_true, runOps_false, runOps_nil]
  repeat (first | go_big_quiet_skip | (go_big_quiet_want; go_big_quiet_op; go_big_quiet_on))
  refine wpQuiet_nil ?_
  refine wpAnyU_run0 [false, false, false, false, false, false, false, false, false, false, false, false, false, true, false, true] 9 (by kernel_rfl) (by kernel_rfl) (fun _ _ _ _ h => h) (by kernel_rfl) hHeld ?_
  simp only [runOps_true, runOps_false, runOps_nil]
  repeat (first | go_big_quiet_skip | (go_big_quiet_want; go_big_quiet_op; go_big_quiet_on))
  refine wpQuiet_nil ?_
  refine wpAnyU_run0F [false, false, false, false, false, false, false, false, false, false, false, false, false, false, false, false, true] 8 (by kernel_rfl) (by kernel_rfl) (fun _ _ _ _ h => h) (by kernel_rfl) hHeld ?_
  simp only [runOps_true, runOps_false, runOps_nil]
  repeat (first | go_big_quiet_skip | (go_big_quiet_want; go_big_quiet_op; go_big_quiet_on))
  refine wpQuiet_nil ?_
  clear hfar1 hfar2 hne hneF
  refine wpAnyU_ready (rs := [5]) (by kernel_rfl) (by simp) ?_
  refine AllReadyU.cons rfl (fun K hK => ?_) (AllReadyU.nil)
  go_simp
  go_wp2
  refine hK.out _ _ (fun _ => hHeld) ?_
  clear hK K
  refine wpAnyU_ready (rs := [9]) (by kernel_rfl) (by simp) ?_
  refine AllReadyU.cons rfl (fun K hK => ?_) (AllReadyU.nil)
  go_simp
  go_wp2_with (go_at_call 57; refine HD.out.mono ?_)
  rintro e w4 ⟨rfl, a1, a2, a3, HR⟩
  refine hK.out _ _ (fun _ => HeldS.mk' ⟨a1.three.2.2.1, a2⟩) ?_
  have hHeld1 : HeldS (TakS b (B + 1) T x y) w4 := HeldS.mk' ⟨a1.three.2.2.1, a2⟩
  have hHeld2 : HeldS (TakS b (B + 1) T x y) (w4.setCell ⟨b, 1, none⟩ (.slice (some ⟨g, 0, none⟩) (n - 1) c)) := HeldS.mk' ⟨(a1.set_any 1 _ rfl).three.2.2.1, a2.set_other (by show B + 1 ≠ b; omega) _⟩
  have t1 := a1.three
  have u1 : At (w4.setCell ⟨b, 1, none⟩ (.slice (some ⟨g, 0, none⟩) (n - 1) c)) b _ _ := a1.set_any 1 _ rfl
  have u2 : At (w4.setCell ⟨b, 1, none⟩ (.slice (some ⟨g, 0, none⟩) (n - 1) c)) (B + 1) _ _ := a2.set_other (by show B + 1 ≠ b; omega) _
  have u3 : At (w4.setCell ⟨b, 1, none⟩ (.slice (some ⟨g, 0, none⟩) (n - 1) c)) B _ _ := a3.set_other (by show B ≠ b; omega) _
  have v2 := u2.set_other (p := ⟨b, 2, none⟩) (by show B + 1 ≠ b; omega) (.int .u64 (T - y))
  have v3 := u3.set_other (p := ⟨b, 2, none⟩) (by show B ≠ b; omega) (.int .u64 (T - y))
  have x4 := ((v3.set_any 0 (.int .i64 x) rfl).set_any 1 (.int .u64 y) rfl).two
  have x1 := u1.three
  have x2 := v2.two
  have x3 := v3.two
  clear hK K HD fW fp TK hHeld a1 a2 a3 u1 u2 u3 v2 v3
  refine wpAnyU_ready (rs := [17]) (by kernel_rfl) (by simp) ?_
  refine AllReadyU.cons rfl (fun K hK => ?_) (AllReadyU.nil)
  go_simp
  refine hK.out _ _ (fun _ => hHeld1) ?_
  clear hK K
  refine wpAnyU_ready (rs := [18]) (by kernel_rfl) (by simp) ?_
  refine AllReadyU.cons rfl (fun K hK => ?_) (AllReadyU.nil)
  go_simp
  refine hK.out _ _ (fun _ => hHeld1) ?_
  clear hK K
  refine wpAnyU_ready (rs := [19]) (by kernel_rfl) (by simp) ?_
  refine AllReadyU.cons rfl (fun K hK => ?_) (AllReadyU.nil)
  go_simp
  go_wp2
  refine hK.out _ _ (fun _ => hHeld2) ?_
  clear hK K
  refine wpAnyU_ready (rs := [20]) (by kernel_rfl) (by simp) ?_
  refine AllReadyU.cons rfl (fun K hK => ?_) (AllReadyU.nil)
  go_simp
  refine hK.out _ _ (fun _ => hHeld2) ?_
  clear hK K
  refine wpAnyU_ready (rs := [21]) (by kernel_rfl) (by simp) ?_
  refine AllReadyU.cons rfl (fun K hK => ?_) (AllReadyU.nil)
  go_simp
  refine hK.out _ _ (fun _ => hHeld2) ?_
  clear hK K
  refine wpAnyU_ready (rs := [22]) (by kernel_rfl) (by simp) ?_
  refine AllReadyU.cons rfl (fun K hK => ?_) (AllReadyU.nil)
  go_simp
  go_wp2
  refine hK.out _ _ (fun h => late_no h (by kernel_rfl)) ?_
  clear hK K hHeld1 hHeld2
  refine wpAnyU_done (by kernel_rfl) ?_ _
  refine NoPanic.normal ?_
  go_wp2
  exact bodyPost_ret (v := .tuple #[.agg #[.int .i64 x, .int .u64 y], .bool true]) (by simp only [results, Try.f55]; simp [go_sem, x4]) rfl HR.out

/-- take finds nothing. -/
theorem take_empty (b : Nat) (S : List Nat) (most : Int) (i : Int) (w : World) (h : Strip w b S most []) :
    Calls Try.prog 55 #[.pointer (some ⟨b, 0, none⟩), .int .i64 i] w fun e w' => e = .returned (.tuple #[.agg #[.int .i64 0, .int .u64 0], .bool false]) ∧ Below w.heap.size w w' := by
  obtain ⟨A, c, rfl, hB⟩ := h
  have f1 := hB.at'.three
  have l1 := hB.at'.lt
  clear hB
  go_enter Try.func55, Try.ntmps55
  go_wp2
  have a1 := At.new w #[.int .i64 0, .int .u64 0] 34
  have x4 := ((a1.set_any 0 (.int .i64 0) rfl).set_any 1 (.int .u64 0) rfl).two
  exact bodyPost_ret (v := .tuple #[.agg #[.int .i64 0, .int .u64 0], .bool false]) (by simp only [results, Try.f55]; simp [go_sem, x4]) rfl ⟨rfl, (by repeat (first | with_reducible assumption | with_reducible exact Below.refl _ _ | with_reducible refine Below.drew ?_ | with_reducible refine Below.drewN ?_ _ | with_reducible refine Below.setCell ?_ (by first | omega | (simp; done) | (simp; omega)) _ | with_reducible refine Below.alloc ?_ (by first | omega | (simp; done) | (simp; omega) | (simp [World.setCell]; omega)) _))⟩
theorem take_nil (i : Int) (w : World) :
    Calls Try.prog 55 #[.pointer none, .int .i64 i] w fun e w' => e = .returned (.tuple #[.agg #[.int .i64 0, .int .u64 0], .bool false]) ∧ Below w.heap.size w w' := by
  go_enter Try.func55, Try.ntmps55
  go_wp2
  have a1 := At.new w #[.int .i64 0, .int .u64 0] 34
  have x4 := ((a1.set_any 0 (.int .i64 0) rfl).set_any 1 (.int .u64 0) rfl).two
  exact bodyPost_ret (v := .tuple #[.agg #[.int .i64 0, .int .u64 0], .bool false]) (by simp only [results, Try.f55]; simp [go_sem, x4]) rfl ⟨rfl, (by repeat (first | with_reducible assumption | with_reducible exact Below.refl _ _ | with_reducible refine Below.drew ?_ | with_reducible refine Below.drewN ?_ _ | with_reducible refine Below.setCell ?_ (by first | omega | (simp; done) | (simp; omega)) _ | with_reducible refine Below.alloc ?_ (by first | omega | (simp; done) | (simp; omega) | (simp [World.setCell]; omega)) _))⟩
end Go.Proofs.Ytooojpicbbpaaaa

