/- The walk of the statement StripDoes. -/
import Derived.Test.YtekjfbgkoneihaaProg
import Derived.Test.YtekjfbgkoneihaaOpen
import Derived.Deep.CutBlock
import Derived.Deep.DeepCutAuto
import Derived.Test.YtekjfbgkoneihaaAlive08
import Derived.Test.YtekjfbgkoneihaaLoops
import Derived.Test.YtekjfbgkoneihaaHeld
import Derived.Test.YtekjfbgkoneihaaStripFind
namespace Go.Proofs.Ytekjfbgkoneihaa
open Go.RowKit

theorem snew_gen (most : Int) (w : World) : Calls Try.prog 9 #[.int .i64 most] w fun e w' => ∃ (sv : Option Addr) (ec : Int), e = .returned (.tuple #[.pointer sv, .int .i64 ec]) ∧ Below w.heap.size w w' ∧
    Hid (((most < 1 ∨ 4096 < most) → sv = none ∧ ec = 1) ∧ (¬ (most < 1 ∨ 4096 < most) → ∃ b, sv = some ⟨b, 0, none⟩ ∧ b = w.heap.size ∧ Strip w' b [b] most [])) := by
  by_cases h : most < 1 ∨ 4096 < most
  · refine (snew_bad most w h).mono ?_
    rintro e w' ⟨rfl, rfl⟩
    exact ⟨none, 1, rfl, Below.refl _ _, fun _ => ⟨rfl, rfl⟩, fun hn => absurd h hn⟩
  · refine (snew_any most w (by omega) (by omega)).mono ?_
    rintro e w' ⟨⟨b, rfl, hb, hS⟩, hB⟩
    exact ⟨_, 0, rfl, hB, fun hn => absurd hn h, fun _ => ⟨b, rfl, hb, hS⟩⟩

def outX (ps : List (Int × Int)) (i : Nat) : Int := if ps.length = 0 then 0 else (ps.getD i (0, 0)).1
def outY (ps : List (Int × Int)) (i : Nat) : Int := if ps.length = 0 then 0 else (ps.getD i (0, 0)).2
def outB (ps : List (Int × Int)) : Bool := if ps.length = 0 then false else true
theorem outV_eq (ps : List (Int × Int)) (i : Nat) : outV ps i = .tuple #[.agg #[.int .i64 (outX ps i), .int .u64 (outY ps i)], .bool (outB ps)] := by
  unfold outV outX outY outB
  by_cases h : ps.length = 0
  · rw [if_pos h, if_pos h, if_pos h, if_pos h]
  · rw [if_neg h, if_neg h, if_neg h, if_neg h]

/-- One call of a script. -/
def doesStep (most : Int) (ps : List (Int × Int)) (kd x y : Int) : List (Int × Int) :=
  if kd = 0 then stStep most ps x y else if kd = 1 then (if ps.length = 0 then ps else outF ps 0) else if kd = 2 then (if ps.length = 0 then ps else outF ps (ps.length - 1)) else ps
def rowsD (most : Int) (l : List (Int × Int × Int)) : List (Int × Int) := l.foldl (fun ps x => doesStep most ps x.1 x.2.1 x.2.2) []
theorem rowsD_take (most : Int) (l : List (Int × Int × Int)) (k : Nat) (hk : k < l.length) : rowsD most (l.take (k + 1)) = doesStep most (rowsD most (l.take k)) (l[k]'hk).1 (l[k]'hk).2.1 (l[k]'hk).2.2 := by
  unfold rowsD
  rw [List.take_succ_eq_append_getElem hk, List.foldl_append]
  rfl

attribute [local go_sem] Oper.semAt_some
set_option maxRecDepth 100000 in
set_option maxHeartbeats 8000000 in
theorem stripDoes_walk (w : World) (most : Int) (bdmost : -9223372036854775808 ≤ most ∧ most ≤ 9223372036854775807) (Ascript : Option Addr) (cscript : Nat) (script : List (Int × Int × Int)) (rscript : Rd w Ascript (script.flatMap fun x => [.int .i64 x.1, .int .i64 x.2.1, .int .u64 x.2.2])) (bdscript : ∀ x ∈ script, (-9223372036854775808 ≤ x.1 ∧ x.1 ≤ 9223372036854775807) ∧ (-9223372036854775808 ≤ x.2.1 ∧ x.2.1 ≤ 9223372036854775807) ∧ (0 ≤ x.2.2 ∧ x.2.2 < 18446744073709551616)) (lscript : script.length ≤ 9223372036854775807) (other : Int) (bdother : -9223372036854775808 ≤ other ∧ other ≤ 9223372036854775807) :
    Calls Try.prog 7 #[.int .i64 most, .slice Ascript script.length cscript, .int .i64 other] w fun e w' => e = .returned (.bool true) ∧ Below w.heap.size w w' := by
  obtain ⟨h1, h2⟩ := bdmost
  have HOT := Lib.hid bdother
  have HR : Hid (RdC w Ascript script) := rscript
  have HO : Hid (okC script) := bdscript
  clear rscript bdscript bdother
  obtain ⟨len, hlen⟩ : ∃ len, script.length = len := ⟨_, rfl⟩
  rw [hlen] at lscript ⊢
  go_enter Try.func7, Try.ntmps7
  go_wp2_with fail
  refine (alive_any _).mono ?_
  rintro e w1 ⟨rfl, hb1⟩
  by_cases hl : 100 < len
  · have hl' : (100 : Int) < len := by omega
    go_wp2
    go_ret
    exact ⟨rfl, hb1⟩
  have hl' : ¬ (100 : Int) < len := by omega
  go_wp2_with fail
  refine (snew_gen most w1).mono ?_
  rintro e w2 ⟨sv, ec, rfl, hb2, HN⟩
  have hB2 := Lib.hid hb2
  have hbw := keep1 hb1 hb2
  clear hb2 hl
  go_wp2_with fail
  refine (sfirst_nil _).mono ?_
  rintro e w3 ⟨rfl, hb⟩
  have h3 : Below w2.heap.size w2 (w3.alloc (.cells #[.int .i64 0, .int .u64 0] 35)) := hb.alloc hb.size _
  clear hb
  go_wp2_with fail
  refine (slast_nil _).mono ?_
  rintro e w4 ⟨rfl, hb⟩
  have h4 : Below w2.heap.size w2 (w4.alloc (.cells #[.int .i64 0, .int .u64 0] 35)) := (keep1 h3 hb).alloc (keep1 h3 hb).size _
  clear hb h3
  go_wp2_with fail
  refine (snil_find 1 _).mono ?_
  rintro e w5 ⟨rfl, rfl⟩
  go_wp2_with fail
  refine (snil_ends _).mono ?_
  rintro e w5 ⟨rfl, rfl⟩
  go_wp2_with fail
  refine (snil_add 1 1 _).mono ?_
  rintro e w5 ⟨rfl, rfl⟩
  go_wp2_with fail
  refine (snil_at 1 _).mono ?_
  rintro e w5 ⟨rfl, rfl⟩
  go_wp2_with fail
  refine (snil_total _).mono ?_
  rintro e w5 ⟨rfl, rfl⟩
  go_wp2_with fail
  refine (snil_below 1 _).mono ?_
  rintro e w5 ⟨rfl, hb⟩
  have h5 := keep1 h4 hb
  clear h4 hb
  go_wp2_with fail
  refine (snil_len _).mono ?_
  rintro e w6 ⟨rfl, rfl⟩
  go_wp2_with fail
  refine (snil_pairs _).mono ?_
  rintro e w6 ⟨rfl, rfl⟩
  have hbw5 := keep1 hbw h5
  by_cases hm1 : most < 1
  · obtain ⟨rfl, rfl⟩ := HN.out.1 (.inl hm1)
    go_wp2
    go_ret
    exact ⟨rfl, hbw5⟩
  by_cases hm2 : 4096 < most
  · obtain ⟨rfl, rfl⟩ := HN.out.1 (.inr hm2)
    go_wp2
    go_ret
    exact ⟨rfl, hbw5⟩
  obtain ⟨b, rfl, hbe, hC⟩ := HN.out.2 (by omega)
  obtain ⟨B, hBe⟩ : ∃ B, w1.heap.size = B := ⟨_, rfl⟩
  have hT : Two B w1 (w5.alloc (.cells #[.int .i64 most, .slice none 0 0] 53)) [b] [w5.heap.size] (Strip (w5.alloc (.cells #[.int .i64 most, .slice none 0 0] 53)) b [b] most []) (DocS (w5.alloc (.cells #[.int .i64 most, .slice none 0 0] 53)) w5.heap.size [w5.heap.size] most []) := by
    have z2 := hB2.out.size
    have z5 := h5.size
    have hlt := hC.lt b (by simp)
    have h6 : Below w2.heap.size w2 (w5.alloc (.cells #[.int .i64 most, .slice none 0 0] 53)) := h5.alloc z5 _
    subst hBe
    refine ⟨hC.below h6, ⟨none, 0, rfl, At.new _ _ _, Own2.nil _ _, by simp [blk]⟩, fun k hk => ?_, fun k hk => ?_, fun k hk => ?_, keep1 hB2.out h6, by simp; omega⟩
    · rw [List.mem_singleton] at hk; subst hk; simp; omega
    · rw [List.mem_singleton] at hk; subst hk; simp; omega
    · rw [List.mem_singleton] at hk ⊢; omega
  clear hC hbe hbw hbw5 h5 hB2 h1 h2 HN
  go_wp2
  clear hm1 hm2
  generalize w5.alloc (.cells #[.int .i64 most, .slice none 0 0] 53) = W2 at hT ⊢
  generalize w5.heap.size = m at hT ⊢
  go_loopw [21, 117] (fun _ i wr => ∃ k : Nat, ∃ S T, k ≤ len ∧ i = .int .i64 k ∧ Hid (Two B w1 wr S T (Strip wr b S most (rowsD most (script.take k))) (DocS wr m T most (rowsD most (script.take k))))) (fun _ i _ => len - (intOf i).toNat)
  case atStart => exact ⟨0, [b], [m], by omega, rfl, hT⟩
  case round =>
    obtain ⟨k, S, T, hk, rfl, H⟩ := hrel
    by_cases hlt : k < len
    · obtain ⟨g, o, rfl, hg, c1, c2, c3⟩ := ((HR.out.below hb1).below (hBe ▸ H.out.below)).at k (by omega)
      obtain ⟨⟨a1, a2⟩, ⟨b1, b2⟩, b3, b4⟩ := HO.out.at k (by omega)
      have HS := Lib.hid (rowsD_take most script k (by omega))
      obtain ⟨⟨kd, x, y⟩, hx⟩ : ∃ x, script[k]'(by omega) = x := ⟨_, rfl⟩
      rw [hx] at c1 c2 c3 a1 a2 b1 b2 b3 b4 HS
      clear hx
      dsimp only at c1 c2 c3 a1 a2 b1 b2 b3 b4 HS
      have HB := Lib.hid (And.intro (And.intro b1 b2) (And.intro b3 b4))
      clear a1 a2 b1 b2 b3 b4
      have zH := H.out.size
      obtain ⟨ps, hps⟩ : ∃ ps, rowsD most (script.take k) = ps := ⟨_, rfl⟩
      rw [hps] at H HS
      have hPS : wr.heap.size ∉ S := fun h => by have := (H.out.ws _ h).2; omega
      have hPT : wr.heap.size ∉ T := fun h => by have := (H.out.wt _ h).2; omega
      have HZ := fun h : Below wr.heap.size wr (wr.alloc (.cells #[.int .i64 kd, .int .i64 x, .int .u64 y] 30)) => Lib.hid (H.out.belowW h (fun k => k.below h) (fun k => k.below h))
      replace HZ := HZ ((Below.refl _ _).alloc (Nat.le_refl _) _)
      have HP := Lib.hid (And.intro hPS hPT)
      clear H hPS hPT hps
      go_upto_block 2 with fail
      refine gen_world (fun W => At W wr.heap.size #[.int .i64 kd, .int .i64 x, .int .u64 y] 30 ∧ Hid (Two B w1 W S T (Strip W b S most ps) (DocS W m T most ps))) ⟨At.new _ _ _, HZ⟩ ?_
      rintro W ⟨sP, H1⟩
      clear HZ
      obtain ⟨pB, hpB⟩ : ∃ pB, wr.heap.size = pB := ⟨_, rfl⟩
      rw [hpB] at sP HP ⊢
      clear hpB c1 c2 c3
      obtain ⟨qs, hqs⟩ : ∃ qs, doesStep most ps kd x y = qs := ⟨_, rfl⟩
      rw [hqs] at HS
      go_cut [22] (fun s22 wc => s22 = .bool true ∧ ∃ S' T', Hid (Two B w1 wc S' T' (Strip wc b S' most qs) (DocS wc m T' most qs)) ∧ At wc pB #[.int .i64 kd, .int .i64 x, .int .u64 y] 30)
      case first =>
        clear HS
        as_aux_lemma =>
          by_cases k0 : kd = 0
          · subst k0
            have HQ : Hid (qs = stStep most ps x y) := by show _ = _; rw [← hqs]; rfl
            clear hqs
            go_wp2
            have H0 := H1.out.belowW ((Below.refl _ _).drew) (fun k => k.below ((Below.refl _ _).drew)) (fun k => k.below ((Below.refl _ _).drew))
            replace H1 := Lib.hid H0
            clear H0
            haveI : Nonempty (Held fun w' => At w' pB #[.int .i64 0, .int .i64 x, .int .u64 y] 30) := ⟨⟨W, sP⟩⟩
            have hfar := fun z : Held fun w' => At w' pB #[.int .i64 0, .int .i64 x, .int .u64 y] 30 => z.held.three
            refine wp_region_noPanic ?_
            refine wp_region_held_drew (S := HeldS fun w' => At w' pB #[.int .i64 0, .int .i64 x, .int .u64 y] 30) (by kernel_rfl) (HeldS.mk' sP.drew) (fun hHeld => ?_)
            refine wpAnyH_run0 [true, true, true, true, true, false, true, true, true, true, true] 4 (by kernel_rfl) (by kernel_rfl) (fun _ _ _ _ h => h) (by kernel_rfl) hHeld ?_
            simp only [runOps_true, runOps_false, runOps_nil]
            repeat (first | go_big_quiet_skip | (go_big_quiet_want; go_big_quiet_op; go_big_quiet_on))
            refine wpQuiet_nil ?_
            refine wpAnyH_ready (rs := [5]) (by kernel_rfl) (by simp) ?_
            refine AllReadyH.cons rfl (fun K hK => ?_) AllReadyH.nil
            go_simp
            go_wp2_with (go_at_call 10; refine (sadd_any b S most ps x y _ H1.out.x HB.out.2.1 HB.out.2.2 HB.out.1).mono ?_; rintro e w3 ⟨rfl, S3, hg3, hC3, hF3⟩)
            refine hK.out _ _ ?_ (fun hHeld => ?_)
            clear hK K
            · exact HeldS.mk' (hF3.at sP.drew HP.out.1)
            replace sP := hF3.at sP.drew HP.out.1
            have hps := Lib.hid (And.intro H1.out.x.ok (And.intro H1.out.x.gd (And.intro H1.out.x.sum H1.out.x.len)))
            have H3 := Lib.hid (H1.out.stepX hg3 hC3 hC3.lt hF3 (H1.out.y.frame hF3 H1.out.ap.symm))
            clear H1 hF3 hg3 hC3
            refine wpAnyH_ready (rs := [11]) (by kernel_rfl) (by simp) ?_
            refine AllReadyH.cons rfl (fun K hK => ?_) AllReadyH.nil
            go_simp
            go_wp2_with (go_at_call 23; refine (dadd_any m T most ps x y _ H3.out.y hps.out.1 hps.out.2.1 hps.out.2.2.1 hps.out.2.2.2.2 HB.out.2.1 HB.out.2.2 HB.out.1).mono ?_; rintro e w4 ⟨rfl, T4, hg4, hD4, hF4⟩)
            refine hK.out _ _ ?_ (fun hHeld => ?_)
            clear hK K
            · exact HeldS.mk' (hF4.at sP HP.out.2)
            replace sP := hF4.at sP HP.out.2
            have H4 := Lib.hid (H3.out.stepY hg4 hD4 hD4.lt hF4 (H3.out.x.frame hF4 H3.out.ap))
            rw [← HQ.out] at H4
            clear H3 hF4 hg4 hD4 hps
            generalize stCode most ps x y = c0
            refine wpAnyH_run0 [false, false, false, false, false, false, false, false, false, false, false, false, true, true] 0 (by kernel_rfl) (by kernel_rfl) (fun _ _ _ _ h => h) (by kernel_rfl) hHeld ?_
            simp only [runOps_true, runOps_false, runOps_nil]
            repeat (first | go_big_quiet_skip | (go_big_quiet_want; go_big_quiet_op; go_big_quiet_on))
            refine wpQuiet_nil ?_
            refine wpAnyH_done (by kernel_rfl) ?_ _
            refine NoPanic.normal ?_
            clear hfar hHeld
            go_wp2
            go_meet
            case rel => exact ⟨by first | rfl | simp, S3, T4, H4, sP⟩
          by_cases k1 : kd = 1
          · subst k1
            have HQ : Hid (qs = if ps.length = 0 then ps else outF ps 0) := by show _ = _; rw [← hqs]; rfl
            clear hqs k0
            have HE : Hid (outV ps 0 = .tuple #[.agg #[.int .i64 (outX ps 0), .int .u64 (outY ps 0)], .bool (outB ps)]) := outV_eq ps 0
            obtain ⟨ox, hox⟩ : ∃ ox, outX ps 0 = ox := ⟨_, rfl⟩
            obtain ⟨oy, hoy⟩ : ∃ oy, outY ps 0 = oy := ⟨_, rfl⟩
            obtain ⟨ob, hob⟩ : ∃ ob, outB ps = ob := ⟨_, rfl⟩
            rw [hox, hoy, hob] at HE
            clear hox hoy hob
            have hln := H1.out.x.len
            go_wp2_with fail
            refine (sfirst_any b S most ps W H1.out.x).mono ?_
            rintro e w6 ⟨rfl, hS, hF⟩
            rw [HE.out]
            have H3 := Lib.hid (H1.out.stepX (GrownS.refl _ _) hS hS.lt hF (H1.out.y.frame hF H1.out.ap.symm))
            replace sP := hF.at sP HP.out.1
            have z6 := hF.size
            clear hS hF H1
            have hbA := (Below.refl w6.heap.size w6).alloc (Nat.le_refl _) (.cells #[.int .i64 ox, .int .u64 oy] 35)
            have H4 := Lib.hid (H3.out.belowW hbA (fun k => k.below hbA) (fun k => k.below hbA))
            have sA := At.new w6 #[.int .i64 ox, .int .u64 oy] 35
            have hA6 : w6.heap.size ∉ T := fun h => by have := (H3.out.wt _ h).2; omega
            have sPA := sP.below hbA
            clear H3
            go_wp2_with fail
            refine (dfirst_any m T most ps _ H4.out.y hln.2).mono ?_
            rintro e w8 ⟨rfl, T4, hg4, hD4, hF4⟩
            rw [HE.out]
            have H5 := Lib.hid (H4.out.stepY hg4 hD4 hD4.lt hF4 (H4.out.x.frame hF4 H4.out.ap))
            replace sP := hF4.at sPA HP.out.2
            replace sA := hF4.at sA hA6
            clear hg4 hD4 hF4 H4 hbA sPA
            have hbC := (Below.refl w8.heap.size w8).alloc (Nat.le_refl _) (.cells #[.int .i64 ox, .int .u64 oy] 35)
            have H6 := Lib.hid (H5.out.belowW hbC (fun k => k.below hbC) (fun k => k.below hbC))
            have sC := At.new w8 #[.int .i64 ox, .int .u64 oy] 35
            have fA := (sA.below hbC).two
            have fC := sC.two
            have sPC := sP.below hbC
            have lA := sA.lt
            clear H5 hA6
            go_wp2
            go_meet
            case rel => exact ⟨by first | rfl | simp, S, T4, (by rw [HQ.out]; exact H6), sPC⟩
          by_cases k2 : kd = 2
          · subst k2
            have HQ : Hid (qs = if ps.length = 0 then ps else outF ps (ps.length - 1)) := by show _ = _; rw [← hqs]; rfl
            clear hqs k0 k1
            have HE : Hid (outV ps (ps.length - 1) = .tuple #[.agg #[.int .i64 (outX ps (ps.length - 1)), .int .u64 (outY ps (ps.length - 1))], .bool (outB ps)]) := outV_eq ps (ps.length - 1)
            obtain ⟨ox, hox⟩ : ∃ ox, outX ps (ps.length - 1) = ox := ⟨_, rfl⟩
            obtain ⟨oy, hoy⟩ : ∃ oy, outY ps (ps.length - 1) = oy := ⟨_, rfl⟩
            obtain ⟨ob, hob⟩ : ∃ ob, outB ps = ob := ⟨_, rfl⟩
            rw [hox, hoy, hob] at HE
            clear hox hoy hob
            have hln := H1.out.x.len
            go_wp2_with fail
            refine (slast_any b S most ps W H1.out.x).mono ?_
            rintro e w6 ⟨rfl, hS, hF⟩
            rw [HE.out]
            have H3 := Lib.hid (H1.out.stepX (GrownS.refl _ _) hS hS.lt hF (H1.out.y.frame hF H1.out.ap.symm))
            replace sP := hF.at sP HP.out.1
            have z6 := hF.size
            clear hS hF H1
            have hbA := (Below.refl w6.heap.size w6).alloc (Nat.le_refl _) (.cells #[.int .i64 ox, .int .u64 oy] 35)
            have H4 := Lib.hid (H3.out.belowW hbA (fun k => k.below hbA) (fun k => k.below hbA))
            have sA := At.new w6 #[.int .i64 ox, .int .u64 oy] 35
            have hA6 : w6.heap.size ∉ T := fun h => by have := (H3.out.wt _ h).2; omega
            have sPA := sP.below hbA
            clear H3
            go_wp2_with fail
            refine (dlast_any m T most ps _ H4.out.y hln.2).mono ?_
            rintro e w8 ⟨rfl, T4, hg4, hD4, hF4⟩
            rw [HE.out]
            have H5 := Lib.hid (H4.out.stepY hg4 hD4 hD4.lt hF4 (H4.out.x.frame hF4 H4.out.ap))
            replace sP := hF4.at sPA HP.out.2
            replace sA := hF4.at sA hA6
            clear hg4 hD4 hF4 H4 hbA sPA
            have hbC := (Below.refl w8.heap.size w8).alloc (Nat.le_refl _) (.cells #[.int .i64 ox, .int .u64 oy] 35)
            have H6 := Lib.hid (H5.out.belowW hbC (fun k => k.below hbC) (fun k => k.below hbC))
            have sC := At.new w8 #[.int .i64 ox, .int .u64 oy] 35
            have fA := (sA.below hbC).two
            have fC := sC.two
            have sPC := sP.below hbC
            have lA := sA.lt
            clear H5 hA6
            go_wp2
            go_meet
            case rel => exact ⟨by first | rfl | simp, S, T4, (by rw [HQ.out]; exact H6), sPC⟩
          · have HQ : Hid (qs = ps) := by show _ = _; rw [← hqs]; unfold doesStep; rw [if_neg k0, if_neg k1, if_neg k2]
            clear hqs
            go_wp2
            go_meet
            case rel => exact ⟨rfl, S, T, (by rw [HQ.out]; exact H1), sP⟩
      case rest =>
        obtain ⟨rfl, S4, T4, H4, sP4⟩ := hcut
        have hln := H4.out.x.len
        have hsq := H4.out.x.sum
        have hok4 := Lib.hid H4.out.x.ok
        have hgd4 := Lib.hid H4.out.x.gd
        have hs0 := sumP_nonneg hgd4.out.pos
        have HOT2 := HOT
        clear HP sP H1 hqs
        go_wp2
        have H0 := H4.out.belowW ((Below.refl _ _).drew) (fun k => k.below ((Below.refl _ _).drew)) (fun k => k.below ((Below.refl _ _).drew))
        replace H4 := Lib.hid H0
        clear H0
        have sP := sP4.drew
        clear sP4
        obtain ⟨A2, cap2, _, hD⟩ := H4.out.y
        have d1 := hD.at'
        have d2 := Lib.hid hD.own.rd
        clear hD
        obtain ⟨WD, hWD⟩ : ∃ WD, wc.drew = WD := ⟨_, rfl⟩
        haveI : Nonempty (Held fun w' => At w' pB #[.int .i64 kd, .int .i64 x, .int .u64 y] 30 ∧ At w' m #[.int .i64 most, .slice A2 qs.length cap2] 53) := ⟨⟨wc.drew, sP, d1⟩⟩
        have hfar1 := fun z : Held fun w' => At w' pB #[.int .i64 kd, .int .i64 x, .int .u64 y] 30 ∧ At w' m #[.int .i64 most, .slice A2 qs.length cap2] 53 => z.held.1.three
        have hfar2 := fun z : Held fun w' => At w' pB #[.int .i64 kd, .int .i64 x, .int .u64 y] 30 ∧ At w' m #[.int .i64 most, .slice A2 qs.length cap2] 53 => z.held.2.two
        refine wp_region_noPanic ?_
        refine wp_region_held_drew (S := HeldS fun w' => At w' pB #[.int .i64 kd, .int .i64 x, .int .u64 y] 30 ∧ At w' m #[.int .i64 most, .slice A2 qs.length cap2] 53) (by kernel_rfl) (HeldS.mk' ⟨sP, d1⟩) (fun hHeld => ?_)
        clear hWD
        refine wpAnyH_run0 [true, true, true, true, false, true, true, true, true] 50 (by kernel_rfl) (by kernel_rfl) (fun _ _ _ _ h => h) (by kernel_rfl) hHeld ?_
        simp only [runOps_true, runOps_false, runOps_nil]
        repeat (first | go_big_quiet_skip | (go_big_quiet_want; go_big_quiet_op; go_big_quiet_on))
        refine wpQuiet_nil ?_
        refine wpAnyH_ready (rs := [4]) (by kernel_rfl) (by simp) ?_
        refine AllReadyH.cons rfl (fun K hK => ?_) AllReadyH.nil
        go_simp
        go_wp2_with (go_at_call 11; refine (spairs_any b S4 most qs _ H4.out.x).mono ?_; rintro e w5 ⟨A1, cap1, rfl, HA1, hb⟩)
        refine hK.out _ _ ?_ (fun hHeld => ?_)
        clear hK K
        · exact HeldS.mk' ⟨sP.below hb, d1.below hb⟩
        replace sP := sP.below hb
        replace d1 := d1.below hb
        replace d2 := Lib.hid (RdP.below d2.out hb)
        replace H4 := Lib.hid (H4.out.belowW hb (fun k => k.below hb) (fun k => k.below hb))
        clear hb
        replace HA1 := Lib.hid HA1.rd
        refine wpAnyH_ready (rs := [9]) (by kernel_rfl) (by simp) ?_
        refine AllReadyH.cons rfl (fun K hK => ?_) AllReadyH.nil
        go_simp
        go_wp2_with (go_at_call 12; refine (same_any A1 A2 qs.length cap1 qs.length cap2 qs qs _ rfl rfl (by omega) (by omega) HA1.out d2.out).mono ?_; rintro e w6 ⟨rfl, hb⟩; rw [decide_eq_true rfl])
        refine hK.out _ _ ?_ (fun hHeld => ?_)
        clear hK K
        · exact HeldS.mk' ⟨sP.below hb, d1.below hb⟩
        replace sP := sP.below hb
        replace d1 := d1.below hb
        replace d2 := Lib.hid (RdP.below d2.out hb)
        replace H4 := Lib.hid (H4.out.belowW hb (fun k => k.below hb) (fun k => k.below hb))
        clear hb
        clear HA1
        refine wpAnyH_run0 [false, false, false, false, false, false, false, false, false, false, true, true, true, true, false, true, true, true, true] 40 (by kernel_rfl) (by kernel_rfl) (fun _ _ _ _ h => h) (by kernel_rfl) hHeld ?_
        simp only [runOps_true, runOps_false, runOps_nil]
        repeat (first | go_big_quiet_skip | (go_big_quiet_want; go_big_quiet_op; go_big_quiet_on))
        refine wpQuiet_nil ?_
        refine wpAnyH_ready (rs := [14]) (by kernel_rfl) (by simp) ?_
        refine AllReadyH.cons rfl (fun K hK => ?_) AllReadyH.nil
        go_simp
        go_wp2_with (go_at_call 18; refine (stotal_any b S4 most qs _ H4.out.x).mono ?_; rintro e w7 ⟨rfl, rfl⟩)
        refine hK.out _ _ ?_ (fun hHeld => ?_)
        clear hK K
        · exact HeldS.mk' ⟨sP, d1⟩
        refine wpAnyH_ready (rs := [19]) (by kernel_rfl) (by simp) ?_
        refine AllReadyH.cons rfl (fun K hK => ?_) AllReadyH.nil
        go_simp
        go_wp2_with (go_at_call 26; refine (total_any A2 qs.length cap2 qs _ rfl (by omega) d2.out hok4.out).mono ?_; rintro e w8 ⟨rfl, hb⟩; rw [Int.emod_eq_of_lt hs0 (by omega)])
        refine hK.out _ _ ?_ (fun hHeld => ?_)
        clear hK K
        · exact HeldS.mk' ⟨sP.below hb, d1.below hb⟩
        replace sP := sP.below hb
        replace d1 := d1.below hb
        replace d2 := Lib.hid (RdP.below d2.out hb)
        replace H4 := Lib.hid (H4.out.belowW hb (fun k => k.below hb) (fun k => k.below hb))
        clear hb
        refine wpAnyH_run0 [false, false, false, false, false, false, false, false, false, false, false, false, false, false, false, false, false, false, false, false, true, true, true, true, false, true, true, true, true, true] 29 (by kernel_rfl) (by kernel_rfl) (fun _ _ _ _ h => h) (by kernel_rfl) hHeld ?_
        simp only [runOps_true, runOps_false, runOps_nil]
        repeat (first | go_big_quiet_skip | (go_big_quiet_want; go_big_quiet_op; go_big_quiet_on))
        refine wpQuiet_nil ?_
        refine wpAnyH_ready (rs := [24]) (by kernel_rfl) (by simp) ?_
        refine AllReadyH.cons rfl (fun K hK => ?_) AllReadyH.nil
        go_simp
        go_wp2_with (go_at_call 19; refine (slen_any b S4 most qs _ H4.out.x).mono ?_; rintro e w9 ⟨rfl, rfl⟩)
        refine hK.out _ _ ?_ (fun hHeld => ?_)
        clear hK K
        · exact HeldS.mk' ⟨sP, d1⟩
        refine wpAnyH_run0 [false, false, false, false, false, false, false, false, false, false, false, false, false, false, false, false, false, false, false, false, false, false, false, false, false, false, false, false, false, false, true, true, true, true, true, false, true, true, true, true, true] 18 (by kernel_rfl) (by kernel_rfl) (fun _ _ _ _ h => h) (by kernel_rfl) hHeld ?_
        simp only [runOps_true, runOps_false, runOps_nil]
        repeat (first | go_big_quiet_skip | (go_big_quiet_want; go_big_quiet_op; go_big_quiet_on))
        refine wpQuiet_nil ?_
        have hc3 := cnt_nonneg hgd4.out.pos other
        have hc4 := cnt_le_sumP hgd4.out.pos other
        refine wpAnyH_ready (rs := [35]) (by kernel_rfl) (by simp) ?_
        refine AllReadyH.cons rfl (fun K hK => ?_) AllReadyH.nil
        go_simp
        go_wp2_with (go_at_call 22; refine (sat_any b S4 most qs other _ H4.out.x).mono ?_; rintro e w10 ⟨rfl, hb⟩)
        refine hK.out _ _ ?_ (fun hHeld => ?_)
        clear hK K
        · exact HeldS.mk' ⟨sP.below hb, d1.below hb⟩
        replace sP := sP.below hb
        replace d1 := d1.below hb
        replace d2 := Lib.hid (RdP.below d2.out hb)
        replace H4 := Lib.hid (H4.out.belowW hb (fun k => k.below hb) (fun k => k.below hb))
        clear hb
        refine wpAnyH_ready (rs := [41]) (by kernel_rfl) (by simp) ?_
        refine AllReadyH.cons rfl (fun K hK => ?_) AllReadyH.nil
        go_simp
        go_wp2_with (go_at_call 27; refine (count_any A2 qs.length cap2 qs other _ rfl (by omega) d2.out hok4.out).mono ?_; rintro e w11 ⟨rfl, hb⟩; rw [show sumP (qs.filter fun z => decide (z.1 = other)) = cnt qs other from rfl, Int.emod_eq_of_lt hc3 (by omega)])
        refine hK.out _ _ ?_ (fun hHeld => ?_)
        clear hK K
        · exact HeldS.mk' ⟨sP.below hb, d1.below hb⟩
        replace sP := sP.below hb
        replace d1 := d1.below hb
        replace d2 := Lib.hid (RdP.below d2.out hb)
        replace H4 := Lib.hid (H4.out.belowW hb (fun k => k.below hb) (fun k => k.below hb))
        clear hb
        have hc1 := cnt_nonneg hgd4.out.pos x
        have hc2 := cnt_le_sumP hgd4.out.pos x
        refine wpAnyH_run0 [false, false, false, false, false, false, false, false, false, false, false, false, false, false, false, false, false, false, false, false, false, false, false, false, false, false, false, false, false, false, false, false, false, false, false, false, false, false, false, false, false, false, true, true, true, true, true, true, false, true, true, true, true, true, true] 4 (by kernel_rfl) (by kernel_rfl) (fun _ _ _ _ h => h) (by kernel_rfl) hHeld ?_
        simp only [runOps_true, runOps_false, runOps_nil]
        repeat (first | go_big_quiet_skip | (go_big_quiet_want; go_big_quiet_op; go_big_quiet_on))
        refine wpQuiet_nil ?_
        refine wpAnyH_ready (rs := [48]) (by kernel_rfl) (by simp) ?_
        refine AllReadyH.cons rfl (fun K hK => ?_) AllReadyH.nil
        go_simp
        go_wp2_with (go_at_call 22; refine (sat_any b S4 most qs x _ H4.out.x).mono ?_; rintro e w12 ⟨rfl, hb⟩)
        refine hK.out _ _ ?_ (fun hHeld => ?_)
        clear hK K
        · exact HeldS.mk' ⟨sP.below hb, d1.below hb⟩
        replace sP := sP.below hb
        replace d1 := d1.below hb
        replace d2 := Lib.hid (RdP.below d2.out hb)
        replace H4 := Lib.hid (H4.out.belowW hb (fun k => k.below hb) (fun k => k.below hb))
        clear hb
        refine wpAnyH_ready (rs := [55]) (by kernel_rfl) (by simp) ?_
        refine AllReadyH.cons rfl (fun K hK => ?_) AllReadyH.nil
        go_simp
        go_wp2_with (go_at_call 27; refine (count_any A2 qs.length cap2 qs x _ rfl (by omega) d2.out hok4.out).mono ?_; rintro e w13 ⟨rfl, hb⟩; rw [show sumP (qs.filter fun z => decide (z.1 = x)) = cnt qs x from rfl, Int.emod_eq_of_lt hc1 (by omega)])
        refine hK.out _ _ ?_ (fun hHeld => ?_)
        clear hK K
        · exact HeldS.mk' ⟨sP.below hb, d1.below hb⟩
        replace sP := sP.below hb
        replace d1 := d1.below hb
        replace d2 := Lib.hid (RdP.below d2.out hb)
        replace H4 := Lib.hid (H4.out.belowW hb (fun k => k.below hb) (fun k => k.below hb))
        clear hb
        refine wpAnyH_run0 [false, false, false, false, false, false, false, false, false, false, false, false, false, false, false, false, false, false, false, false, false, false, false, false, false, false, false, false, false, false, false, false, false, false, false, false, false, false, false, false, false, false, false, false, false, false, false, false, false, false, false, false, false, false, false, false, true, true] 0 (by kernel_rfl) (by kernel_rfl) (fun _ _ _ _ h => h) (by kernel_rfl) hHeld ?_
        simp only [runOps_true, runOps_false, runOps_nil]
        repeat (first | go_big_quiet_skip | (go_big_quiet_want; go_big_quiet_op; go_big_quiet_on))
        refine wpQuiet_nil ?_
        refine wpAnyH_done (by kernel_rfl) ?_ _
        refine NoPanic.normal ?_
        clear hfar1 hfar2 hHeld hc1 hc2 hc3 hc4
        as_aux_lemma =>
          rw [← HS.out] at H4
          obtain ⟨n, hn⟩ : ∃ n, qs.length = n := ⟨_, rfl⟩
          clear sP HOT2 hs0 hgd4 hok4 hsq
          rw [hn] at d1 hln
          have HNN := Lib.hid hn
          have HEN := Lib.hid (sends_any b S4 most qs w13 (by rw [HS.out] at H4; exact H4.out.x))
          simp only [hn]
          clear hn
          go_wp2_with fail
          refine HEN.out.mono ?_
          rintro e w14 ⟨rfl, hb⟩
          replace d1 := d1.below hb
          replace d2 := Lib.hid (RdP.below d2.out hb)
          replace H4 := Lib.hid (H4.out.belowW hb (fun k => k.below hb) (fun k => k.below hb))
          clear hb HEN HS
          have f1 := d1.two
          by_cases h0 : n = 0
          · subst h0
            rw [show endsV qs = .tuple #[.int .i64 0, .int .i64 0, .bool false] by unfold endsV; rw [if_pos HNN.out]]
            go_wp2
            go_quiet (fail)
            go_wp2
            go_roundw
            case rel => exact ⟨k + 1, S4, T4, by omega, by simp, Lib.hid (H4.out.belowW (by repeat (first | with_reducible assumption | with_reducible exact Below.refl _ _ | with_reducible refine Below.drew ?_ | with_reducible refine Below.drewN ?_ _ | with_reducible refine Below.setCell ?_ (by first | omega | (simp; done) | (simp; omega)) _ | with_reducible refine Below.alloc ?_ (by first | omega | (simp; done) | (simp; omega) | (simp [World.setCell]; omega)) _)) (fun k => k.below (by repeat (first | with_reducible assumption | with_reducible exact Below.refl _ _ | with_reducible refine Below.drew ?_ | with_reducible refine Below.drewN ?_ _ | with_reducible refine Below.setCell ?_ (by first | omega | (simp; done) | (simp; omega)) _ | with_reducible refine Below.alloc ?_ (by first | omega | (simp; done) | (simp; omega) | (simp [World.setCell]; omega)) _))) (fun k => k.below (by repeat (first | with_reducible assumption | with_reducible exact Below.refl _ _ | with_reducible refine Below.drew ?_ | with_reducible refine Below.drewN ?_ _ | with_reducible refine Below.setCell ?_ (by first | omega | (simp; done) | (simp; omega)) _ | with_reducible refine Below.alloc ?_ (by first | omega | (simp; done) | (simp; omega) | (simp [World.setCell]; omega)) _))))⟩
            case measure => simp [intOf]; omega
          · obtain ⟨g2, o2, rfl, hg2, e1, _⟩ := d2.out.at' 0 (by rw [HNN.out]; omega)
            obtain ⟨g3, o3, he, hg3, e3, _⟩ := d2.out.at' (n - 1) (by rw [HNN.out]; omega)
            cases he
            rw [show endsV qs = .tuple #[.int .i64 (qs.getD 0 (0, 0)).1, .int .i64 (qs.getD (n - 1) (0, 0)).1, .bool true] by unfold endsV; rw [if_neg (by rw [HNN.out]; exact h0), HNN.out]]
            obtain ⟨lo, hlo⟩ : ∃ lo, (qs.getD 0 (0, 0)).1 = lo := ⟨_, rfl⟩
            obtain ⟨hi, hhi⟩ : ∃ hi, (qs.getD (n - 1) (0, 0)).1 = hi := ⟨_, rfl⟩
            rw [hlo] at e1 ⊢
            rw [hhi] at e3 ⊢
            rw [Nat.zero_mul, Nat.add_zero] at e1
            have v1 : IntKind.i64.wrap ((n : Int) - 1) = ((n - 1 : Nat) : Int) := by simp only [IntKind.wrap_i64]; omega
            have n1 : ((n - 1 : Nat) : Int) < n := by omega
            have n2 : (0 : Int) ≤ ((n - 1 : Nat) : Int) := by omega
            have n3 : (0 : Int) < n := by omega
            have n4 : 0 < n := by omega
            have n5 : n - 1 < n := by omega
            clear hlo hhi h0 hln
            go_wp2
            go_quiet (fail)
            go_wp2
            go_roundw
            case rel => exact ⟨k + 1, S4, T4, by omega, by simp, Lib.hid (H4.out.belowW (by repeat (first | with_reducible assumption | with_reducible exact Below.refl _ _ | with_reducible refine Below.drew ?_ | with_reducible refine Below.drewN ?_ _ | with_reducible refine Below.setCell ?_ (by first | omega | (simp; done) | (simp; omega)) _ | with_reducible refine Below.alloc ?_ (by first | omega | (simp; done) | (simp; omega) | (simp [World.setCell]; omega)) _)) (fun k => k.below (by repeat (first | with_reducible assumption | with_reducible exact Below.refl _ _ | with_reducible refine Below.drew ?_ | with_reducible refine Below.drewN ?_ _ | with_reducible refine Below.setCell ?_ (by first | omega | (simp; done) | (simp; omega)) _ | with_reducible refine Below.alloc ?_ (by first | omega | (simp; done) | (simp; omega) | (simp [World.setCell]; omega)) _))) (fun k => k.below (by repeat (first | with_reducible assumption | with_reducible exact Below.refl _ _ | with_reducible refine Below.drew ?_ | with_reducible refine Below.drewN ?_ _ | with_reducible refine Below.setCell ?_ (by first | omega | (simp; done) | (simp; omega)) _ | with_reducible refine Below.alloc ?_ (by first | omega | (simp; done) | (simp; omega) | (simp [World.setCell]; omega)) _))))⟩
            case measure => simp [intOf]; omega
    · obtain rfl : k = len := by omega
      have hb := Lib.hid H.out.below
      have hz := H.out.size
      clear H HR HO hT
      go_wp2
      go_ret
      exact ⟨rfl, hb1.trans (hb.out.mono (by have := hb1.size; omega))⟩
end Go.Proofs.Ytekjfbgkoneihaa

