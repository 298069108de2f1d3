/- The walk of the statement CrateAdds. -/
import Derived.Test.YtogidoohgfmbfaaProg
import Derived.Test.YtogidoohgfmbfaaOpen
import Derived.Test.YtogidoohgfmbfaaAlive07
import Derived.Test.YtogidoohgfmbfaaTurn
import Derived.Test.YtogidoohgfmbfaaHeld
namespace Go.Proofs.Ytogidoohgfmbfaa
open Go.RowKit Go.Shelf Go.BigFrame

attribute [local go_sem] Oper.semAt_some

set_option maxRecDepth 100000 in
set_option maxHeartbeats 4000000 in
theorem crateAdds_walk (w : World) (Alist : Option Addr) (clist : Nat) (list : List (Int × Int)) (rlist : Rd w Alist (list.flatMap fun x => [.int .i64 x.1, .int .u64 x.2])) (bdlist : ∀ x ∈ list, (-9223372036854775808 ≤ x.1 ∧ x.1 ≤ 9223372036854775807) ∧ (0 ≤ x.2 ∧ x.2 < 18446744073709551616)) (llist : list.length ≤ 9223372036854775807) (other : Int) (bdother : -9223372036854775808 ≤ other ∧ other ≤ 9223372036854775807) :
    Calls Try.prog 6 #[.slice Alist list.length clist, .int .i64 other] w fun e w' => e = .returned (.bool true) ∧ Below w.heap.size w w' := by
  obtain ⟨h3, h4⟩ := bdother
  have HR : Hid (RdP w Alist list) := rlist
  have HO : Hid (okP list) := bdlist
  clear rlist bdlist
  obtain ⟨len, hlen⟩ : ∃ len, list.length = len := ⟨_, rfl⟩
  rw [hlen] at llist ⊢
  refine calls_of_wp_marks Try.func6 rfl ?_
  simp only [Try.ntmps6, List.size_toArray, List.length_cons, List.length_nil, Nat.reduceAdd, Nat.reduceSub, Array.replicate_succ, Array.replicate_zero, List.push_toArray, List.append_toArray, List.nil_append, List.cons_append]
  go_wp2_with fail
  refine (alive_any _).mono ?_
  rintro e w1 ⟨rfl, hb1⟩
  have hbW : Below w.heap.size w w1 := Below.trans (by repeat (first | with_reducible assumption | with_reducible exact Below.refl _ _ | with_reducible refine Below.drew ?_ | with_reducible refine Below.drewN ?_ _ | with_reducible refine Below.setCell ?_ (by first | omega | (simp; done) | (simp; omega)) _ | with_reducible refine Below.alloc ?_ (by first | omega | (simp; done) | (simp; omega) | (simp [World.setCell]; omega)) _)) (hb1.mono (by first | omega | (simp; done) | (simp; omega) | (simp [World.setCell]; omega)))
  have s2 : At w1 w.heap.size #[.bool false] 4 := At.below (At.new' _ _ _ (by simp)) hb1
  have f2 := s2.one
  have l2 := s2.lt
  clear hb1
  by_cases hl : 100 < len
  · have hl' : (100 : Int) < len := by omega
    go_wp2
    have d2 := (s2.set_any 0 (.bool true) rfl).one.1
    refine marks_none (v := .bool true) (by simp [results, Try.f6, go_sem, d2]) ⟨rfl, (by repeat (first | with_reducible assumption | with_reducible exact Below.refl _ _ | with_reducible refine Below.drew ?_ | with_reducible refine Below.drewN ?_ _ | with_reducible refine Below.setCell ?_ (by first | omega | (simp; done) | (simp; omega)) _ | with_reducible refine Below.alloc ?_ (by first | omega | (simp; done) | (simp; omega) | (simp [World.setCell]; omega)) _))⟩
  have hl' : ¬ (100 : Int) < len := by omega
  go_wp2_with fail
  refine (cnew _).mono ?_
  rintro e w2 ⟨b, rfl, hbe, hC, hb⟩
  obtain ⟨B, hBe⟩ : ∃ B, w1.heap.size = B := ⟨_, rfl⟩
  have h2 : Two B w1 (w2.alloc (.cells #[.slice none 0 0] 40)) [b] [w2.heap.size] (Crate (w2.alloc (.cells #[.slice none 0 0] 40)) b [b] []) (Doc (w2.alloc (.cells #[.slice none 0 0] 40)) w2.heap.size [w2.heap.size] []) := by
    have z2 := hb.size
    have hlt := hC.lt b (by simp)
    subst hBe
    refine ⟨hC.below ((Below.refl _ _).alloc (Nat.le_refl _) _), Doc.new w2, fun k hk => ?_, fun k hk => ?_, fun k hk => ?_, hb.alloc (by omega) _, by simp; omega⟩
    · rw [List.mem_singleton] at hk; subst hk; simp; omega
    · rw [List.mem_singleton] at hk; subst hk; simp; omega
    · rw [List.mem_singleton] at hk ⊢; omega
  clear hC hb hbe f2 hl
  rw [hBe] at l2
  go_wp2
  generalize w2.alloc (.cells #[.slice none 0 0] 40) = W2 at h2 ⊢
  generalize w2.heap.size = m at h2 ⊢
  go_loopw [8, 22] (fun _ i wr => ∃ k : Nat, ∃ S T, k ≤ len ∧ i = .int .i64 k ∧ Hid (Two B w1 wr S T (Crate wr b S (rowsOf (list.take k))) (Doc wr m T (rowsOf (list.take k))))) (fun _ i _ => len - (intOf i).toNat)
  case atStart => exact ⟨0, [b], [m], by omega, rfl, h2⟩
  case round =>
    obtain ⟨k, S, T, hk, rfl, H⟩ := hrel
    by_cases hlt : k < len
    · obtain ⟨g, o, rfl, hg, c1, c2⟩ := ((HR.out.below hbW).below (hBe ▸ H.out.below)).at k (by omega)
      obtain ⟨⟨b1, b2⟩, b3, b4⟩ := HO.out.at k (by omega)
      have HS := Lib.hid (rowsOf_take list k (by omega))
      obtain ⟨⟨x, y⟩, hx⟩ : ∃ x, list[k]'(by omega) = x := ⟨_, rfl⟩
      rw [hx] at c1 c2 b1 b2 b3 b4 HS
      clear hx
      dsimp only at c1 c2 b1 b2 b3 b4 HS
      have zH := H.out.size
      obtain ⟨ps, hps⟩ : ∃ ps, rowsOf (list.take k) = ps := ⟨_, rfl⟩
      rw [hps] at H HS
      have hlen3 := H.out.x.len
      have hok := Lib.hid H.out.x.okP
      have hgd := Lib.hid H.out.x.gd
      have hsm := Lib.hid H.out.x.sum
      have hPS : wr.heap.size ∉ S := fun h => by have := (H.out.ws _ h).2; omega
      have hPT : wr.heap.size ∉ T := fun h => by have := (H.out.wt _ h).2; omega
      have HZ := fun h : Below wr.heap.size wr (wr.alloc (.cells #[.int .i64 x, .int .u64 y] 28)) => Lib.hid (H.out.belowW h (fun k => k.below h) (fun k => k.below h))
      replace HZ := HZ ((Below.refl _ _).alloc (Nat.le_refl _) _)
      go_wp2
      refine gen_world (fun W => At W wr.heap.size #[.int .i64 x, .int .u64 y] 28 ∧ Hid (Two B w1 W.drew S T (Crate W.drew b S ps) (Doc W.drew m T ps))) ⟨At.new _ _ _, HZ.out.belowW ((Below.refl _ _).drew) (fun k => k.below ((Below.refl _ _).drew)) (fun k => k.below ((Below.refl _ _).drew))⟩ ?_
      rintro W ⟨sP, H1⟩
      obtain ⟨pB, hpB⟩ : ∃ pB, wr.heap.size = pB := ⟨_, rfl⟩
      rw [hpB] at sP hPS hPT ⊢
      haveI : Nonempty (Held fun w' => At w' pB #[.int .i64 x, .int .u64 y] 28) := ⟨⟨W, sP⟩⟩
      have hfar := fun z : Held fun w' => At w' pB #[.int .i64 x, .int .u64 y] 28 => z.held.two
      refine wp_region_noPanic ?_
      refine wp_region_held_drew (S := HeldS fun w' => At w' pB #[.int .i64 x, .int .u64 y] 28) (by kernel_rfl) (HeldS.mk' sP.drew) (fun hHeld => ?_)
      refine wpAnyH_run0 [true, true, true, true, true, false, true, true, true, true, true] 49 (by kernel_rfl) (by kernel_rfl) (fun _ _ _ _ h => h) (by kernel_rfl) hHeld ?_
      simp only [runOps_true, runOps_false, runOps_nil]
      repeat (first | go_big_quiet_skip | (go_big_quiet_want; go_big_quiet_op; go_big_quiet_on))
      refine wpQuiet_nil ?_
      refine wpAnyH_ready (rs := [5]) (by kernel_rfl) (by simp) ?_
      refine AllReadyH.cons rfl (fun K hK => ?_) AllReadyH.nil
      go_simp
      go_wp2_with (go_at_call 10; refine (cstep _ x y H1.out.x b3 b4 b1 b2).mono ?_; rintro e w3 ⟨rfl, S3, hg3, hC3, hF3⟩)
      refine hK.out _ _ ?_ (fun hHeld => ?_)
      clear hK K
      · exact HeldS.mk' (hF3.at sP.drew hPS)
      replace sP := hF3.at sP.drew hPS
      have H3 := Lib.hid (H1.out.stepX hg3 hC3 hC3.lt hF3 (H1.out.y.frame hF3 H1.out.ap.symm))
      clear H1 hF3 hg3 hC3
      refine wpAnyH_ready (rs := [11]) (by kernel_rfl) (by simp) ?_
      refine AllReadyH.cons rfl (fun K hK => ?_) AllReadyH.nil
      go_simp
      go_wp2_with (go_at_call 15; refine (dstep _ x y H3.out.y hok.out hgd.out (by omega) hsm.out b3 b4 b1 b2).mono ?_; rintro e w4 ⟨rfl, T4, hg4, hD4, hF4⟩)
      refine hK.out _ _ ?_ (fun hHeld => ?_)
      clear hK K
      · exact HeldS.mk' (hF4.at sP hPT)
      replace sP := hF4.at sP hPT
      have H4 := Lib.hid (H3.out.stepY hg4 hD4 hD4.lt hF4 (H3.out.x.frame hF4 H3.out.ap))
      rw [← HS.out] at H4
      clear H3 hF4 hg4 hD4 HS H
      generalize rowCode ps x y = c0
      obtain ⟨qs, hqs⟩ : ∃ qs, rowsOf (list.take (k + 1)) = qs := ⟨_, rfl⟩
      rw [hqs] at H4
      have hqs' := Lib.hid hqs
      clear hqs hps hfar
      have hln := H4.out.x.len
      have hsq := H4.out.x.sum
      have hok4 := Lib.hid H4.out.x.okP
      have hgd4 := Lib.hid H4.out.x.gd
      have hs0 := sumP_nonneg hgd4.out.pos
      obtain ⟨A2, cap2, d1, d2, _⟩ := H4.out.y
      replace d2 := Lib.hid d2
      refine wpAnyH_mono (S' := HeldS fun w' => At w' pB #[.int .i64 x, .int .u64 y] 28 ∧ At w' m #[.slice A2 qs.length cap2] 40) (fun w' ⟨z, hz⟩ => ⟨⟨z.far, z.held.1⟩, hz⟩) _ _ _ _ ?_
      haveI : Nonempty (Held fun w' => At w' pB #[.int .i64 x, .int .u64 y] 28 ∧ At w' m #[.slice A2 qs.length cap2] 40) := ⟨⟨w4, sP, d1⟩⟩
      have hfar1 := fun z : Held fun w' => At w' pB #[.int .i64 x, .int .u64 y] 28 ∧ At w' m #[.slice A2 qs.length cap2] 40 => z.held.1.two
      have hfar2 := fun z : Held fun w' => At w' pB #[.int .i64 x, .int .u64 y] 28 ∧ At w' m #[.slice A2 qs.length cap2] 40 => z.held.2.one
      replace hHeld : HeldS (fun w' => At w' pB #[.int .i64 x, .int .u64 y] 28 ∧ At w' m #[.slice A2 qs.length cap2] 40) w4 := HeldS.mk' ⟨sP, d1⟩
      refine wpAnyH_run0 [false, false, false, false, false, false, false, false, false, false, false, false, true, true, true, false, true, true, true, true] 40 (by kernel_rfl) (by kernel_rfl) (fun _ _ _ _ h => h) (by kernel_rfl) hHeld ?_
      simp only [runOps_true, runOps_false, runOps_nil]
      repeat (first | go_big_quiet_skip | (go_big_quiet_want; go_big_quiet_op; go_big_quiet_on))
      refine wpQuiet_nil ?_
      refine wpAnyH_ready (rs := [15]) (by kernel_rfl) (by simp) ?_
      refine AllReadyH.cons rfl (fun K hK => ?_) AllReadyH.nil
      go_simp
      go_wp2_with (go_at_call 12; refine (crpairs_any _ _ qs H4.out.x.src (by omega)).mono ?_; rintro e w5 ⟨A1, cap1, rfl, HA1, hb⟩)
      refine hK.out _ _ ?_ (fun hHeld => ?_)
      clear hK K
      · exact HeldS.mk' ⟨sP.below hb, d1.below hb⟩
      replace sP := sP.below hb
      replace d1 := d1.below hb
      replace d2 := Lib.hid (RdP.below d2.out hb)
      replace H4 := Lib.hid (H4.out.belowW hb (fun k => k.below hb) (fun k => k.below hb))
      clear hb
      replace HA1 := Lib.hid HA1.rd
      refine wpAnyH_ready (rs := [20]) (by kernel_rfl) (by simp) ?_
      refine AllReadyH.cons rfl (fun K hK => ?_) AllReadyH.nil
      go_simp
      go_wp2_with (go_at_call 11; refine (same_any A1 A2 qs.length cap1 qs.length cap2 qs qs _ rfl rfl (by omega) (by omega) HA1.out d2.out).mono ?_; rintro e w6 ⟨rfl, hb⟩; rw [decide_eq_true rfl])
      refine hK.out _ _ ?_ (fun hHeld => ?_)
      clear hK K
      · exact HeldS.mk' ⟨sP.below hb, d1.below hb⟩
      replace sP := sP.below hb
      replace d1 := d1.below hb
      replace d2 := Lib.hid (RdP.below d2.out hb)
      replace H4 := Lib.hid (H4.out.belowW hb (fun k => k.below hb) (fun k => k.below hb))
      clear hb HA1
      refine wpAnyH_run0 [false, false, false, false, false, false, false, false, false, false, false, false, false, false, false, false, false, false, false, false, false, true, true, true, true, false, true, true, true, true] 30 (by kernel_rfl) (by kernel_rfl) (fun _ _ _ _ h => h) (by kernel_rfl) hHeld ?_
      simp only [runOps_true, runOps_false, runOps_nil]
      repeat (first | go_big_quiet_skip | (go_big_quiet_want; go_big_quiet_op; go_big_quiet_on))
      refine wpQuiet_nil ?_
      refine wpAnyH_ready (rs := [25]) (by kernel_rfl) (by simp) ?_
      refine AllReadyH.cons rfl (fun K hK => ?_) AllReadyH.nil
      go_simp
      go_wp2_with (go_at_call 13; refine (ctotal _ H4.out.x).mono ?_; rintro e w7 ⟨rfl, rfl⟩)
      refine hK.out _ _ ?_ (fun hHeld => ?_)
      clear hK K
      · exact HeldS.mk' ⟨sP, d1⟩
      refine wpAnyH_ready (rs := [30]) (by kernel_rfl) (by simp) ?_
      refine AllReadyH.cons rfl (fun K hK => ?_) AllReadyH.nil
      go_simp
      go_wp2_with (go_at_call 21; refine (total_any A2 qs.length cap2 qs _ rfl (by omega) d2.out hok4.out).mono ?_; rintro e w8 ⟨rfl, hb⟩; rw [Int.emod_eq_of_lt hs0 (by omega)])
      refine hK.out _ _ ?_ (fun hHeld => ?_)
      clear hK K
      · exact HeldS.mk' ⟨sP.below hb, d1.below hb⟩
      replace sP := sP.below hb
      replace d1 := d1.below hb
      replace d2 := Lib.hid (RdP.below d2.out hb)
      replace H4 := Lib.hid (H4.out.belowW hb (fun k => k.below hb) (fun k => k.below hb))
      clear hb
      have hc1 := cnt_nonneg hgd4.out.pos x
      have hc2 := cnt_le_sumP hgd4.out.pos x
      refine wpAnyH_run0 [false, false, false, false, false, false, false, false, false, false, false, false, false, false, false, false, false, false, false, false, false, false, false, false, false, false, false, false, false, false, false, true, true, true, true, true, true, false, true, true, true, true, true, true] 16 (by kernel_rfl) (by kernel_rfl) (fun _ _ _ _ h => h) (by kernel_rfl) hHeld ?_
      simp only [runOps_true, runOps_false, runOps_nil]
      repeat (first | go_big_quiet_skip | (go_big_quiet_want; go_big_quiet_op; go_big_quiet_on))
      refine wpQuiet_nil ?_
      refine wpAnyH_ready (rs := [37]) (by kernel_rfl) (by simp) ?_
      refine AllReadyH.cons rfl (fun K hK => ?_) AllReadyH.nil
      go_simp
      go_wp2_with (go_at_call 20; refine (cat _ x H4.out.x b1 b2).mono ?_; rintro e w9 ⟨rfl, hb⟩)
      refine hK.out _ _ ?_ (fun hHeld => ?_)
      clear hK K
      · exact HeldS.mk' ⟨sP.below hb, d1.below hb⟩
      replace sP := sP.below hb
      replace d1 := d1.below hb
      replace d2 := Lib.hid (RdP.below d2.out hb)
      replace H4 := Lib.hid (H4.out.belowW hb (fun k => k.below hb) (fun k => k.below hb))
      clear hb
      refine wpAnyH_ready (rs := [44]) (by kernel_rfl) (by simp) ?_
      refine AllReadyH.cons rfl (fun K hK => ?_) AllReadyH.nil
      go_simp
      go_wp2_with (go_at_call 22; refine (count_any A2 qs.length cap2 qs x _ rfl (by omega) d2.out hok4.out).mono ?_; rintro e w10 ⟨rfl, hb⟩; rw [show sumP (qs.filter fun z => decide (z.1 = x)) = cnt qs x from rfl, Int.emod_eq_of_lt hc1 (by omega)])
      refine hK.out _ _ ?_ (fun hHeld => ?_)
      clear hK K
      · exact HeldS.mk' ⟨sP.below hb, d1.below hb⟩
      replace sP := sP.below hb
      replace d1 := d1.below hb
      replace d2 := Lib.hid (RdP.below d2.out hb)
      replace H4 := Lib.hid (H4.out.belowW hb (fun k => k.below hb) (fun k => k.below hb))
      clear hb
      have hc3 := cnt_nonneg hgd4.out.pos other
      have hc4 := cnt_le_sumP hgd4.out.pos other
      refine wpAnyH_run0 [false, false, false, false, false, false, false, false, false, false, false, false, false, false, false, false, false, false, false, false, false, false, false, false, false, false, false, false, false, false, false, false, false, false, false, false, false, false, false, false, false, false, false, false, false, true, true, true, true, true, false, true, true, true, true, true] 4 (by kernel_rfl) (by kernel_rfl) (fun _ _ _ _ h => h) (by kernel_rfl) hHeld ?_
      simp only [runOps_true, runOps_false, runOps_nil]
      repeat (first | go_big_quiet_skip | (go_big_quiet_want; go_big_quiet_op; go_big_quiet_on))
      refine wpQuiet_nil ?_
      refine wpAnyH_ready (rs := [50]) (by kernel_rfl) (by simp) ?_
      refine AllReadyH.cons rfl (fun K hK => ?_) AllReadyH.nil
      go_simp
      go_wp2_with (go_at_call 20; refine (cat _ other H4.out.x h3 h4).mono ?_; rintro e w11 ⟨rfl, hb⟩)
      refine hK.out _ _ ?_ (fun hHeld => ?_)
      clear hK K
      · exact HeldS.mk' ⟨sP.below hb, d1.below hb⟩
      replace sP := sP.below hb
      replace d1 := d1.below hb
      replace d2 := Lib.hid (RdP.below d2.out hb)
      replace H4 := Lib.hid (H4.out.belowW hb (fun k => k.below hb) (fun k => k.below hb))
      clear hb
      refine wpAnyH_ready (rs := [56]) (by kernel_rfl) (by simp) ?_
      refine AllReadyH.cons rfl (fun K hK => ?_) AllReadyH.nil
      go_simp
      go_wp2_with (go_at_call 22; refine (count_any A2 qs.length cap2 qs other _ rfl (by omega) d2.out hok4.out).mono ?_; rintro e w12 ⟨rfl, hb⟩; rw [show sumP (qs.filter fun z => decide (z.1 = other)) = cnt qs other from rfl, Int.emod_eq_of_lt hc3 (by omega)])
      refine hK.out _ _ ?_ (fun hHeld => ?_)
      clear hK K
      · exact HeldS.mk' ⟨sP.below hb, d1.below hb⟩
      replace sP := sP.below hb
      replace d1 := d1.below hb
      replace d2 := Lib.hid (RdP.below d2.out hb)
      replace H4 := Lib.hid (H4.out.belowW hb (fun k => k.below hb) (fun k => k.below hb))
      clear hb
      refine wpAnyH_run0 [false, false, false, false, false, false, false, false, false, false, false, false, false, false, false, false, false, false, false, false, false, false, false, false, false, false, false, false, false, false, false, false, false, false, false, false, false, false, false, false, false, false, false, false, false, false, false, false, false, false, false, false, false, false, false, false, false, true, true] 0 (by kernel_rfl) (by kernel_rfl) (fun _ _ _ _ h => h) (by kernel_rfl) hHeld ?_
      simp only [runOps_true, runOps_false, runOps_nil]
      repeat (first | go_big_quiet_skip | (go_big_quiet_want; go_big_quiet_op; go_big_quiet_on))
      refine wpQuiet_nil ?_
      refine wpAnyH_done (by kernel_rfl) ?_ _
      refine NoPanic.normal ?_
      rw [← hqs'.out] at H4
      clear d1 d2 sP hHeld hfar1 hfar2 hgd4 hok4 hqs'
      go_wp2
      go_roundw
      case rel => exact ⟨k + 1, S3, T4, by omega, by simp, H4⟩
      case measure => simp [intOf]; omega
    · obtain rfl : k = len := by omega
      have hb := Lib.hid H.out.below
      have hz := H.out.size
      clear H HR HO h2
      have s3 := s2.of_below hb.out (by omega)
      have hbW3 : Below w.heap.size w wr := hbW.trans (hb.out.mono (by omega))
      clear hb
      go_wp2_with fail
      refine (crall_any _ _).mono ?_
      rintro e w6 ⟨rfl, rfl⟩
      go_wp2
      obtain ⟨C, hCe⟩ : ∃ C, wr.heap.size = C := ⟨_, rfl⟩
      refine gen_world (fun W => At W C #[.pointer none] 24 ∧ Below wr.heap.size wr W ∧ W.heap.size = C + 1) ?_ ?_
      · subst hCe
        exact ⟨At.new' _ _ _ rfl, (by repeat (first | with_reducible assumption | with_reducible exact Below.refl _ _ | with_reducible refine Below.drew ?_ | with_reducible refine Below.drewN ?_ _ | with_reducible refine Below.setCell ?_ (by first | omega | (simp; done) | (simp; omega)) _ | with_reducible refine Below.alloc ?_ (by first | omega | (simp; done) | (simp; omega) | (simp [World.setCell]; omega)) _)), by simp⟩
      rintro W ⟨a1, hBW, hzW⟩
      have hfin := Lib.hid (keep1 hbW3 hBW)
      have s4 := s3.below hBW
      clear hBW hbW3 s3 hbW
      rw [hCe]
      refine' wp_range_crate (Q := _) C (p := none) (xs := []) (Bn := C) rfl a1 (.inl ⟨rfl, rfl⟩) (by omega)
        (fun pre W' => Frame [] W W') (fun c pre W' => False) ?hI ?hIx ?h0 _ ?assign ?body ?done ?stop
      case assign =>
        intro l x W K hK
        simp only [List.setIfInBounds_toArray, List.set_cons_zero, List.set_cons_succ]
        gi_wp2
        exact hK
      case hI => exact frame_own _ _
      case hIx => exact fun c => OwnFrom.pure _
      case h0 => exact Frame.refl _ _
      case body =>
        rintro l pre x W' hF hlt2
        exact absurd hlt2 (by simp)
      case stop =>
        rintro D c pre W' hD _ h
        exact h.elim
      case done =>
        rintro D W' hD hF hK
        have s5 := hF.at s4 (by simp)
        replace hfin := Lib.hid (hF.below (S := []) hfin.out hfin.out.size (by simp))
        have hDl := (Array.getElem?_eq_some_iff.1 hK).1
        go_wp2_with fail
        refine (crfind_any _ none [] 1 (.inl ⟨rfl, rfl⟩) (by omega) (by omega)).mono ?_
        rintro e w7 ⟨rfl, hb⟩
        rw [show findV 1 [] = none from rfl]
        unfold optI
        dsimp only [Option.getD_none, Option.isSome_none]
        replace s5 := s5.below hb
        replace hfin := Lib.hid (keep1 hfin.out hb)
        replace hK := (hb.block D hDl).trans hK
        have hDl := (Array.getElem?_eq_some_iff.1 hK).1
        clear hb
        go_wp2_with fail
        refine (cradd_nil _ 1 1).mono ?_
        rintro e w8 ⟨rfl, rfl⟩
        go_wp2_with fail
        refine (crat_nil _ 1).mono ?_
        rintro e w9 ⟨rfl, hb⟩
        replace s5 := s5.below hb
        replace hfin := Lib.hid (keep1 hfin.out hb)
        replace hK := (hb.block D hDl).trans hK
        have hDl := (Array.getElem?_eq_some_iff.1 hK).1
        clear hb
        go_wp2_with fail
        refine (crtotal_nil _).mono ?_
        rintro e w10 ⟨rfl, rfl⟩
        go_wp2_with fail
        refine (crbelow_any _ none [] 1 (.inl ⟨rfl, rfl⟩)).mono ?_
        rintro e w11 ⟨rfl, hb⟩
        rw [show belowC 1 0 [] = 0 from rfl]
        replace s5 := s5.below hb
        replace hfin := Lib.hid (keep1 hfin.out hb)
        replace hK := (hb.block D hDl).trans hK
        have hDl := (Array.getElem?_eq_some_iff.1 hK).1
        clear hb
        go_wp2_with fail
        refine (crpairs_any _ none [] (.inl ⟨rfl, rfl⟩) (by simp)).mono ?_
        rintro e w12 ⟨A, cap, rfl, _, hb⟩
        replace s5 := s5.below hb
        replace hfin := Lib.hid (keep1 hfin.out hb)
        replace hK := (hb.block D hDl).trans hK
        clear hb
        have f5 := s5.one
        go_wp2
        have hK' := (KeepsOthers.setCell w12 ⟨w.heap.size, 0, none⟩ (.bool true)).same D _ hK rfl
        have d2 := ((s5.set_any 0 (.bool true) rfl).putD hK').one.1
        exact marks_mark (v := .bool true) hK' (by simp [results, Try.f6, go_sem, d2]) ⟨rfl, (hfin.out.setCell (p := ⟨w.heap.size, 0, none⟩) (Nat.le_refl _) _).putD hK' (by omega)⟩
end Go.Proofs.Ytogidoohgfmbfaa

