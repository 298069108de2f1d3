/- The walk of the statement HighcapKeeps. -/
import Derived.Test.YtooojpicbbpaaaaProg
import Derived.Test.YtooojpicbbpaaaaOpen
import Derived.Test.YtooojpicbbpaaaaBuild10
namespace Go.Proofs.Ytooojpicbbpaaaa
open Go.RowKit

set_option maxHeartbeats 2000000 in
theorem highcapKeeps_walk (w : World) (most : Int) (bdmost : -9223372036854775808 ≤ most ∧ most ≤ 9223372036854775807) (Alist : Option Addr) (clist : Nat) (list : List (Int × Int)) (rlist : Rd w Alist (list.flatMap fun x => [.int .i64 x.1, .int .u64 x.2])) (bdlist : ∀ x ∈ list, (-9223372036854775808 ≤ x.1 ∧ x.1 ≤ 9223372036854775807) ∧ (0 ≤ x.2 ∧ x.2 < 18446744073709551616)) (llist : list.length ≤ 9223372036854775807) (other : Int) (bdother : -9223372036854775808 ≤ other ∧ other ≤ 9223372036854775807) :
    Calls Try.prog 3 #[.int .i64 most, .slice Alist list.length clist, .int .i64 other] w fun e w' => e = .returned (.bool true) ∧ Below w.heap.size w w' := by
  have HM := Lib.hid bdmost
  have HR : Hid (RdP w Alist list) := rlist
  have HO : Hid (okP list) := bdlist
  clear rlist bdlist bdmost
  obtain ⟨len, hlen⟩ : ∃ len, list.length = len := ⟨_, rfl⟩
  have HLN := Lib.hid hlen
  rw [hlen] at llist ⊢
  clear hlen
  have HIX := Lib.hid bdother
  clear bdother
  go_enter Try.func3, Try.ntmps3
  go_wp2_with fail
  refine (alive_any _).mono ?_
  rintro e w1 ⟨rfl, hb1⟩
  go_wp2_with fail
  refine (great_any Alist len clist list most w1 HLN.out llist (HR.out.below hb1) HO.out).mono ?_
  rintro e w2 ⟨⟨bv, rfl, hbv⟩, hb⟩
  have hb2 := keep1 hb1 hb
  clear hb1 hb
  cases bv with
  | true =>
    clear hbv
    go_wp2
    go_ret
    exact ⟨rfl, hb2⟩
  | false =>
    have HSG : Hid (SmallG most list) := says_small hbv
    have HSM := Lib.hid HSG.out.s
    clear HSG
    clear hbv
    replace HR := Lib.hid (HR.out.below hb2)
    have HB2 := Lib.hid hb2
    have HZ2 := Lib.hid hb2.size
    clear hb2
    go_wp2_with fail
    refine (lnew_any most w2 HSM.out.m.1 HSM.out.m.2).mono ?_
    rintro e w1' ⟨⟨b, S0, rfl, hbw, hWi, hHigh⟩, hb1⟩
    have HT : Hid (Two w2.heap.size w2 w1' S0 [] (High w1' b S0 most [] 0) True) := ⟨hHigh, trivial, hWi, fun k hk => by simp at hk, fun k hk hn => by simp at hn, hb1, hb1.size⟩
    clear hbw hWi hHigh hb1
    obtain ⟨m, hm⟩ : ∃ m, w1'.heap.size = m := ⟨_, rfl⟩
    obtain ⟨B, hBe⟩ : ∃ B, w2.heap.size = B := ⟨_, rfl⟩
    have HBE := Lib.hid hBe
    have HBK : Hid (Both w2.heap.size w2 (w1'.alloc (.cells #[.int .i64 most, .slice none 0 0] 31)) b m S0 [m] most (list.take 0)) := by
      subst hm
      have a1 := At.new w1' #[.int .i64 most, .slice none 0 0] 31
      have hb : Below w1'.heap.size w1' (w1'.alloc (.cells #[.int .i64 most, .slice none 0 0] 31)) := (Below.refl _ _).alloc (Nat.le_refl _) _
      exact HT.out.newY hb (fun k => k.below hb) (fun k hk => by have := a1.lt; simp at hk; subst hk; omega) ⟨none, 0, rfl, a1, Own2.nil _ _, by simp [blk]⟩
    rw [hBe] at HBK
    clear hBe
    go_wp2
    try rw [hm]
    generalize w1'.alloc (.cells #[.int .i64 most, .slice none 0 0] 31) = w3 at HBK ⊢
    clear HT hm
    go_loopw [11, 12, 28] (fun _ _ i wr => ∃ k : Nat, ∃ S T, k ≤ len ∧ i = .int .i64 k ∧ Hid (Both B w2 wr b m S T most (list.take k))) (fun _ _ i _ => len - (intOf i).toNat)
    case atStart => exact ⟨0, S0, [m], by omega, rfl, HBK⟩
    case round =>
      obtain ⟨k, S, T, hk, rfl, H⟩ := hrel
      clear HBK
      by_cases hlt : k < len
      · obtain ⟨g, o, rfl, hg, c1, c2⟩ := (HR.out.below (HBE.out ▸ Two.below H.out)).at k (by have := HLN.out; omega)
        obtain ⟨⟨b1, b2⟩, b3, b4⟩ := HO.out.at k (by have := HLN.out; omega)
        have HK := Lib.hid (HSM.out.keptR k (by have := HLN.out; omega))
        have HA := Lib.hid (allOf_take list k (by have := HLN.out; omega))
        have HS := Lib.hid (sumP_take list k (by have := HLN.out; omega))
        have HX := Lib.hid (HSM.out.c _ (List.getElem_mem (show k < list.length by have := HLN.out; omega)))
        have HTS := Lib.hid (HSM.out.take k)
        have HOT : Hid (okP (allOf (list.take k))) := allOf_ok fun x hx => HO.out x (List.mem_of_mem_take hx)
        obtain ⟨⟨x, y⟩, hx⟩ : ∃ x, list[k]'(by have := HLN.out; omega) = x := ⟨_, rfl⟩
        rw [hx] at c1 c2 b1 b2 b3 b4 HK HA HS HX
        dsimp only at c1 c2 b1 b2 b3 b4 HK HA HS HX
        clear hx
        have HB : Hid (-9223372036854775808 ≤ x ∧ x ≤ 9223372036854775807) := ⟨b1, b2⟩
        have zH := Two.size H.out
        have hbp : Below wr.heap.size wr (wr.alloc (.cells #[.int .i64 x, .int .u64 y] 34)) := (Below.refl _ _).alloc (Nat.le_refl _) _
        have sP := At.new wr #[.int .i64 x, .int .u64 y] 34
        have HP : Hid (wr.heap.size ∉ S ∧ wr.heap.size ∉ T) := ⟨fun h => by have := (Two.ws H.out _ h).2; omega, fun h => by have := (Two.wt H.out _ h).2; omega⟩
        have H1 := Lib.hid (Both.abide H.out hbp)
        obtain ⟨pB, hpB⟩ : ∃ pB, wr.heap.size = pB := ⟨_, rfl⟩
        rw [hpB] at sP HP
        clear H hbp b1 b2 b3 b4
        go_wp2_with fail
        refine (ladd_any b S most _ x y _ _ (Two.x H1.out) HX.out.1 (by have := HTS.out.sum; have := HX.out; omega) HB.out).mono ?_
        rintro e w4 ⟨rfl, S3, hg3, hC3, hF3⟩
        replace sP := hF3.at sP HP.out.1
        have H3 := Two.stepX H1.out hg3 hC3 hC3.lt hF3 ((Two.y H1.out).frame hF3 (Two.ap H1.out).symm)
        rw [← HK.out, ← HS.out] at H3
        replace H3 := Lib.hid H3
        clear hF3 hg3 hC3 H1
        obtain ⟨A2, cap2, d1, hrd, _⟩ := docL_at (Two.y H3.out)
        have HRD := Lib.hid hrd
        have HLE : Hid ((allOf (list.take k)).length ≤ 120) := HTS.out.len
        obtain ⟨n, hn⟩ : ∃ n, (allOf (list.take k)).length = n := ⟨_, rfl⟩
        have HN := Lib.hid hn
        rw [hn] at d1
        obtain ⟨n2, hn2⟩ : ∃ n2, (rowAdd (allOf (list.take k)) x y).length = n2 := ⟨_, rfl⟩
        have HN2 := Lib.hid hn2
        have H4 : Hid (Two B w2 w4.drew S3 T (High w4.drew b S3 most (keptP sd most (allOf (list.take (k + 1)))) (sumP (list.take (k + 1)))) (DocL w4.drew m T most (allOf (list.take k)))) := H3.out.belowW (Below.refl _ _).drew (fun k => k.below (Below.refl _ _).drew) (fun k => k.below (Below.refl _ _).drew)
        clear hrd hn hn2
        go_wp2
        try rw [hpB]
        obtain ⟨W4, hW4⟩ : ∃ W4, w4.drew = W4 := ⟨_, rfl⟩
        have sP4 := sP.drew
        have d4 := d1.drew
        have HRD4 := Lib.hid (HRD.out.below (Below.refl _ _).drew)
        rw [hW4] at sP4 d4 HRD4 H4
        have TK : BlS pB m n cap2 A2 x y most W4 := ⟨sP4, d4⟩
        refine wp_region_noPanic ?_
        refine wp_region_until (S := HeldS (BlS pB m n cap2 A2 x y most)) 12 (by kernel_rfl) ?_
        rw [hW4]
        have hHeld : HeldS (BlS pB m n cap2 A2 x y most) W4 := HeldS.mk' TK
        have hne : Nonempty (Held (BlS pB m n cap2 A2 x y most)) := ⟨⟨W4, TK⟩⟩
        have hneF : Nonempty (Held fun _ => True) := ⟨⟨W4, trivial⟩⟩
        have hfar1 := fun z : Held (BlS pB m n cap2 A2 x y most) => z.held.1.two
        have hfar2 := fun z : Held (BlS pB m n cap2 A2 x y most) => z.held.2.two
        clear hW4 sP d1 TK H3 HRD
        refine wpAnyU_run0F [true, true, true, true, false, true, false, true] 7 (by kernel_rfl) (by kernel_rfl) (fun _ _ _ _ h => h) (by kernel_rfl) hHeld ?_
        simp only [runOps_true, runOps_false, runOps_nil]
        repeat (first | go_big_quiet_skip | (go_big_quiet_want; go_big_quiet_op; go_big_quiet_on))
        refine wpQuiet_nil ?_
        refine wpAnyU_run0 [false, false, false, false, true, false, true, false, true] 4 (by kernel_rfl) (by kernel_rfl) (fun _ _ _ _ h => h) (by kernel_rfl) hHeld ?_
        simp only [runOps_true, runOps_false, runOps_nil]
        repeat (first | go_big_quiet_skip | (go_big_quiet_want; go_big_quiet_op; go_big_quiet_on))
        refine wpQuiet_nil ?_
        refine wpAnyU_ready (rs := [9]) (by kernel_rfl) (by simp) ?_
        refine AllReadyU.cons rfl (fun K hK => ?_) (AllReadyU.nil)
        go_simp
        go_wp2_with (go_at_call 12; refine (radd06_any A2 n cap2 _ x y W4 HN.out (by have := HLE.out; have := HN.out; omega) HRD4.out HOT.out HB.out (by have := HX.out; omega)).mono ?_; rintro e w5 ⟨A5, cap5, rfl, ho5, hb5⟩)
        rw [HN2.out]
        have H5 := docL_set (w0 := w) (B := 0) (Two.y H4.out) hb5 ho5 HN2.out
        have H6 := Two.stepY H4.out H5.2.1 H5.1 H5.2.2.1 H5.2.2.2 ((Two.x H4.out).frame H5.2.2.2 (Two.ap H4.out))
        rw [← HA.out] at H6
        replace H6 := Lib.hid H6
        replace sP4 := sP4.below hb5
        replace d4 := d4.below hb5
        have f4 := d4.two
        have l4 := d4.lt
        refine hK.out _ _ (fun _ => HeldS.mk' ⟨sP4, d4⟩) ?_
        clear hK K hfar1 hfar2 H5 ho5 hb5 H4
        replace hHeld : HeldS (BlS pB m n cap2 A2 x y most) w5 := HeldS.mk' ⟨sP4, d4⟩
        refine wpAnyU_run0F [false, false, false, false, false, false, false, false, false, false, true, true] 1 (by kernel_rfl) (by kernel_rfl) (fun _ _ _ _ h => h) (by kernel_rfl) hHeld ?_
        simp only [runOps_true, runOps_false, runOps_nil]
        repeat (first | go_big_quiet_skip | (go_big_quiet_want; go_big_quiet_op; go_big_quiet_on))
        refine wpQuiet_nil ?_
        clear hHeld hne hneF
        refine wpAnyU_ready (rs := [12]) (by kernel_rfl) (by simp) ?_
        refine AllReadyU.cons rfl (fun K hK => ?_) (AllReadyU.nil)
        go_simp
        go_wp2
        refine hK.out _ _ (fun h => late_no h (by kernel_rfl)) ?_
        clear hK K
        refine wpAnyU_done (by kernel_rfl) ?_ _
        refine NoPanic.normal ?_
        replace H6 : Hid (Both B w2 (w5.setCell ⟨m, 1, none⟩ (.slice A5 n2 cap5)) b m S3 (m :: blk A5) most (list.take (k + 1))) := H6
        clear HTS HOT HRD4 HN HLE HN2 HK HA HS HX HP d4 sP4 f4 l4
        have HTS := Lib.hid (HSM.out.take (k + 1))
        have HOT : Hid (okP (allOf (list.take (k + 1)))) := allOf_ok fun x hx => HO.out x (List.mem_of_mem_take hx)
        have HALL := Lib.hid HTS.out.all
        have HLEN : Hid ((allOf (list.take (k + 1))).length ≤ 1048576) := Nat.le_trans HTS.out.len (by omega)
        have HSUM := Lib.hid HTS.out.sum
        generalize w5.setCell ⟨m, 1, none⟩ (.slice A5 n2 cap5) = w6 at H6 ⊢
        go_wp2_with fail
        refine (dlkept_any m _ most _ w6 (Two.y H6.out) HLEN.out HALL.out.1 HOT.out HSM.out.m).mono ?_
        rintro e w7 ⟨A3, cap3, rfl, ho3, hb⟩
        have H7 := Lib.hid (Both.abide H6.out hb)
        have HRW := Lib.hid ho3.rd
        clear hb ho3 H6
        obtain ⟨qs, hqs⟩ : ∃ qs, keptP sd most (allOf (list.take (k + 1))) = qs := ⟨_, rfl⟩
        have HQS := Lib.hid hqs
        obtain ⟨tot, htot⟩ : ∃ tot, sumP (list.take (k + 1)) = tot := ⟨_, rfl⟩
        have HTOT := Lib.hid htot
        have H8 : Hid (Two B w2 w7.drew S3 (m :: blk A5) (High w7.drew b S3 most qs tot) (DocL w7.drew m (m :: blk A5) most (allOf (list.take (k + 1))))) := by
          rw [← hqs, ← htot]
          exact Both.abide H7.out (Below.refl _ _).drew
        rw [hqs] at HRW ⊢
        have hlow := H8.out.x
        have HQG := Lib.hid hlow.gd
        have HQO := Lib.hid hlow.ok
        have HQL := Lib.hid hlow.len
        have HQT := Lib.hid (And.intro hlow.sum0 (And.intro hlow.lo hlow.hi))
        obtain ⟨A6, cap6, d1, hrd6, _⟩ := docL_at H8.out.y
        have HRD6 := Lib.hid hrd6
        replace HRW := Lib.hid (HRW.out.below (Below.refl _ _).drew)
        obtain ⟨an, han⟩ : ∃ an, (allOf (list.take (k + 1))).length = an := ⟨_, rfl⟩
        have HAN := Lib.hid han
        obtain ⟨qn, hqn⟩ : ∃ qn, qs.length = qn := ⟨_, rfl⟩
        have HQN := Lib.hid hqn
        have HQM : Hid (decide (most < (qn : Int)) = false) := decide_eq_false (by have := HQL.out.1; omega)
        rw [han] at d1
        rw [hqn]
        clear hqs htot hlow hrd6 han hqn H7
        go_wp2
        obtain ⟨W7, hW7⟩ : ∃ W7, w7.drew = W7 := ⟨_, rfl⟩
        rw [hW7] at H8 d1 HRD6 HRW
        haveI : Nonempty (Held fun w' => At w' m #[.int .i64 most, .slice A6 an cap6] 31) := ⟨⟨W7, d1⟩⟩
        have hfar := fun z : Held fun w' => At w' m #[.int .i64 most, .slice A6 an cap6] 31 => z.held.two
        refine wp_region_noPanic ?_
        refine wp_region_held_drew (S := HeldS fun w' => At w' m #[.int .i64 most, .slice A6 an cap6] 31) (by kernel_rfl) (HeldS.mk' (hW7 ▸ d1)) (fun hHeld => ?_)
        rw [hW7] at hHeld ⊢
        clear hW7
        refine wpAnyH_run0 [true, false, true] 35 (by kernel_rfl) (by kernel_rfl) (fun _ _ _ _ h => h) (by kernel_rfl) hHeld ?_
        simp only [runOps_true, runOps_false, runOps_nil]
        repeat (first | go_big_quiet_skip | (go_big_quiet_want; go_big_quiet_op; go_big_quiet_on))
        refine wpQuiet_nil ?_
        refine wpAnyH_ready (rs := [1]) (by kernel_rfl) (by simp) ?_
        refine AllReadyH.cons rfl (fun K hK => ?_) AllReadyH.nil
        go_simp
        go_wp2_with (go_at_call 15; refine (lpairs_any b S3 most tot qs W7 H8.out.x).mono ?_; rintro e w8 ⟨A1, cap1, rfl, ho1, hb⟩; rw [HQN.out])
        refine hK.out _ _ ?_ (fun hHeld => ?_)
        clear hK K
        · exact HeldS.mk' (d1.below hb)
        replace d1 := d1.below hb
        replace H8 := Lib.hid (H8.out.belowW hb (fun k => k.below hb) (fun k => k.below hb))
        replace HRD6 := Lib.hid (HRD6.out.below hb)
        replace HRW := Lib.hid (HRW.out.below hb)
        have HR1 := Lib.hid ho1.rd
        clear hb ho1
        refine wpAnyH_ready (rs := [3]) (by kernel_rfl) (by simp) ?_
        refine AllReadyH.cons rfl (fun K hK => ?_) AllReadyH.nil
        go_simp
        go_wp2_with (go_at_call 14; refine (same_any A1 A3 qn cap1 qn cap3 qs qs w8 HQN.out HQN.out (by have := HQL.out; have := HQN.out; omega) (by have := HQL.out; have := HQN.out; omega) HR1.out HRW.out).mono ?_; rintro e w9 ⟨rfl, hb⟩; rw [decide_eq_true rfl])
        refine hK.out _ _ ?_ (fun hHeld => ?_)
        clear hK K
        · exact HeldS.mk' (d1.below hb)
        replace d1 := d1.below hb
        replace H8 := Lib.hid (H8.out.belowW hb (fun k => k.below hb) (fun k => k.below hb))
        replace HRD6 := Lib.hid (HRD6.out.below hb)
        replace HRW := Lib.hid (HRW.out.below hb)
        clear hb HR1
        refine wpAnyH_run0 [false, false, false, false, true, true, true, false, true] 29 (by kernel_rfl) (by kernel_rfl) (fun _ _ _ _ h => h) (by kernel_rfl) hHeld ?_
        simp only [runOps_true, runOps_false, runOps_nil]
        repeat (first | go_big_quiet_skip | (go_big_quiet_want; go_big_quiet_op; go_big_quiet_on))
        refine wpQuiet_nil ?_
        refine wpAnyH_ready (rs := [7]) (by kernel_rfl) (by simp) ?_
        refine AllReadyH.cons rfl (fun K hK => ?_) AllReadyH.nil
        go_simp
        go_wp2_with (go_at_call 16; refine (llost_any b S3 most tot qs w9 H8.out.x).mono ?_; rintro e w10 ⟨rfl, rfl⟩)
        refine hK.out _ _ ?_ (fun hHeld => ?_)
        clear hK K
        · exact HeldS.mk' d1
        refine wpAnyH_ready (rs := [9]) (by kernel_rfl) (by simp) ?_
        refine AllReadyH.cons rfl (fun K hK => ?_) AllReadyH.nil
        go_simp
        go_wp2_with (go_at_call 17; refine (dllost_any m _ most _ w9 H8.out.y HLEN.out HALL.out.1 HOT.out (by rw [HALL.out.2.1]; have := HSUM.out; omega) HSM.out.m).mono ?_; rintro e w10 ⟨rfl, hb⟩; rw [HALL.out.2.1, HTOT.out, HQS.out])
        refine hK.out _ _ ?_ (fun hHeld => ?_)
        clear hK K
        · exact HeldS.mk' (d1.below hb)
        replace d1 := d1.below hb
        replace H8 := Lib.hid (H8.out.belowW hb (fun k => k.below hb) (fun k => k.below hb))
        replace HRD6 := Lib.hid (HRD6.out.below hb)
        replace HRW := Lib.hid (HRW.out.below hb)
        clear hb
        generalize tot - sumP qs = lv
        refine wpAnyH_run0 [false, false, false, false, false, false, false, false, false, false, true, true, true, true, false, true, true, true, true] 19 (by kernel_rfl) (by kernel_rfl) (fun _ _ _ _ h => h) (by kernel_rfl) hHeld ?_
        simp only [runOps_true, runOps_false, runOps_nil]
        repeat (first | go_big_quiet_skip | (go_big_quiet_want; go_big_quiet_op; go_big_quiet_on))
        refine wpQuiet_nil ?_
        refine wpAnyH_ready (rs := [14]) (by kernel_rfl) (by simp) ?_
        refine AllReadyH.cons rfl (fun K hK => ?_) AllReadyH.nil
        go_simp
        go_wp2_with (go_at_call 18; refine (ltotal_any b S3 most tot qs w10 H8.out.x).mono ?_; rintro e w11 ⟨rfl, hb⟩)
        refine hK.out _ _ ?_ (fun hHeld => ?_)
        clear hK K
        · exact HeldS.mk' (d1.below hb)
        replace d1 := d1.below hb
        replace H8 := Lib.hid (H8.out.belowW hb (fun k => k.below hb) (fun k => k.below hb))
        replace HRD6 := Lib.hid (HRD6.out.below hb)
        replace HRW := Lib.hid (HRW.out.below hb)
        clear hb
        refine wpAnyH_ready (rs := [19]) (by kernel_rfl) (by simp) ?_
        refine AllReadyH.cons rfl (fun K hK => ?_) AllReadyH.nil
        go_simp
        go_wp2_with (go_at_call 19; refine (total_any A6 an cap6 _ w11 HAN.out (by have := HLEN.out; have := HAN.out; omega) HRD6.out HOT.out).mono ?_; rintro e w12 ⟨rfl, hb⟩; rw [HALL.out.2.1, HTOT.out, Int.emod_eq_of_lt (by have := HQT.out; omega) (by have := HQT.out; omega)])
        refine hK.out _ _ ?_ (fun hHeld => ?_)
        clear hK K
        · exact HeldS.mk' (d1.below hb)
        replace d1 := d1.below hb
        replace H8 := Lib.hid (H8.out.belowW hb (fun k => k.below hb) (fun k => k.below hb))
        replace HRW := Lib.hid (HRW.out.below hb)
        clear hb HRD6
        have hqm := HQM.out
        refine wpAnyH_run0 [false, false, false, false, false, false, false, false, false, false, false, false, false, false, false, false, false, false, false, false, true, true, true, true, true, true, true, true, true, true, true, false, true, true] 4 (by kernel_rfl) (by kernel_rfl) (fun _ _ _ _ h => h) (by kernel_rfl) hHeld ?_
        simp only [runOps_true, runOps_false, runOps_nil]
        repeat (first | go_big_quiet_skip | (go_big_quiet_want; go_big_quiet_op; go_big_quiet_on))
        refine wpQuiet_nil ?_
        refine wpAnyH_ready (rs := [31]) (by kernel_rfl) (by simp) ?_
        refine AllReadyH.cons rfl (fun K hK => ?_) AllReadyH.nil
        go_simp
        go_wp2_with (go_at_call 20; refine (lat_any b S3 most tot qs other w12 H8.out.x).mono ?_; rintro e w13 ⟨rfl, hb⟩)
        refine hK.out _ _ ?_ (fun hHeld => ?_)
        clear hK K
        · exact HeldS.mk' (d1.below hb)
        replace d1 := d1.below hb
        replace H8 := Lib.hid (H8.out.belowW hb (fun k => k.below hb) (fun k => k.below hb))
        replace HRW := Lib.hid (HRW.out.below hb)
        clear hb
        refine wpAnyH_ready (rs := [34]) (by kernel_rfl) (by simp) ?_
        refine AllReadyH.cons rfl (fun K hK => ?_) AllReadyH.nil
        go_simp
        go_wp2_with (go_at_call 21; refine (count_any A3 qn cap3 qs other w13 HQN.out (by have := HQL.out; have := HQN.out; omega) HRW.out HQO.out).mono ?_; rintro e w14 ⟨rfl, hb⟩; rw [show sumP (qs.filter fun x => decide (x.1 = other)) = cnt qs other from rfl, Int.emod_eq_of_lt (cnt_nonneg HQG.out.pos other) (by have := cnt_le_sumP HQG.out.pos other; have := HQT.out; omega)])
        refine hK.out _ _ ?_ (fun hHeld => ?_)
        clear hK K
        · exact HeldS.mk' (d1.below hb)
        replace H8 := Lib.hid (H8.out.belowW hb (fun k => k.below hb) (fun k => k.below hb))
        clear hb HRW d1
        generalize cnt qs other = cv
        refine wpAnyH_run0 [false, false, false, false, false, false, false, false, false, false, false, false, false, false, false, false, false, false, false, false, false, false, false, false, false, false, false, false, false, false, false, false, false, false, false, true, true] 0 (by kernel_rfl) (by kernel_rfl) (fun _ _ _ _ h => h) (by kernel_rfl) hHeld ?_
        simp only [runOps_true, runOps_false, runOps_nil]
        repeat (first | go_big_quiet_skip | (go_big_quiet_want; go_big_quiet_op; go_big_quiet_on))
        refine wpQuiet_nil ?_
        refine wpAnyH_done (by kernel_rfl) ?_ _
        refine NoPanic.normal ?_
        clear hfar hHeld hqm
        have HFIN : Hid (Both B w2 w14 b m S3 (m :: blk A5) most (list.take (k + 1))) := by
          have := H8.out
          rw [← HQS.out, ← HTOT.out] at this
          exact this
        clear H8
        go_wp2
        go_roundw
        case rel => exact ⟨k + 1, S3, m :: blk A5, by omega, by simp, HFIN⟩
        case measure => simp [intOf]; omega
      · obtain rfl : k = len := by omega
        go_wp2_with fail
        refine (lmost_any b S most _ _ wr (Two.x H.out)).mono ?_
        rintro e w4 ⟨rfl, rfl⟩
        have HFB := Lib.hid (Two.below H.out)
        clear H
        go_wp2
        go_ret
        exact ⟨rfl, HB2.out.trans (HFB.out.mono (by have := HZ2.out; have := HBE.out; omega))⟩
end Go.Proofs.Ytooojpicbbpaaaa

