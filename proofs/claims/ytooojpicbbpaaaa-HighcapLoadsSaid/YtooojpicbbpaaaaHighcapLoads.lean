/- The walk of the statement HighcapLoads. -/
import Derived.Test.YtooojpicbbpaaaaProg
import Derived.Test.YtooojpicbbpaaaaOpen
import Derived.Test.YtooojpicbbpaaaaBuild10
import Derived.Test.YtooojpicbbpaaaaHighLoad
namespace Go.Proofs.Ytooojpicbbpaaaa
open Go.RowKit

theorem RdP.one {w : World} {b : Nat} {x y : Int} {T : TypeId} (h : At w b #[.int .i64 x, .int .u64 y] T) : RdP w (some ⟨b, 0, none⟩) [(x, y)] := fun j u hj => by
  have f := h.two
  refine ⟨b, 0, rfl, h.lt, ?_⟩
  match j, hj with
  | 0, hj => simp at hj; subst hj; exact f.1
  | 1, hj => simp at hj; subst hj; exact f.2.1
theorem win_span {s : Bool} {most : Int} {rs : List (Int × Int)} (h : Gd rs) (hs : rs ≠ [] → (rs.getD (rs.length - 1) (0, 0)).1 - (rs.getD 0 (0, 0)).1 < most) : Win s most rs := by
  intro x hx
  have hn := List.ne_nil_of_mem hx
  have hl := List.length_pos_iff.2 hn
  have h0 := hs hn
  obtain ⟨a, ha, rfl⟩ := List.getElem_of_mem hx
  have h1 := h.le (i := 0) (j := a) (by omega) ha
  have h2 := h.le (i := a) (j := rs.length - 1) (by omega) (by omega)
  rw [@List.getD_eq_getElem?_getD _ rs a, List.getElem?_eq_getElem ha, Option.getD_some] at h1 h2
  unfold endP gap
  cases s with
  | true => simp only [if_true]; omega
  | false => simp only [Bool.false_eq_true, if_false]; omega
theorem span_win {s : Bool} {most : Int} {rs : List (Int × Int)} (h : Gd rs) (hw : Win s most rs) (j : Nat) (hj : j < rs.length) : (rs[j]'hj).1 - (rs.getD 0 (0, 0)).1 < most := by
  have h2 := h.le (i := j) (j := rs.length - 1) (by omega) (by omega)
  rw [@List.getD_eq_getElem?_getD _ rs j, List.getElem?_eq_getElem hj, Option.getD_some] at h2
  have a := hw _ (getD_mem' (i := 0) (by omega))
  have b := hw _ (List.getElem_mem hj)
  unfold endP gap at a b
  cases s with
  | true => simp only [if_true] at a; omega
  | false => simp only [Bool.false_eq_true, if_false] at b; omega
/-- What the law wants of a row, up to k. -/
structure Want (most lost : Int) (rs : List (Int × Int)) (k : Nat) : Prop where
  gm : GdM rs
  lo : lost < 9223372036854775808
  em : rs.length ≠ 0 ∨ lost = 0
  sm : lost + sumP (rs.take k) < 9223372036854775808
  sp : ∀ j, j < k → ∀ hj : j < rs.length, (rs[j]'hj).1 - (rs.getD 0 (0, 0)).1 < most
theorem take_le {rs : List (Int × Int)} (h : Gd rs) (k : Nat) : sumP (rs.take k) ≤ sumP rs := by
  have e := congrArg sumP (List.take_append_drop k rs)
  rw [sumP_append] at e
  have := sumP_nonneg (ps := rs.drop k) (fun x hx => h.pos x (List.mem_of_mem_drop hx))
  omega
theorem want_of {most lost : Int} {rs : List (Int × Int)} (h : LoadOk most rs lost) (h0 : 0 ≤ lost) (k : Nat) : Want most lost rs k :=
  ⟨h.gm, by have := h.sm; have := sumP_nonneg h.gm.gd.pos; omega, by
    by_cases e : rs = []
    · exact .inr (h.em e)
    · exact .inl (ne_len.2 e), by have := h.sm; have := take_le h.gm.gd k; omega, fun j _ hj => span_win h.gm.gd h.win j hj⟩
theorem want_all {most lost : Int} {rs : List (Int × Int)} (hm : 1 ≤ most) (h : Want most lost rs rs.length) : LoadOk most rs lost := by
  have hw : Win sd most rs := win_span h.gm.gd fun hn => by
    have hl := List.length_pos_iff.2 hn
    have := h.sp (rs.length - 1) (by omega) (by omega)
    rwa [List.getD_eq_getElem?_getD, List.getElem?_eq_getElem (by omega), Option.getD_some]
  have hs := h.sm
  rw [List.take_of_length_le (Nat.le_refl _)] at hs
  exact ⟨h.gm, win_len h.gm.gd hw hm, by omega, hw, fun e => h.em.resolve_left (fun k => k (by rw [e]; rfl))⟩
theorem kept_ok {most : Int} {l : List (Int × Int)} (h : Small most l) : LoadOk most (keptP sd most (allOf l)) (sumP l - sumP (keptP sd most (allOf l))) := by
  have ha := h.all
  have hs := h.sum
  have hk := kept_gd (s := sd) (most := most) ha.1
  have hw := kept_win (s := sd) ha.1 h.m.1
  have hle := (near_sum (s := sd) (most := most) (e := endP sd (allOf l)) ha.1)
  rw [kept_near, ha.2.1] at hle
  refine ⟨⟨hk, fun x hx => ?_⟩, win_len hk hw h.m.1, by omega, hw, fun e => ?_⟩
  · have h1 := cnt_mem_pos hk.pos hx
    have h2 := cnt_le_sumP hk.pos x.1
    have h3 : x.2 ≤ sumP (keptP sd most (allOf l)) := by
      obtain ⟨i, hi, rfl⟩ := List.getElem_of_mem hx
      have := sumP_take (keptP sd most (allOf l)) i hi
      have := take_le hk (i + 1)
      have := sumP_nonneg (ps := (keptP sd most (allOf l)).take i) (fun x hx => hk.pos x (List.mem_of_mem_take hx))
      omega
    omega
  · have hn : allOf l = [] := by
      by_cases hn : allOf l = []
      · exact hn
      · exact absurd e (kept_end ha.1 h.m.1 hn).1
    rw [e, sumP_nil]
    have := ha.2.1
    rw [hn, sumP_nil] at this
    omega
set_option maxRecDepth 100000 in
set_option maxHeartbeats 2000000 in
theorem highcapLoads_walk (w : World) (most : Int) (bdmost : -9223372036854775808 ≤ most ∧ most ≤ 9223372036854775807) (Alist : Option Addr) (clist : Nat) (list : List (Int × Int)) (rlist : Rd w Alist (list.flatMap fun x => [.int .i64 x.1, .int .u64 x.2])) (bdlist : ∀ x ∈ list, (-9223372036854775808 ≤ x.1 ∧ x.1 ≤ 9223372036854775807) ∧ (0 ≤ x.2 ∧ x.2 < 18446744073709551616)) (llist : list.length ≤ 9223372036854775807) (more0 more1 : Int) (bdmore0 : -9223372036854775808 ≤ more0 ∧ more0 ≤ 9223372036854775807) (bdmore1 : 0 ≤ more1 ∧ more1 < 18446744073709551616) (Arow : Option Addr) (crow : Nat) (row : List (Int × Int)) (rrow : Rd w Arow (row.flatMap fun x => [.int .i64 x.1, .int .u64 x.2])) (bdrow : ∀ x ∈ row, (-9223372036854775808 ≤ x.1 ∧ x.1 ≤ 9223372036854775807) ∧ (0 ≤ x.2 ∧ x.2 < 18446744073709551616)) (lrow : row.length ≤ 9223372036854775807) (lost : Int) (bdlost : 0 ≤ lost ∧ lost < 18446744073709551616) :
    Calls Try.prog 5 #[.int .i64 most, .slice Alist list.length clist, .agg #[.int .i64 more0, .int .u64 more1], .slice Arow row.length crow, .int .u64 lost] w fun e w' => e = .returned (.bool true) ∧ Below w.heap.size w w' := by
  have HM := Lib.hid bdmost
  have HRL : Hid (RdP w Alist list) := rlist
  have HOL : Hid (okP list) := bdlist
  have HRR : Hid (RdP w Arow row) := rrow
  have HOR : Hid (okP row) := bdrow
  have HMO : Hid ((-9223372036854775808 ≤ more0 ∧ more0 ≤ 9223372036854775807) ∧ (0 ≤ more1 ∧ more1 < 18446744073709551616)) := ⟨bdmore0, bdmore1⟩
  have HLO := Lib.hid bdlost
  clear rlist bdlist rrow bdrow bdmore0 bdmore1 bdlost bdmost
  obtain ⟨nl, hnl⟩ : ∃ n, list.length = n := ⟨_, rfl⟩
  obtain ⟨nr, hnr⟩ : ∃ n, row.length = n := ⟨_, rfl⟩
  have HNL := Lib.hid hnl
  have HNR := Lib.hid hnr
  rw [hnl] at llist ⊢
  rw [hnr] at lrow ⊢
  clear hnl hnr
  go_enter Try.func5, Try.ntmps5
  have sM0 := At.new w #[.int .i64 more0, .int .u64 more1] 34
  obtain ⟨mB, hmB⟩ : ∃ mB, w.heap.size = mB := ⟨_, rfl⟩
  have hbA : Below w.heap.size w (w.alloc (.cells #[.int .i64 more0, .int .u64 more1] 34)) := (Below.refl _ _).alloc (Nat.le_refl _) _
  have HMB := Lib.hid hmB
  rw [hmB] at sM0
  go_wp2_with fail
  try rw [hmB]
  refine (alive_any _).mono ?_
  rintro e w1 ⟨rfl, hb⟩
  have hb1 := keep1 hbA hb
  have sM := sM0.below hb
  clear sM0 hbA hb hmB
  go_wp2_with fail
  refine (great_any Alist nl clist list most w1 HNL.out llist (HRL.out.below hb1) HOL.out).mono ?_
  rintro e w2 ⟨⟨bv, rfl, hbv⟩, hb⟩
  have hb2 := keep1 hb1 hb
  replace sM := sM.below hb
  clear hb1 hb
  cases bv with
  | true =>
    clear hbv
    go_wp2
    go_ret
    exact ⟨rfl, hb2⟩
  | false =>
    have HSL : Hid (SmallG most list) := says_small hbv
    clear hbv
    have fM := sM.two
    have lM := sM.lt
    have z2 := hb2.size
    have a2 := At.new w2 #[.int .i64 more0, .int .u64 more1] 34
    have hb2' : Below w2.heap.size w2 (w2.alloc (.cells #[.int .i64 more0, .int .u64 more1] 34)) := (Below.refl _ _).alloc (Nat.le_refl _) _
    have HRO := Lib.hid (RdP.one a2)
    have HB2' := Lib.hid hb2'
    clear a2 hb2'
    go_wp2_with fail
    refine (great_any _ 1 _ [(more0, more1)] most _ rfl (by omega) HRO.out (fun x hx => by simp at hx; subst hx; exact HMO.out)).mono ?_
    rintro e w3 ⟨⟨bv, rfl, hbv⟩, hb⟩
    have hb3' := keep1 HB2'.out hb
    have hb3 := keep1 hb2 hb3'
    replace sM := sM.below hb3'
    clear hb2 hb hb3' z2 fM lM HB2' HRO
    cases bv with
    | true =>
      clear hbv
      go_wp2
      go_ret
      exact ⟨rfl, hb3⟩
    | false =>
      have HSO : Hid (SmallG most [(more0, more1)]) := says_small hbv
      clear hbv
      have HC1 : Hid (0 < more1 ∧ more1 ≤ 1125899906842624) := HSO.out.s.c (more0, more1) (by simp)
      clear HSO
      by_cases h60 : 60 < nr
      · have h60' : (60 : Int) < nr := by omega
        go_wp2
        go_ret
        exact ⟨rfl, hb3⟩
      · have h60' : ¬ (60 : Int) < nr := by omega
        have HB3 := Lib.hid hb3
        have HZ3 := Lib.hid hb3.size
        replace HRR := Lib.hid (HRR.out.below hb3)
        replace HRL := Lib.hid (HRL.out.below hb3)
        clear hb3
        go_wp2_with fail
        refine (build_any Alist nl clist list most w3 HNL.out HRL.out HOL.out HSL.out.s).mono ?_
        rintro e w4 ⟨b, m, S, T, rfl, hB⟩
        have hb4 : Below w3.heap.size w3 w4 := Two.below hB
        have H4 : Hid (Two w3.heap.size w3 w4 S [] (High w4 b S most (keptP sd most (allOf list)) (sumP list)) True) := ⟨Two.x hB, trivial, Two.ws hB, fun k hk => by simp at hk, fun k hk hn => by simp at hn, hb4, hb4.size⟩
        have hSM : mB ∉ S := fun h => by have := (Two.ws hB mB h).1; have := sM.lt; omega
        have HLT3 := Lib.hid (show mB < w3.heap.size from sM.lt)
        replace sM := sM.below hb4
        have HKO := Lib.hid (kept_ok HSL.out.s)
        have HSUM := Lib.hid HSL.out.s.sum
        clear hB hb4 hSM
        obtain ⟨ps, hps⟩ : ∃ ps, keptP sd most (allOf list) = ps := ⟨_, rfl⟩
        obtain ⟨tot, htot⟩ : ∃ tot, sumP list = tot := ⟨_, rfl⟩
        rw [hps, htot] at H4 HKO
        rw [htot] at HSUM
        clear hps htot
        obtain ⟨pn, hpn⟩ : ∃ n, ps.length = n := ⟨_, rfl⟩
        have HPN := Lib.hid hpn
        clear hpn
        go_wp2_with fail
        refine (lpairs_any b S most _ _ w4 H4.out.x).mono ?_
        rintro e w5 ⟨A5, c5, rfl, ho5, hb⟩
        rw [HPN.out]
        have H5 := Lib.hid (H4.out.belowW hb (fun k => k.below hb) (fun k => k))
        replace sM := sM.below hb
        have HR5 := Lib.hid ho5.rd
        have HLL := Lib.hid H5.out.x
        clear hb ho5 H4
        go_wp2_with fail
        refine (llost_any b S most _ _ w5 H5.out.x).mono ?_
        rintro e w6 ⟨rfl, rfl⟩
        obtain ⟨lv, hlv⟩ : ∃ lv, tot - sumP ps = lv := ⟨_, rfl⟩
        have HLV := Lib.hid hlv
        rw [hlv] at HKO ⊢
        clear hlv
        go_wp2_with fail
        refine (lload_any A5 pn c5 ps most lv w5 HSL.out.s.m.1 HSL.out.s.m.2 HPN.out (by have := HLL.out.len; have := HPN.out; omega) HR5.out HLL.out.ok (by have := HLV.out; have := HLL.out.lo; omega) (by have := HLV.out; have := HLL.out.sum0; have := HSUM.out; omega)).mono ?_
        rintro e w6 ⟨hL, hb⟩
        rcases hL with ⟨_, d, S2, rfl, hW2, hL2⟩ | ⟨hbad, _⟩
        rotate_left
        · exact absurd HKO.out hbad
        rw [show sumP ps + lv = tot by have := HLV.out; omega] at hL2
        have H6 : Hid (Two w3.heap.size w3 w6 S S2 (High w6 b S most ps tot) (High w6 d S2 most ps tot)) := H5.out.newY hb (fun k => k.below hb) hW2 hL2
        replace sM := sM.below hb
        clear hb H5 hL2 hW2 HR5 HLL
        have HNM : Hid (mB ∉ S ∧ mB ∉ S2) := ⟨fun h => by have := (H6.out.ws mB h).1; have := HLT3.out; omega, fun h => by have := (H6.out.wt mB h).1; have := HLT3.out; omega⟩
        replace H6 := Lib.hid (H6.out.belowW (Below.refl _ _).drew (fun k => k.below (Below.refl _ _).drew) (fun k => k.below (Below.refl _ _).drew))
        go_wp2
        obtain ⟨W6, hW6⟩ : ∃ W6, w6.drew = W6 := ⟨_, rfl⟩
        have sM6 := sM.drew
        rw [hW6] at sM6 H6
        haveI : Nonempty (Held fun w' => At w' mB #[.int .i64 more0, .int .u64 more1] 34) := ⟨⟨W6, sM6⟩⟩
        have hfar := fun z : Held fun w' => At w' mB #[.int .i64 more0, .int .u64 more1] 34 => z.held.two
        refine wp_region_noPanic ?_
        refine wp_region_held_drew (S := HeldS fun w' => At w' mB #[.int .i64 more0, .int .u64 more1] 34) (by kernel_rfl) (HeldS.mk' (hW6 ▸ sM6)) (fun hHeld => ?_)
        rw [hW6] at hHeld ⊢
        clear hW6 sM
        refine wpAnyH_run0 [true, true, true, true, true, true, true, true, false, true, true, true, true, true] 19 (by kernel_rfl) (by kernel_rfl) (fun _ _ _ _ h => h) (by kernel_rfl) hHeld ?_
        simp only [runOps_true, runOps_false, runOps_nil]
        repeat (first | go_big_quiet_skip | (go_big_quiet_want; go_big_quiet_op; go_big_quiet_on))
        refine wpQuiet_nil ?_
        refine wpAnyH_ready (rs := [8]) (by kernel_rfl) (by simp) ?_
        refine AllReadyH.cons rfl (fun K hK => ?_) AllReadyH.nil
        go_simp
        go_wp2_with (go_at_call 11; refine (ladd_any d S2 most tot more0 more1 ps W6 H6.out.y HC1.out.1 (by have := HC1.out; have := HSUM.out; omega) HMO.out.1).mono ?_; rintro e w7 ⟨rfl, S3, hg3, hC3, hF3⟩)
        refine hK.out _ _ ?_ (fun hHeld => ?_)
        clear hK K
        · exact HeldS.mk' (hF3.at sM6 HNM.out.2)
        replace sM6 := hF3.at sM6 HNM.out.2
        have H7 := Lib.hid (H6.out.stepY hg3 hC3 hC3.lt hF3 (H6.out.x.frame hF3 H6.out.ap))
        clear H6 hg3 hC3 hF3
        refine wpAnyH_ready (rs := [14]) (by kernel_rfl) (by simp) ?_
        refine AllReadyH.cons rfl (fun K hK => ?_) AllReadyH.nil
        go_simp
        go_wp2_with (go_at_call 11; refine (ladd_any b S most tot more0 more1 ps w7 H7.out.x HC1.out.1 (by have := HC1.out; have := HSUM.out; omega) HMO.out.1).mono ?_; rintro e w8 ⟨rfl, S4, hg4, hC4, hF4⟩)
        refine hK.out _ _ ?_ (fun hHeld => ?_)
        clear hK K
        · exact HeldS.mk' (hF4.at sM6 HNM.out.1)
        replace sM6 := hF4.at sM6 HNM.out.1
        have H8 := Lib.hid (H7.out.stepX hg4 hC4 hC4.lt hF4 (H7.out.y.frame hF4 H7.out.ap.symm))
        clear H7 hg4 hC4 hF4
        obtain ⟨qs, hqs⟩ : ∃ qs, capRow sd most ps more0 more1 = qs := ⟨_, rfl⟩
        rw [hqs] at H8
        clear hqs
        obtain ⟨qn, hqn⟩ : ∃ n, qs.length = n := ⟨_, rfl⟩
        have HQN := Lib.hid hqn
        have hql : qn ≤ 4096 := by have := H8.out.x.len; omega
        clear hqn
        refine wpAnyH_run0 [false, false, false, false, false, false, false, false, false, false, false, false, false, false, false, true, true, true, true, false, true] 12 (by kernel_rfl) (by kernel_rfl) (fun _ _ _ _ h => h) (by kernel_rfl) hHeld ?_
        simp only [runOps_true, runOps_false, runOps_nil]
        repeat (first | go_big_quiet_skip | (go_big_quiet_want; go_big_quiet_op; go_big_quiet_on))
        refine wpQuiet_nil ?_
        refine wpAnyH_ready (rs := [19]) (by kernel_rfl) (by simp) ?_
        refine AllReadyH.cons rfl (fun K hK => ?_) AllReadyH.nil
        go_simp
        go_wp2_with (go_at_call 15; refine (lpairs_any d S3 most _ qs w8 H8.out.y).mono ?_; rintro e w9 ⟨A9, c9, rfl, ho9, hb⟩; rw [HQN.out])
        refine hK.out _ _ ?_ (fun hHeld => ?_)
        clear hK K
        · exact HeldS.mk' (sM6.below hb)
        replace sM6 := sM6.below hb
        have HR9 := Lib.hid ho9.rd
        have H9 := Lib.hid (H8.out.belowW hb (fun k => k.below hb) (fun k => k.below hb))
        clear hb ho9 H8
        refine wpAnyH_ready (rs := [21]) (by kernel_rfl) (by simp) ?_
        refine AllReadyH.cons rfl (fun K hK => ?_) AllReadyH.nil
        go_simp
        go_wp2_with (go_at_call 15; refine (lpairs_any b S4 most _ qs w9 H9.out.x).mono ?_; rintro e w10 ⟨A10, c10, rfl, ho10, hb⟩; rw [HQN.out])
        refine hK.out _ _ ?_ (fun hHeld => ?_)
        clear hK K
        · exact HeldS.mk' (sM6.below hb)
        replace sM6 := sM6.below hb
        have HR10 := Lib.hid ho10.rd
        replace HR9 := Lib.hid (HR9.out.below hb)
        have H10 := Lib.hid (H9.out.belowW hb (fun k => k.below hb) (fun k => k.below hb))
        clear hb ho10 H9
        refine wpAnyH_ready (rs := [22]) (by kernel_rfl) (by simp) ?_
        refine AllReadyH.cons rfl (fun K hK => ?_) AllReadyH.nil
        go_simp
        go_wp2_with (go_at_call 14; refine (same_any A9 A10 qn c9 qn c10 qs qs w10 HQN.out HQN.out (by omega) (by omega) HR9.out HR10.out).mono ?_; rintro e w11 ⟨rfl, hb⟩; rw [decide_eq_true rfl])
        refine hK.out _ _ ?_ (fun hHeld => ?_)
        clear hK K
        · exact HeldS.mk' (sM6.below hb)
        replace sM6 := sM6.below hb
        have H11 := Lib.hid (H10.out.belowW hb (fun k => k.below hb) (fun k => k.below hb))
        clear hb H10 HR9 HR10
        refine wpAnyH_run0 [false, false, false, false, false, false, false, false, false, false, false, false, false, false, false, false, false, false, false, false, false, false, false, true, true, true, true, false, true] 4 (by kernel_rfl) (by kernel_rfl) (fun _ _ _ _ h => h) (by kernel_rfl) hHeld ?_
        simp only [runOps_true, runOps_false, runOps_nil]
        repeat (first | go_big_quiet_skip | (go_big_quiet_want; go_big_quiet_op; go_big_quiet_on))
        refine wpQuiet_nil ?_
        refine wpAnyH_ready (rs := [27]) (by kernel_rfl) (by simp) ?_
        refine AllReadyH.cons rfl (fun K hK => ?_) AllReadyH.nil
        go_simp
        go_wp2_with (go_at_call 16; refine (llost_any d S3 most _ qs w11 H11.out.y).mono ?_; rintro e w12 ⟨rfl, rfl⟩)
        refine hK.out _ _ ?_ (fun hHeld => ?_)
        clear hK K
        · exact HeldS.mk' sM6
        refine wpAnyH_ready (rs := [29]) (by kernel_rfl) (by simp) ?_
        refine AllReadyH.cons rfl (fun K hK => ?_) AllReadyH.nil
        go_simp
        go_wp2_with (go_at_call 16; refine (llost_any b S4 most _ qs w11 H11.out.x).mono ?_; rintro e w12 ⟨rfl, rfl⟩)
        refine hK.out _ _ ?_ (fun hHeld => ?_)
        clear hK K
        · exact HeldS.mk' sM6
        generalize tot + more1 - sumP qs = lw
        refine wpAnyH_run0 [false, false, false, false, false, false, false, false, false, false, false, false, false, false, false, false, false, false, false, false, false, false, false, false, false, false, false, false, false, false, true, true] 0 (by kernel_rfl) (by kernel_rfl) (fun _ _ _ _ h => h) (by kernel_rfl) hHeld ?_
        simp only [runOps_true, runOps_false, runOps_nil]
        repeat (first | go_big_quiet_skip | (go_big_quiet_want; go_big_quiet_op; go_big_quiet_on))
        refine wpQuiet_nil ?_
        refine wpAnyH_done (by kernel_rfl) ?_ _
        refine NoPanic.normal ?_
        have HB11 : Hid (Below w3.heap.size w3 w11) := Two.below H11.out
        have HZ11 := Lib.hid HB11.out.size
        clear hfar hHeld H11 sM6 HNM
        have HRR11 := Lib.hid (HRR.out.below HB11.out)
        go_wp2_with fail
        refine (lload_any Arow nr crow row most lost w11 HSL.out.s.m.1 HSL.out.s.m.2 HNR.out lrow HRR11.out HOR.out HLO.out.1 HLO.out.2).mono ?_
        rintro e w12 ⟨hL, hb⟩
        have HB12 := Lib.hid (keep1 HB11.out hb)
        have HZ12 := Lib.hid HB12.out.size
        have HZ12' := Lib.hid hb.size
        obtain ⟨px, ex, rfl, hL'⟩ : ∃ px ex, e = .returned (.tuple #[px, ex]) ∧ Hid ((LoadOk most row lost ∧ ∃ b S, px = .pointer (some ⟨b, 0, none⟩) ∧ ex = .int .i64 0 ∧ High w12 b S most row (sumP row + lost)) ∨ (¬ LoadOk most row lost ∧ px = .pointer none ∧ ex = .int .i64 1)) := by
          rcases hL with ⟨h1, b', S', rfl, _, hl⟩ | ⟨h1, rfl⟩
          · exact ⟨_, _, rfl, .inl ⟨h1, b', S', rfl, rfl, hl⟩⟩
          · exact ⟨_, _, rfl, .inr ⟨h1, rfl, rfl⟩⟩
        have HRR12 := Lib.hid (HRR.out.below HB12.out)
        clear hL hb HRR11 HB11 HZ11
        go_wp2_with fail
        refine (rgood_any Arow nr crow row w12 HNR.out lrow HRR12.out HOR.out).mono ?_
        rintro e w13 ⟨⟨bv, rfl, hbv⟩, hb⟩
        have HB13 := Lib.hid (keep1 HB12.out hb)
        have HBX : Hid (Below w12.heap.size w12 w13) := hb
        have HRR13 := Lib.hid (HRR12.out.below hb)
        have HLX := Lib.hid hL'
        clear hb hL'
        cases bv with
        | false =>
          have HBAD : Hid (¬ LoadOk most row lost) := fun hok => by have := hbv.2 hok.gm; cases this
          clear hbv
          go_wp2
          go_loopw [17, 18, 19] (fun wv _ _ wr => wv = .bool false ∧ Below w13.heap.size w13 wr) (fun _ _ _ _ => 0)
          case atStart => exact ⟨rfl, Below.refl _ _⟩
          case round =>
            obtain ⟨rfl, hB⟩ := hrel
            have HBW := Lib.hid (keep1 HB13.out hB)
            clear hB
            rcases HLX.out with ⟨hok, _⟩ | ⟨_, rfl, rfl⟩
            · exact absurd hok HBAD.out
            clear HLX
            go_wp2
            go_ret
            exact ⟨rfl, HB3.out.trans (HBW.out.mono HZ3.out)⟩
        | true =>
          have HGM := Lib.hid (hbv.1 rfl)
          clear hbv
          by_cases hlo : lost < 9223372036854775808
          · have hlo' : decide (lost < 9223372036854775808) = true := decide_eq_true hlo
            by_cases hn0 : 0 < nr
            · have hn0' : (0 : Int) < nr := by omega
              have HW0 : Hid (Want most lost row 0) := ⟨HGM.out, hlo, .inl (by have := HNR.out; omega), by rw [List.take_zero, sumP_nil]; omega, fun j hj => by omega⟩
              clear hlo
              go_wp2
              go_loopw [17, 18, 19] (fun wv s i wr => ∃ k : Nat, ∃ t : Int, ∃ bw : Bool, k ≤ nr ∧ i = .int .i64 k ∧ s = .int .u64 t ∧ wv = .bool bw ∧ Hid ((bw = true → Want most lost row k ∧ t = lost + sumP (row.take k)) ∧ (bw = false → ¬ LoadOk most row lost)) ∧ Below w13.heap.size w13 wr) (fun _ _ i _ => nr - (intOf i).toNat)
              case atStart => exact ⟨0, lost, true, by omega, rfl, rfl, rfl, ⟨fun _ => ⟨HW0.out, by rw [List.take_zero, sumP_nil, Int.add_zero]⟩, fun h => (by cases h)⟩, Below.refl _ _⟩
              case round =>
                obtain ⟨k, t, bw, hk, rfl, rfl, rfl, HS, hB⟩ := hrel
                have HBW := Lib.hid (keep1 HB13.out hB)
                have HRW := Lib.hid (HRR13.out.below hB)
                have zB := hB.size
                cases bw with
                | false =>
                  have HBAD := Lib.hid (HS.out.2 rfl)
                  clear hB HRW HS HW0
                  rcases HLX.out with ⟨hok, _⟩ | ⟨_, rfl, rfl⟩
                  · exact absurd hok HBAD.out
                  clear HLX
                  go_wp2
                  go_ret
                  exact ⟨rfl, HB3.out.trans (HBW.out.mono HZ3.out)⟩
                | true =>
                  obtain ⟨hw, ht⟩ := HS.out.1 rfl
                  have HW := Lib.hid hw
                  have HT := Lib.hid ht
                  clear HS hw ht HW0
                  by_cases hlt : k < nr
                  · obtain ⟨g, o, rfl, hg, c1, c2⟩ := HRW.out.at k (by have := HNR.out; omega)
                    obtain ⟨g', o', e, hg', d1, d2⟩ := HRW.out.at 0 (by have := HNR.out; omega)
                    cases e
                    obtain ⟨⟨b1, b2⟩, b3, b4⟩ := HOR.out.at k (by have := HNR.out; omega)
                    obtain ⟨⟨b5, b6⟩, b7, b8⟩ := HOR.out.at 0 (by have := HNR.out; omega)
                    have HST := Lib.hid (sumP_take row k (by have := HNR.out; omega))
                    have HMX := Lib.hid (HW.out.gm.mx _ (List.getElem_mem (show k < row.length by have := HNR.out; omega)))
                    have HPX := Lib.hid (HW.out.gm.gd.pos _ (List.getElem_mem (show k < row.length by have := HNR.out; omega)))
                    have HLE : Hid ((row[0]'(by have := HNR.out; omega)).1 ≤ (row[k]'(by have := HNR.out; omega)).1) := by
                      have := HW.out.gm.gd.le (i := 0) (j := k) (by omega) (by have := HNR.out; omega)
                      rwa [List.getD_eq_getElem?_getD, List.getD_eq_getElem?_getD, List.getElem?_eq_getElem (by have := HNR.out; omega), List.getElem?_eq_getElem (by have := HNR.out; omega)] at this
                    have HSPN : Hid (LoadOk most row lost → (row[k]'(by have := HNR.out; omega)).1 - (row[0]'(by have := HNR.out; omega)).1 < most) := fun hok => by
                      have := span_win HW.out.gm.gd hok.win k (by have := HNR.out; omega)
                      rwa [List.getD_eq_getElem?_getD, List.getElem?_eq_getElem (by have := HNR.out; omega)] at this
                    have HG0 : Hid (row.getD 0 (0, 0) = row[0]'(by have := HNR.out; omega)) := by
                      show _ = _
                      rw [List.getD_eq_getElem?_getD, List.getElem?_eq_getElem (by have := HNR.out; omega)]; rfl
                    have HSP : Hid (∀ z : Int, (row[k]'(by have := HNR.out; omega)).1 - (row[0]'(by have := HNR.out; omega)).1 < most → lost + sumP (row.take (k + 1)) < 9223372036854775808 → Want most lost row (k + 1)) := fun _ h1 h2 =>
                      ⟨HW.out.gm, HW.out.lo, HW.out.em, h2, fun j hj hj' => by
                        by_cases e : j = k
                        · subst e; rw [HG0.out]; exact h1
                        · exact HW.out.sp j (by omega) hj'⟩
                    have HTL := Lib.hid (take_le HW.out.gm.gd (k + 1))
                    obtain ⟨⟨x, y⟩, hx⟩ : ∃ x, row[k]'(by have := HNR.out; omega) = x := ⟨_, rfl⟩
                    obtain ⟨⟨x0, y0⟩, hx0⟩ : ∃ x, row[0]'(by have := HNR.out; omega) = x := ⟨_, rfl⟩
                    rw [hx] at c1 c2 b1 b2 b3 b4 HST HMX HPX HLE HSPN HSP
                    rw [hx0] at d1 d2 b5 b6 HLE HSPN HSP
                    clear hx hx0 b7 b8 d2 HG0
                    dsimp only at c1 c2 b1 b2 b3 b4 HST HMX HPX HLE HSPN HSP d1 b5 b6
                    rw [Nat.zero_mul, Nat.add_zero] at d1
                    have ht0 : 0 ≤ t ∧ t < 9223372036854775808 := by
                      have h1 := HT.out
                      have h2 := HW.out.sm
                      have h3 := sumP_nonneg (ps := row.take k) (fun x hx => HW.out.gm.gd.pos x (List.mem_of_mem_take hx))
                      have h4 := HLO.out.1
                      omega
                    have hy : IntKind.u64.wrap (t + y) = t + y := by have := HMX.out; have := HPX.out; simp only [IntKind.wrap_u64]; omega
                    obtain ⟨X, hX⟩ : ∃ X, IntKind.u64.wrap x = X := ⟨_, rfl⟩
                    obtain ⟨Y, hY⟩ : ∃ Y, IntKind.u64.wrap x0 = Y := ⟨_, rfl⟩
                    have hd : IntKind.u64.wrap (X - Y) = x - x0 := by have := HLE.out; subst hX hY; simp only [IntKind.wrap_u64]; omega
                    have hmw : IntKind.u64.wrap most = most := by have := HSL.out.s.m; simp only [IntKind.wrap_u64]; omega
                    have n0 : (0 : Int) < nr := by omega
                    by_cases h1 : t + y < 9223372036854775808
                    · have hd1 : decide (t + y < 9223372036854775808) = true := decide_eq_true h1
                      by_cases h2 : x - x0 < most
                      · have hd2 : decide (x - x0 < most) = true := decide_eq_true h2
                        have HN : Hid (Want most lost row (k + 1) ∧ t + y = lost + sumP (row.take (k + 1))) := by
                          have h3 := HST.out
                          have h4 := HT.out
                          exact ⟨HSP.out 0 h2 (by omega), by omega⟩
                        clear h1 h2 HSP HSPN HLE HST HMX HPX HTL b1 b2 b3 b4 b5 b6 ht0
                        go_wp2
                        go_quiet (fail)
                        go_wp2
                        go_roundw
                        case rel => exact ⟨k + 1, t + y, true, by omega, by simp, rfl, rfl, ⟨fun _ => HN.out, fun h => (by cases h)⟩, hB.drewN _⟩
                        case measure => simp [intOf]; omega
                      · have hd2 : decide (x - x0 < most) = false := decide_eq_false h2
                        have HN : Hid (¬ LoadOk most row lost) := fun hok => h2 (HSPN.out hok)
                        clear h1 h2 HSP HSPN HLE HST HMX HPX HTL b1 b2 b3 b4 b5 b6 ht0
                        go_wp2
                        go_quiet (fail)
                        go_wp2
                        go_roundw
                        case rel => exact ⟨k + 1, t + y, false, by omega, by simp, rfl, rfl, ⟨fun h => (by cases h), fun _ => HN.out⟩, hB.drewN _⟩
                        case measure => simp [intOf]; omega
                    · have hd1 : decide (t + y < 9223372036854775808) = false := decide_eq_false h1
                      have HN : Hid (¬ LoadOk most row lost) := fun hok => by
                        have h3 := hok.sm
                        have h4 := HST.out
                        have h5 := HT.out
                        have h6 := HTL.out
                        omega
                      clear h1 HSP HSPN HLE HST HMX HPX HTL b1 b2 b3 b4 b5 b6 ht0
                      go_wp2
                      go_quiet (fail)
                      go_wp2
                      go_roundw
                      case rel => exact ⟨k + 1, t + y, false, by omega, by simp, rfl, rfl, ⟨fun h => (by cases h), fun _ => HN.out⟩, hB.drewN _⟩
                      case measure => simp [intOf]; omega
                  · obtain rfl : k = nr := by omega
                    have hw := HW.out
                    have ht := HT.out
                    rw [← HNR.out] at hw
                    rw [← HNR.out, List.take_of_length_le (Nat.le_refl _)] at ht
                    have hok := want_all HSL.out.s.m.1 hw
                    rcases HLX.out with ⟨_, b', S', rfl, rfl, hl⟩ | ⟨hbad, _⟩
                    rotate_left
                    · exact absurd hok hbad
                    have HL' := Lib.hid (hl.below (keep1 HBX.out hB))
                    have HTT := Lib.hid ht
                    clear hw ht hok hl HLX HT HW hB
                    go_wp2_with fail
                    refine (llost_any b' S' most _ row wr HL'.out).mono ?_
                    rintro e w14 ⟨rfl, rfl⟩
                    rw [show sumP row + lost - sumP row = lost by omega]
                    go_wp2_with fail
                    refine (ltotal_any b' S' most _ row wr HL'.out).mono ?_
                    rintro e w14 ⟨rfl, hb14⟩
                    rw [show sumP row + lost = t by have := HTT.out; omega]
                    go_wp2_with fail
                    refine (lpairs_any b' S' most _ row w14 (HL'.out.below hb14)).mono ?_
                    rintro e w15 ⟨A15, c15, rfl, ho15, hb15⟩
                    rw [HNR.out]
                    have hb1415 := keep1 hb14 hb15
                    have HRF := Lib.hid (HRW.out.below hb1415)
                    have HR15 := Lib.hid ho15.rd
                    have HBF := Lib.hid (keep1 HBW.out hb1415)
                    clear ho15 hb15 hb14 hb1415
                    go_wp2_with fail
                    refine (same_any A15 Arow k c15 k crow row row w15 HNR.out HNR.out (by omega) (by omega) HR15.out HRF.out).mono ?_
                    rintro e w16 ⟨rfl, hb16⟩
                    rw [decide_eq_true rfl]
                    have HBG := Lib.hid (keep1 HBF.out hb16)
                    clear hb16
                    go_wp2
                    go_ret
                    exact ⟨rfl, HB3.out.trans (HBG.out.mono HZ3.out)⟩
            · have hn0' : ¬ (0 : Int) < nr := by omega
              by_cases hl0 : lost = 0
              · subst hl0
                have HW0 : Hid (Want most 0 row 0) := ⟨HGM.out, by omega, .inr rfl, by rw [List.take_zero, sumP_nil]; omega, fun j hj => by omega⟩
                clear hlo hlo'
                go_wp2
                go_loopw [17, 18, 19] (fun wv s i wr => ∃ k : Nat, ∃ t : Int, ∃ bw : Bool, k ≤ nr ∧ i = .int .i64 k ∧ s = .int .u64 t ∧ wv = .bool bw ∧ Hid ((bw = true → Want most (0 : Int) row k ∧ t = (0 : Int) + sumP (row.take k)) ∧ (bw = false → ¬ LoadOk most row (0 : Int))) ∧ Below w13.heap.size w13 wr) (fun _ _ i _ => nr - (intOf i).toNat)
                case atStart => exact ⟨0, 0, true, by omega, rfl, rfl, rfl, ⟨fun _ => ⟨HW0.out, by rw [List.take_zero, sumP_nil, Int.add_zero]⟩, fun h => (by cases h)⟩, Below.refl _ _⟩
                case round =>
                  obtain ⟨k, t, bw, hk, rfl, rfl, rfl, HS, hB⟩ := hrel
                  have HBW := Lib.hid (keep1 HB13.out hB)
                  have HRW := Lib.hid (HRR13.out.below hB)
                  have zB := hB.size
                  cases bw with
                  | false =>
                    have HBAD := Lib.hid (HS.out.2 rfl)
                    clear hB HRW HS HW0
                    rcases HLX.out with ⟨hok, _⟩ | ⟨_, rfl, rfl⟩
                    · exact absurd hok HBAD.out
                    clear HLX
                    go_wp2
                    go_ret
                    exact ⟨rfl, HB3.out.trans (HBW.out.mono HZ3.out)⟩
                  | true =>
                    obtain ⟨hw, ht⟩ := HS.out.1 rfl
                    have HW := Lib.hid hw
                    have HT := Lib.hid ht
                    clear HS hw ht HW0
                    by_cases hlt : k < nr
                    · exact absurd hlt (by omega)
                    · obtain rfl : k = nr := by omega
                      have hw := HW.out
                      have ht := HT.out
                      rw [← HNR.out] at hw
                      rw [← HNR.out, List.take_of_length_le (Nat.le_refl _)] at ht
                      have hok := want_all HSL.out.s.m.1 hw
                      rcases HLX.out with ⟨_, b', S', rfl, rfl, hl⟩ | ⟨hbad, _⟩
                      rotate_left
                      · exact absurd hok hbad
                      have HL' := Lib.hid (hl.below (keep1 HBX.out hB))
                      have HTT := Lib.hid ht
                      clear hw ht hok hl HLX HT HW hB
                      go_wp2_with fail
                      refine (llost_any b' S' most _ row wr HL'.out).mono ?_
                      rintro e w14 ⟨rfl, rfl⟩
                      rw [show sumP row + (0 : Int) - sumP row = (0 : Int) by omega]
                      go_wp2_with fail
                      refine (ltotal_any b' S' most _ row wr HL'.out).mono ?_
                      rintro e w14 ⟨rfl, hb14⟩
                      rw [show sumP row + (0 : Int) = t by have := HTT.out; omega]
                      go_wp2_with fail
                      refine (lpairs_any b' S' most _ row w14 (HL'.out.below hb14)).mono ?_
                      rintro e w15 ⟨A15, c15, rfl, ho15, hb15⟩
                      rw [HNR.out]
                      have hb1415 := keep1 hb14 hb15
                      have HRF := Lib.hid (HRW.out.below hb1415)
                      have HR15 := Lib.hid ho15.rd
                      have HBF := Lib.hid (keep1 HBW.out hb1415)
                      clear ho15 hb15 hb14 hb1415
                      go_wp2_with fail
                      refine (same_any A15 Arow k c15 k crow row row w15 HNR.out HNR.out (by omega) (by omega) HR15.out HRF.out).mono ?_
                      rintro e w16 ⟨rfl, hb16⟩
                      rw [decide_eq_true rfl]
                      have HBG := Lib.hid (keep1 HBF.out hb16)
                      clear hb16
                      go_wp2
                      go_ret
                      exact ⟨rfl, HB3.out.trans (HBG.out.mono HZ3.out)⟩
              · have hl0' : (lost == 0) = false := beq_eq_false_iff_ne.2 hl0
                have HBAD : Hid (¬ LoadOk most row lost) := fun hok => by
                  have := hok.em (List.eq_nil_of_length_eq_zero (by have := HNR.out; omega))
                  exact hl0 this
                clear hlo hl0
                go_wp2
                go_loopw [17, 18, 19] (fun wv _ _ wr => wv = .bool false ∧ Below w13.heap.size w13 wr) (fun _ _ _ _ => 0)
                case atStart => exact ⟨rfl, Below.refl _ _⟩
                case round =>
                  obtain ⟨rfl, hB⟩ := hrel
                  have HBW := Lib.hid (keep1 HB13.out hB)
                  clear hB
                  rcases HLX.out with ⟨hok, _⟩ | ⟨_, rfl, rfl⟩
                  · exact absurd hok HBAD.out
                  clear HLX
                  go_wp2
                  go_ret
                  exact ⟨rfl, HB3.out.trans (HBW.out.mono HZ3.out)⟩
          · have hlo' : decide (lost < 9223372036854775808) = false := decide_eq_false hlo
            have HBAD : Hid (¬ LoadOk most row lost) := fun hok => by
              have := hok.sm
              have := sumP_nonneg hok.gm.gd.pos
              omega
            clear hlo
            go_wp2
            go_loopw [17, 18, 19] (fun wv _ _ wr => wv = .bool false ∧ Below w13.heap.size w13 wr) (fun _ _ _ _ => 0)
            case atStart => exact ⟨rfl, Below.refl _ _⟩
            case round =>
              obtain ⟨rfl, hB⟩ := hrel
              have HBW := Lib.hid (keep1 HB13.out hB)
              clear hB
              rcases HLX.out with ⟨hok, _⟩ | ⟨_, rfl, rfl⟩
              · exact absurd hok HBAD.out
              clear HLX
              go_wp2
              go_ret
              exact ⟨rfl, HB3.out.trans (HBW.out.mono HZ3.out)⟩
end Go.Proofs.Ytooojpicbbpaaaa

