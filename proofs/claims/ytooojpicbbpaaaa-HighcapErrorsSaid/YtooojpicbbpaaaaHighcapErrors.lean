/- The walk of the statement HighcapErrors. -/
import Derived.Test.YtooojpicbbpaaaaProg
import Derived.Test.YtooojpicbbpaaaaOpen
import Derived.Test.YtooojpicbbpaaaaBuild10
import Derived.Test.YtooojpicbbpaaaaHighMerge
import Derived.Test.YtooojpicbbpaaaaHighFind
import Derived.Test.YtooojpicbbpaaaaRunsAdd
namespace Go.Proofs.Ytooojpicbbpaaaa
open Go.RowKit

/-- Each has twice as many. -/
def dbl (ps : List (Int × Int)) : List (Int × Int) := ps.map fun x => (x.1, 2 * x.2)
def dblK (ps : List (Int × Int)) (k : Nat) : List (Int × Int) := dbl (ps.take k) ++ ps.drop k
theorem dbl_len (ps : List (Int × Int)) : (dbl ps).length = ps.length := by simp [dbl]
theorem dblK_len (ps : List (Int × Int)) (k : Nat) : (dblK ps k).length = ps.length := by
  unfold dblK dbl
  rw [List.length_append, List.length_map, List.length_take, List.length_drop]
  omega
theorem dblK_zero (ps : List (Int × Int)) : dblK ps 0 = ps := by simp [dblK, dbl]
theorem dblK_all (ps : List (Int × Int)) : dblK ps ps.length = dbl ps := by simp [dblK]
theorem dblK_get (ps : List (Int × Int)) (k : Nat) (hk : k < ps.length) : (dblK ps k)[k]'(by rw [dblK_len]; exact hk) = ps[k]'hk := by
  unfold dblK
  rw [List.getElem_append_right (by unfold dbl; rw [List.length_map, List.length_take]; omega), List.getElem_drop]
  congr 1
  unfold dbl
  rw [List.length_map, List.length_take]
  omega
theorem dblK_step (ps : List (Int × Int)) (k : Nat) (hk : k < ps.length) : (dblK ps k).set k ((ps[k]'hk).1, 2 * (ps[k]'hk).2) = dblK ps (k + 1) := by
  have hl : (dbl (ps.take k)).length = k := by rw [dbl_len, List.length_take]; omega
  unfold dblK
  rw [List.set_append_right _ _ (by omega), hl, Nat.sub_self, List.drop_eq_getElem_cons hk, List.set_cons_zero, List.take_succ_eq_append_getElem hk]
  unfold dbl
  rw [List.map_append, List.append_assoc]
  rfl
theorem dbl_cnt (i : Int) : ∀ (ps : List (Int × Int)), cnt (dbl ps) i = 2 * cnt ps i
  | [] => rfl
  | x :: ps => by
    show cnt ((x.1, 2 * x.2) :: dbl ps) i = _
    rw [cnt_cons, cnt_cons, dbl_cnt i ps]
    dsimp only
    split <;> omega
theorem dbl_sum : ∀ (ps : List (Int × Int)), sumP (dbl ps) = 2 * sumP ps
  | [] => rfl
  | x :: ps => by
    show sumP ((x.1, 2 * x.2) :: dbl ps) = _
    rw [sumP_cons, sumP_cons, dbl_sum ps]
    dsimp only
    omega
theorem dbl_gd {ps : List (Int × Int)} (h : Gd ps) : Gd (dbl ps) := by
  refine ⟨?_, fun x hx => ?_⟩
  · unfold dbl
    rw [List.pairwise_map]
    exact h.srt
  · obtain ⟨y, hy, rfl⟩ := List.mem_map.1 hx
    have := h.pos y hy
    dsimp only
    omega
theorem mem_le_sum {ps : List (Int × Int)} (h : Gd ps) {x : Int × Int} (hx : x ∈ ps) : x.2 ≤ sumP ps := by
  obtain ⟨i, hi, rfl⟩ := List.getElem_of_mem hx
  have h1 := sumP_take ps i hi
  have e := congrArg sumP (List.take_append_drop (i + 1) ps)
  rw [sumP_append] at e
  have h2 := sumP_nonneg (ps := ps.drop (i + 1)) (fun x hx => h.pos x (List.mem_of_mem_drop hx))
  have h3 := sumP_nonneg (ps := ps.take i) (fun x hx => h.pos x (List.mem_of_mem_take hx))
  omega
theorem dbl_ok {ps : List (Int × Int)} (h : Gd ps) (ho : okP ps) (hs : sumP ps ≤ 4611686018427387904) : okP (dbl ps) := fun x hx => by
  obtain ⟨y, hy, rfl⟩ := List.mem_map.1 hx
  have h1 := ho y hy
  have h2 := h.pos y hy
  have h3 := mem_le_sum h hy
  exact ⟨h1.1, by dsimp only; omega⟩
/-- Merged with itself it has all twice. -/
theorem twice {most : Int} {all : List (Int × Int)} (hm : 1 ≤ most) (h : Gd all) (hs : sumP all ≤ 4611686018427387904) : capAll sd most (keptP sd most all) (keptP sd most all) = keptP sd most (dbl all) := by
  have h0 := sumP_nonneg h.pos
  rw [capAll_merge hm h h (by omega)]
  congr 1
  obtain ⟨a, _, c⟩ := addAll_spec (ps := all) (l := all) h h.pos (by omega)
  exact Gd.ext a (dbl_gd h) fun i => by rw [c, dbl_cnt]; omega

theorem own2_frz {w : World} {g c : Nat} {ps : List (Int × Int)} (h : Own2 0 w (some ⟨g, 0, none⟩) c ps) (o : Nat) : w.frozen? ⟨g, o, none⟩ = false := by
  rcases h.2 with ⟨e, _⟩ | ⟨g', cp, cur, e, _, hc, _⟩
  · cases e
  · simp only [Value.slice.injEq, Option.some.injEq, Addr.mk.injEq] at e
    obtain ⟨⟨rfl, _⟩, _⟩ := e
    simp [World.frozen?, hc]
/-- A count of the document's row is written. -/
theorem docL_put {w : World} {m g c k : Nat} {most x v : Int} {ps : List (Int × Int)} (h : DocB w m (some ⟨g, 0, none⟩) c most ps) (hk : k < ps.length) (hx : (ps[k]'hk).1 = x) :
    DocL ((w.setCell ⟨g, k * 2 + 1, none⟩ (.int .u64 v)).drew) m (m :: blk (some ⟨g, 0, none⟩)) most (ps.set k (x, v)) ∧ Frame (m :: blk (some ⟨g, 0, none⟩)) w (w.setCell ⟨g, k * 2 + 1, none⟩ (.int .u64 v)).drew := by
  have hmg : m ≠ g := fun e => h.ne (by simp [blk, e])
  have hown := own_setCell h.own (o := k * 2 + 1) (by omega) (.int .u64 v)
  rw [← flatP_set ps k v hk] at hown
  have e1 : (ps.getD k (0, 0)).1 = x := by rw [List.getD_eq_getElem?_getD, List.getElem?_eq_getElem hk]; exact hx
  rw [e1] at hown
  refine ⟨⟨some ⟨g, 0, none⟩, c, rfl, ?_, ?_, h.ne⟩, ((Frame.refl _ w).setc (.inl (by simp [blk])) _ _).drew⟩
  · rw [List.length_set]
    exact (h.at'.set_other (by show m ≠ g; omega) _).drew
  · have : Own2 0 (w.setCell ⟨g, k * 2 + 1, none⟩ (.int .u64 v)) (some ⟨g, 0, none⟩) c (ps.set k (x, v)) := by
      show World.ownsRow _ _ _ _ _ _ _
      rw [List.length_set]
      exact hown
    exact this.below ((Below.refl _ _).drew)
set_option maxRecDepth 100000 in
set_option maxHeartbeats 2000000 in
theorem highcapErrors_walk (w : World) (most : Int) (bdmost : -9223372036854775808 ≤ most ∧ most ≤ 9223372036854775807) (Alist : Option Addr) (clist : Nat) (list : List (Int × Int)) (rlist : Rd w Alist (list.flatMap fun x => [.int .i64 x.1, .int .u64 x.2])) (bdlist : ∀ x ∈ list, (-9223372036854775808 ≤ x.1 ∧ x.1 ≤ 9223372036854775807) ∧ (0 ≤ x.2 ∧ x.2 < 18446744073709551616)) (llist : list.length ≤ 9223372036854775807) (p0 p1 : Int) (bdp0 : -9223372036854775808 ≤ p0 ∧ p0 ≤ 9223372036854775807) (bdp1 : 0 ≤ p1 ∧ p1 < 18446744073709551616) :
    Calls Try.prog 7 #[.int .i64 most, .slice Alist list.length clist, .agg #[.int .i64 p0, .int .u64 p1]] w fun e w' => e = .returned (.bool true) ∧ Below w.heap.size w w' := by
  have HM := Lib.hid bdmost
  have HRL : Hid (RdP w Alist list) := rlist
  have HOL : Hid (okP list) := bdlist
  have HPB : Hid ((-9223372036854775808 ≤ p0 ∧ p0 ≤ 9223372036854775807) ∧ (0 ≤ p1 ∧ p1 < 18446744073709551616)) := ⟨bdp0, bdp1⟩
  clear rlist bdlist bdp0 bdp1 bdmost
  obtain ⟨nl, hnl⟩ : ∃ n, list.length = n := ⟨_, rfl⟩
  have HNL := Lib.hid hnl
  rw [hnl] at llist ⊢
  clear hnl
  go_enter Try.func7, Try.ntmps7
  have sP0 := At.new w #[.int .i64 p0, .int .u64 p1] 34
  obtain ⟨pB, hpB⟩ : ∃ pB, w.heap.size = pB := ⟨_, rfl⟩
  have hbA : Below w.heap.size w (w.alloc (.cells #[.int .i64 p0, .int .u64 p1] 34)) := (Below.refl _ _).alloc (Nat.le_refl _) _
  rw [hpB] at sP0
  go_wp2_with fail
  try rw [hpB]
  refine (alive_any _).mono ?_
  rintro e w1 ⟨rfl, hb⟩
  have hb1 := keep1 hbA hb
  have sP := sP0.below hb
  clear sP0 hbA hb hpB
  by_cases hm1 : most < 1
  · have HBAD : Hid (most < 1 ∨ 4096 < most) := .inl hm1
    go_wp2_with fail
    refine (lnew_bad most w1 HBAD.out).mono ?_
    rintro e w2 ⟨rfl, rfl⟩
    have HB2 := Lib.hid hb1
    clear hb1
    go_wp2_with fail
    refine (lnil_find 1 _).mono ?_
    rintro e w3 ⟨rfl, rfl⟩
    go_wp2_with fail
    refine (lnil_below 1 _).mono ?_
    rintro e w3 ⟨rfl, rfl⟩
    go_wp2_with fail
    refine (lnil_add 1 1 _).mono ?_
    rintro e w3 ⟨rfl, rfl⟩
    go_wp2_with fail
    refine (lnil_merge _).mono ?_
    rintro e w3 ⟨rfl, rfl⟩
    go_wp2_with fail
    refine (lnil_total _).mono ?_
    rintro e w3 ⟨rfl, rfl⟩
    go_wp2_with fail
    refine (lnil_lost _).mono ?_
    rintro e w3 ⟨rfl, rfl⟩
    go_wp2_with fail
    refine (lnil_at 1 _).mono ?_
    rintro e w3 ⟨rfl, rfl⟩
    go_wp2_with fail
    refine (lnil_pairs _).mono ?_
    rintro e w3 ⟨rfl, rfl⟩
    go_wp2_with fail
    refine (lnil_most _).mono ?_
    rintro e w3 ⟨rfl, rfl⟩
    go_wp2_with fail
    refine (great_any Alist nl clist list most w1 HNL.out llist (HRL.out.below HB2.out) HOL.out).mono ?_
    rintro e w3 ⟨⟨bv, rfl, hbv⟩, hb⟩
    have hb3 := keep1 HB2.out hb
    cases bv with
    | true =>
      clear hbv
      go_wp2
      go_ret
      exact ⟨rfl, hb3⟩
    | false =>
      have := (says_small hbv).s.m
      exact absurd HBAD.out (by omega)
  · by_cases hm2 : 4096 < most
    · have HBAD : Hid (most < 1 ∨ 4096 < most) := .inr hm2
      go_wp2_with fail
      refine (lnew_bad most w1 HBAD.out).mono ?_
      rintro e w2 ⟨rfl, rfl⟩
      have HB2 := Lib.hid hb1
      clear hb1
      go_wp2_with fail
      refine (lnil_find 1 _).mono ?_
      rintro e w3 ⟨rfl, rfl⟩
      go_wp2_with fail
      refine (lnil_below 1 _).mono ?_
      rintro e w3 ⟨rfl, rfl⟩
      go_wp2_with fail
      refine (lnil_add 1 1 _).mono ?_
      rintro e w3 ⟨rfl, rfl⟩
      go_wp2_with fail
      refine (lnil_merge _).mono ?_
      rintro e w3 ⟨rfl, rfl⟩
      go_wp2_with fail
      refine (lnil_total _).mono ?_
      rintro e w3 ⟨rfl, rfl⟩
      go_wp2_with fail
      refine (lnil_lost _).mono ?_
      rintro e w3 ⟨rfl, rfl⟩
      go_wp2_with fail
      refine (lnil_at 1 _).mono ?_
      rintro e w3 ⟨rfl, rfl⟩
      go_wp2_with fail
      refine (lnil_pairs _).mono ?_
      rintro e w3 ⟨rfl, rfl⟩
      go_wp2_with fail
      refine (lnil_most _).mono ?_
      rintro e w3 ⟨rfl, rfl⟩
      go_wp2_with fail
      refine (great_any Alist nl clist list most w1 HNL.out llist (HRL.out.below HB2.out) HOL.out).mono ?_
      rintro e w3 ⟨⟨bv, rfl, hbv⟩, hb⟩
      have hb3 := keep1 HB2.out hb
      cases bv with
      | true =>
        clear hbv
        go_wp2
        go_ret
        exact ⟨rfl, hb3⟩
      | false =>
        have := (says_small hbv).s.m
        exact absurd HBAD.out (by omega)
    · go_wp2_with fail
      refine (lnew_any most w1 (by omega) (by omega)).mono ?_
      rintro e w2 ⟨⟨b0, S0, rfl, _, _, _⟩, hb⟩
      have HB2 := Lib.hid (keep1 hb1 hb)
      replace sP := sP.below hb
      clear hb1 hb
      go_wp2_with fail
      refine (lnil_find 1 _).mono ?_
      rintro e w3 ⟨rfl, rfl⟩
      go_wp2_with fail
      refine (lnil_below 1 _).mono ?_
      rintro e w3 ⟨rfl, rfl⟩
      go_wp2_with fail
      refine (lnil_add 1 1 _).mono ?_
      rintro e w3 ⟨rfl, rfl⟩
      go_wp2_with fail
      refine (lnil_merge _).mono ?_
      rintro e w3 ⟨rfl, rfl⟩
      go_wp2_with fail
      refine (lnil_total _).mono ?_
      rintro e w3 ⟨rfl, rfl⟩
      go_wp2_with fail
      refine (lnil_lost _).mono ?_
      rintro e w3 ⟨rfl, rfl⟩
      go_wp2_with fail
      refine (lnil_at 1 _).mono ?_
      rintro e w3 ⟨rfl, rfl⟩
      go_wp2_with fail
      refine (lnil_pairs _).mono ?_
      rintro e w3 ⟨rfl, rfl⟩
      go_wp2_with fail
      refine (lnil_most _).mono ?_
      rintro e w3 ⟨rfl, rfl⟩
      go_wp2_with fail
      refine (great_any Alist nl clist list most w2 HNL.out llist (HRL.out.below HB2.out) HOL.out).mono ?_
      rintro e w3 ⟨⟨bv, rfl, hbv⟩, hb⟩
      have hb3 := keep1 HB2.out hb
      cases bv with
      | true =>
        clear hbv
        go_wp2
        go_ret
        exact ⟨rfl, hb3⟩
      | false =>
        have HSG : Hid (SmallG most list) := says_small hbv
        clear hbv
        have HB3 := Lib.hid hb3
        have HZ3 := Lib.hid hb3.size
        replace HRL := Lib.hid (HRL.out.below hb3)
        replace sP := sP.below hb
        have HLT3 := Lib.hid sP.lt
        clear hb3 hb HB2
        go_wp2_with fail
        refine (build_any Alist nl clist list most w3 HNL.out HRL.out HOL.out HSG.out.s).mono ?_
        rintro e w4 ⟨b, m, S, T, rfl, hB⟩
        replace sP := sP.below (Two.below hB)
        have HNP : Hid (pB ∉ S ∧ pB ∉ T) := ⟨fun h => by have := (Two.ws hB pB h).1; have := HLT3.out; omega, fun h => by have := (Two.wt hB pB h).1; have := HLT3.out; omega⟩
        have H4 : Hid (Two w3.heap.size w3 w4.drew S T (High w4.drew b S most (keptP sd most (allOf list)) (sumP list)) (DocL w4.drew m T most (allOf list))) := Both.abide hB (Below.refl _ _).drew
        have HALL := Lib.hid HSG.out.s.all
        have HSUM := Lib.hid HSG.out.s.sum
        have HOK := Lib.hid (allOf_ok HOL.out)
        have HLEN : Hid ((allOf list).length ≤ 1048576) := Nat.le_trans HSG.out.s.len (by omega)
        have HKL : Hid ((keptP sd most (allOf list)).length ≤ 9223372036854775807) := Nat.le_trans (List.length_filter_le _ _) (Nat.le_trans HLEN.out (by omega))
        have HKL2 : Hid ((keptP sd most (dbl (allOf list))).length ≤ 9223372036854775807) := Nat.le_trans (List.length_filter_le _ _) (by rw [dbl_len]; exact Nat.le_trans HLEN.out (by omega))
        have HTW := Lib.hid (twice (most := most) HSG.out.s.m.1 HALL.out.1 (by rw [HALL.out.2.1]; have := HSUM.out; omega))
        have HOK2 := Lib.hid (dbl_ok HALL.out.1 HOK.out (by rw [HALL.out.2.1]; have := HSUM.out; omega))
        obtain ⟨A, c, d4, hrd, _⟩ := docL_at H4.out.y
        have HRD := Lib.hid hrd
        obtain ⟨an, han⟩ : ∃ an, (allOf list).length = an := ⟨_, rfl⟩
        have HAN0 := Lib.hid han
        rw [han] at d4
        clear hB hrd han
        go_wp2
        obtain ⟨W4, hW4⟩ : ∃ W4, w4.drew = W4 := ⟨_, rfl⟩
        have sP4 := sP.drew
        rw [hW4] at sP4 d4 H4 HRD
        haveI : Nonempty (Held fun w' => At w' pB #[.int .i64 p0, .int .u64 p1] 34 ∧ At w' m #[.int .i64 most, .slice A an c] 31) := ⟨⟨W4, sP4, d4⟩⟩
        have hfar1 := fun z : Held fun w' => At w' pB #[.int .i64 p0, .int .u64 p1] 34 ∧ At w' m #[.int .i64 most, .slice A an c] 31 => z.held.1.two
        have hfar2 := fun z : Held fun w' => At w' pB #[.int .i64 p0, .int .u64 p1] 34 ∧ At w' m #[.int .i64 most, .slice A an c] 31 => z.held.2.two
        refine wp_region_noPanic ?_
        refine wp_region_held_drew (S := HeldS fun w' => At w' pB #[.int .i64 p0, .int .u64 p1] 34 ∧ At w' m #[.int .i64 most, .slice A an c] 31) (by kernel_rfl) (HeldS.mk' (hW4 ▸ ⟨sP4, d4⟩)) (fun hHeld => ?_)
        rw [hW4] at hHeld ⊢
        clear hW4 sP
        refine wpAnyH_run0 [true, true, true] 27 (by kernel_rfl) (by kernel_rfl) (fun _ _ _ _ h => h) (by kernel_rfl) hHeld ?_
        simp only [runOps_true, runOps_false, runOps_nil]
        repeat (first | go_big_quiet_skip | (go_big_quiet_want; go_big_quiet_op; go_big_quiet_on))
        refine wpQuiet_nil ?_
        refine wpAnyH_ready (rs := [3]) (by kernel_rfl) (by simp) ?_
        refine AllReadyH.cons rfl (fun K hK => ?_) AllReadyH.nil
        go_simp
        go_wp2_with (go_at_call 11; refine (ladd_zero b p0 W4).mono ?_; rintro e w5 ⟨rfl, rfl⟩)
        refine hK.out _ _ ?_ (fun hHeld => ?_)
        clear hK K
        · exact HeldS.mk' ⟨sP4, d4⟩
        by_cases hp1 : 0 < p1
        · have HP1 := Lib.hid hp1
          have hp1d : decide (0 < p1) = true := decide_eq_true hp1
          clear hp1
          refine wpAnyH_run0 [false, false, false, false, true, true, true, true, true, true, true, true, true, true, true, true] 14 (by kernel_rfl) (by kernel_rfl) (fun _ _ _ _ h => h) (by kernel_rfl) hHeld ?_
          simp only [runOps_true, runOps_false, runOps_nil]
          repeat (first | go_big_quiet_skip | (go_big_quiet_want; go_big_quiet_op; go_big_quiet_on))
          refine wpQuiet_nil ?_
          refine wpAnyH_ready (rs := [16]) (by kernel_rfl) (by simp) ?_
          refine AllReadyH.cons rfl (fun K hK => ?_) AllReadyH.nil
          go_simp
          go_wp2_with (go_at_call 19; refine (total_any A an c _ W4 HAN0.out (by have := HLEN.out; have := HAN0.out; omega) HRD.out HOK.out).mono ?_; rintro e w6 ⟨rfl, hb⟩; rw [HALL.out.2.1, Int.emod_eq_of_lt HSUM.out.1 (by have := HSUM.out; omega)])
          refine hK.out _ _ ?_ (fun hHeld => ?_)
          clear hK K
          · exact HeldS.mk' ⟨sP4.below hb, d4.below hb⟩
          replace sP4 := sP4.below hb
          replace d4 := d4.below hb
          replace H4 := Lib.hid (H4.out.belowW hb (fun k => k.below hb) (fun k => k.below hb))
          clear hb HRD
          obtain ⟨tt, htt⟩ : ∃ tt, sumP list = tt := ⟨_, rfl⟩
          have HTT := Lib.hid htt
          rw [htt]
          have hwt : IntKind.u64.wrap (9223372036854775807 - tt) = 9223372036854775807 - tt := by have := HSUM.out; rw [htt] at this; simp only [IntKind.wrap_u64]; omega
          clear htt
          by_cases hfull : 9223372036854775807 - tt < p1
          · have HFU := Lib.hid hfull
            have hfd : decide (9223372036854775807 - tt < p1) = true := decide_eq_true hfull
            clear hfull
            refine wpAnyH_run0 [false, false, false, false, false, false, false, false, false, false, false, false, false, false, false, false, false, true, true, true, true, true, true, true, true, true] 4 (by kernel_rfl) (by kernel_rfl) (fun _ _ _ _ h => h) (by kernel_rfl) hHeld ?_
            simp only [runOps_true, runOps_false, runOps_nil]
            repeat (first | go_big_quiet_skip | (go_big_quiet_want; go_big_quiet_op; go_big_quiet_on))
            refine wpQuiet_nil ?_
            refine wpAnyH_ready (rs := [26]) (by kernel_rfl) (by simp) ?_
            refine AllReadyH.cons rfl (fun K hK => ?_) AllReadyH.nil
            go_simp
            go_wp2_with (go_at_call 11; refine (ladd_full b S most _ p0 p1 _ w6 H4.out.x HP1.out HPB.out.2.2 (by have := HFU.out; have := HTT.out; omega)).mono ?_; rintro e w7 ⟨rfl, hb⟩)
            refine hK.out _ _ ?_ (fun hHeld => ?_)
            clear hK K
            · exact HeldS.mk' ⟨sP4.below hb, d4.below hb⟩
            have HT := Lib.hid (H4.out.belowW hb (fun k => k.below hb) (fun k => k.below hb))
            clear hb H4 sP4 d4
            refine wpAnyH_run0 [false, false, false, false, false, false, false, false, false, false, false, false, false, false, false, false, false, false, false, false, false, false, false, false, false, false, false, true, true] 1 (by kernel_rfl) (by kernel_rfl) (fun _ _ _ _ h => h) (by kernel_rfl) hHeld ?_
            simp only [runOps_true, runOps_false, runOps_nil]
            repeat (first | go_big_quiet_skip | (go_big_quiet_want; go_big_quiet_op; go_big_quiet_on))
            refine wpQuiet_nil ?_
            refine wpAnyH_run0 [false, false, false, false, false, false, false, false, false, false, false, false, false, false, false, false, false, false, false, false, false, false, false, false, false, false, false, false, false, true] 0 (by kernel_rfl) (by kernel_rfl) (fun _ _ _ _ h => h) (by kernel_rfl) hHeld ?_
            simp only [runOps_true, runOps_false, runOps_nil]
            repeat (first | go_big_quiet_skip | (go_big_quiet_want; go_big_quiet_op; go_big_quiet_on))
            refine wpQuiet_nil ?_
            refine wpAnyH_done (by kernel_rfl) ?_ _
            refine NoPanic.normal ?_
            clear hfar1 hfar2 hHeld hfd hp1d hwt
            go_wp2_with fail
            refine (lpairs_any b S most _ _ w7 HT.out.x).mono ?_
            rintro e v1 ⟨A1, k1, rfl, ho1, hb⟩
            have T1 := Lib.hid (HT.out.belowW hb (fun k => k.below hb) (fun k => k.below hb))
            have R1 := Lib.hid ho1.rd
            clear hb ho1 HT
            go_wp2_with fail
            refine (dlkept_any m T most _ v1 T1.out.y HLEN.out HALL.out.1 HOK.out HSG.out.s.m).mono ?_
            rintro e v2 ⟨A2, k2, rfl, ho2, hb⟩
            have T2 := Lib.hid (T1.out.belowW hb (fun k => k.below hb) (fun k => k.below hb))
            replace R1 := Lib.hid (R1.out.below hb)
            have R2 := Lib.hid ho2.rd
            clear hb ho2 T1
            go_wp2_with fail
            refine (same_any A1 A2 _ k1 _ k2 _ _ v2 rfl rfl HKL.out HKL.out R1.out R2.out).mono ?_
            rintro e v3 ⟨rfl, hb⟩
            rw [decide_eq_true rfl]
            have T3 := Lib.hid (T2.out.belowW hb (fun k => k.below hb) (fun k => k.below hb))
            clear hb T2 R1 R2
            go_wp2_with fail
            refine (llost_any b S most _ _ v3 T3.out.x).mono ?_
            rintro e v4 ⟨rfl, rfl⟩
            go_wp2_with fail
            refine (dllost_any m T most _ v3 T3.out.y HLEN.out HALL.out.1 HOK.out (by rw [HALL.out.2.1]; have := HSUM.out; omega) HSG.out.s.m).mono ?_
            rintro e v4 ⟨rfl, hb⟩
            rw [HALL.out.2.1]
            have T4 := Lib.hid (T3.out.belowW hb (fun k => k.below hb) (fun k => k.below hb))
            clear hb T3
            generalize sumP list - sumP (keptP sd most (allOf list)) = lv
            go_wp2_with fail
            refine (lmerge_any b b S S most _ _ _ _ v4 T4.out.x T4.out.x (by have := HSUM.out; omega)).mono ?_
            rintro e v5 ⟨rfl, S5, hg5, hL5, hF5⟩
            rw [HTW.out] at hL5
            have T5 := Lib.hid (T4.out.stepX hg5 hL5 hL5.lt hF5 (T4.out.y.frame hF5 T4.out.ap.symm))
            clear hg5 hL5 hF5 T4
            obtain ⟨A6, k6, d6, _, _⟩ := docL_at T5.out.y
            obtain ⟨an, han⟩ : ∃ an, (allOf list).length = an := ⟨_, rfl⟩
            have HAN := Lib.hid han
            rw [han] at d6
            have f6 := d6.two
            have l6 := d6.lt
            have T6 : Hid (Two w3.heap.size w3 v5 S5 T (High v5 b S5 most (keptP sd most (dbl (allOf list))) (sumP list + sumP list)) (DocL v5 m T most (dblK (allOf list) 0))) := by rw [dblK_zero]; exact T5.out
            clear T5 han
            go_wp2
            clear f6 d6 l6
            go_loopw [16, 144] (fun _ i wr => ∃ k : Nat, k ≤ an ∧ i = .int .i64 k ∧ Hid (Two w3.heap.size w3 wr S5 T (High wr b S5 most (keptP sd most (dbl (allOf list))) (sumP list + sumP list)) (DocL wr m T most (dblK (allOf list) k)))) (fun _ i _ => an - (intOf i).toNat)
            case atStart => exact ⟨0, by omega, rfl, T6⟩
            case round =>
              obtain ⟨k, hk, rfl, H⟩ := hrel
              clear T6
              by_cases hlt : k < an
              · obtain ⟨A, c, hTe, hD⟩ := H.out.y
                obtain ⟨g, rfl⟩ : ∃ g, A = some ⟨g, 0, none⟩ := by
                  rcases hD.own.2 with ⟨_, h0⟩ | ⟨g, cp, cur, h, _⟩
                  · rw [dblK_len] at h0; have := HAN.out; omega
                  · simp only [Value.slice.injEq] at h; exact ⟨g, h.1⟩
                have d7 := hD.at'
                rw [dblK_len, HAN.out] at d7
                obtain ⟨g', o', e, hg', c1, c2⟩ := hD.own.rd.at k (by rw [dblK_len]; have := HAN.out; omega)
                cases e
                rw [dblK_get _ k (by have := HAN.out; omega)] at c1 c2
                have HST := Lib.hid (dblK_step (allOf list) k (by have := HAN.out; omega))
                have HPX := Lib.hid (HALL.out.1.pos _ (List.getElem_mem (show k < (allOf list).length by have := HAN.out; omega)))
                have HLX := Lib.hid (mem_le_sum HALL.out.1 (List.getElem_mem (show k < (allOf list).length by have := HAN.out; omega)))
                have HPUT := Lib.hid (fun v : Int => docL_put (k := k) (v := v) hD (by rw [dblK_len]; have := HAN.out; omega) (congrArg Prod.fst (dblK_get (allOf list) k (by have := HAN.out; omega))))
                obtain ⟨⟨x, y⟩, hx⟩ : ∃ x, (allOf list)[k]'(by have := HAN.out; omega) = x := ⟨_, rfl⟩
                rw [hx] at c1 c2 HST HPX HLX HPUT
                clear hx
                dsimp only at c1 c2 HST HPX HLX HPUT
                rw [HALL.out.2.1] at HLX
                have hw : IntKind.u64.wrap (2 * y) = 2 * y := by have := HPX.out; have := HLX.out; have := HSUM.out; simp only [IntKind.wrap_u64]; omega
                have HN : Hid (Two w3.heap.size w3 ((wr.setCell ⟨g, k * 2 + 1, none⟩ (.int .u64 (2 * y))).drew) S5 T (High ((wr.setCell ⟨g, k * 2 + 1, none⟩ (.int .u64 (2 * y))).drew) b S5 most (keptP sd most (dbl (allOf list))) (sumP list + sumP list)) (DocL ((wr.setCell ⟨g, k * 2 + 1, none⟩ (.int .u64 (2 * y))).drew) m T most (dblK (allOf list) (k + 1)))) := by
                  have h1 := HPUT.out (2 * y)
                  rw [HST.out, ← hTe] at h1
                  exact H.out.stepY (GrownS.refl _ _) h1.1 h1.1.lt h1.2 (H.out.x.frame h1.2 H.out.ap)
                have hfz := own2_frz hD.own (k * 2 + 1)
                have f7 := d7.two
                have l7 := d7.lt
                rw [Nat.zero_add] at c1 c2
                have k0 : (0 : Int) ≤ k := by omega
                have k9 : k < 1048576 := by have := HLEN.out; have := HAN.out; omega
                have k1 : (k : Int) < an := by omega
                clear hD d7 HPUT HST HPX HLX hTe H
                go_wp2
                go_region
                go_wp2
                go_roundw
                case rel => exact ⟨k + 1, by omega, by simp, HN⟩
                case measure => simp [intOf]; omega
              · obtain rfl : k = an := by omega
                have h1 := H.out
                rw [← HAN.out, dblK_all] at h1
                have T7 := Lib.hid h1
                clear h1 H
                go_wp2_with fail
                refine (lpairs_any b S5 most _ _ wr T7.out.x).mono ?_
                rintro e v8 ⟨A8, k8, rfl, ho8, hb⟩
                have T8 := Lib.hid (T7.out.belowW hb (fun k => k.below hb) (fun k => k.below hb))
                have R8 := Lib.hid ho8.rd
                clear hb ho8 T7
                go_wp2_with fail
                refine (dlkept_any m T most _ v8 T8.out.y (by rw [dbl_len]; exact HLEN.out) (dbl_gd HALL.out.1) HOK2.out HSG.out.s.m).mono ?_
                rintro e v9 ⟨A9, k9, rfl, ho9, hb⟩
                have T9 := Lib.hid (T8.out.belowW hb (fun k => k.below hb) (fun k => k.below hb))
                replace R8 := Lib.hid (R8.out.below hb)
                have R9 := Lib.hid ho9.rd
                clear hb ho9 T8
                go_wp2_with fail
                refine (same_any A8 A9 _ k8 _ k9 _ _ v9 rfl rfl HKL2.out HKL2.out R8.out R9.out).mono ?_
                rintro e v10 ⟨rfl, hb⟩
                rw [decide_eq_true rfl]
                have T10 := Lib.hid (T9.out.belowW hb (fun k => k.below hb) (fun k => k.below hb))
                clear hb T9 R8 R9
                go_wp2_with fail
                refine (llost_any b S5 most _ _ v10 T10.out.x).mono ?_
                rintro e v11 ⟨rfl, rfl⟩
                go_wp2_with fail
                refine (dllost_any m T most _ v10 T10.out.y (by rw [dbl_len]; exact HLEN.out) (dbl_gd HALL.out.1) HOK2.out (by rw [dbl_sum, HALL.out.2.1]; have := HSUM.out; omega) HSG.out.s.m).mono ?_
                rintro e v11 ⟨rfl, hb⟩
                rw [show sumP (dbl (allOf list)) = sumP list + sumP list by rw [dbl_sum, HALL.out.2.1]; omega]
                have HFB := Lib.hid (T10.out.fin hb)
                clear hb T10
                generalize sumP list + sumP list - sumP (keptP sd most (dbl (allOf list))) = lv2
                go_wp2
                go_ret
                exact ⟨rfl, HB3.out.trans (HFB.out.mono HZ3.out)⟩
          · have HFU := Lib.hid hfull
            have hfd : decide (9223372036854775807 - tt < p1) = false := decide_eq_false hfull
            clear hfull
            refine wpAnyH_run0 [false, false, false, false, false, false, false, false, false, false, false, false, false, false, false, false, false, true, true, true, true, true, true, true, true, true] 4 (by kernel_rfl) (by kernel_rfl) (fun _ _ _ _ h => h) (by kernel_rfl) hHeld ?_
            simp only [runOps_true, runOps_false, runOps_nil]
            repeat (first | go_big_quiet_skip | (go_big_quiet_want; go_big_quiet_op; go_big_quiet_on))
            refine wpQuiet_nil ?_
            refine wpAnyH_ready (rs := [26]) (by kernel_rfl) (by simp) ?_
            refine AllReadyH.cons rfl (fun K hK => ?_) AllReadyH.nil
            go_simp
            refine hK.out _ _ ?_ (fun hHeld => ?_)
            clear hK K
            · exact HeldS.mk' ⟨sP4, d4⟩
            refine wpAnyH_run0 [false, false, false, false, false, false, false, false, false, false, false, false, false, false, false, false, false, false, false, false, false, false, false, false, false, false, false, true, true] 1 (by kernel_rfl) (by kernel_rfl) (fun _ _ _ _ h => h) (by kernel_rfl) hHeld ?_
            simp only [runOps_true, runOps_false, runOps_nil]
            repeat (first | go_big_quiet_skip | (go_big_quiet_want; go_big_quiet_op; go_big_quiet_on))
            refine wpQuiet_nil ?_
            refine wpAnyH_run0 [false, false, false, false, false, false, false, false, false, false, false, false, false, false, false, false, false, false, false, false, false, false, false, false, false, false, false, false, false, true] 0 (by kernel_rfl) (by kernel_rfl) (fun _ _ _ _ h => h) (by kernel_rfl) hHeld ?_
            simp only [runOps_true, runOps_false, runOps_nil]
            repeat (first | go_big_quiet_skip | (go_big_quiet_want; go_big_quiet_op; go_big_quiet_on))
            refine wpQuiet_nil ?_
            refine wpAnyH_done (by kernel_rfl) ?_ _
            refine NoPanic.normal ?_
            have HT := H4
            clear hfar1 hfar2 hHeld hfd hp1d hwt H4 sP4 d4
            go_wp2_with fail
            refine (lpairs_any b S most _ _ w6 HT.out.x).mono ?_
            rintro e v1 ⟨A1, k1, rfl, ho1, hb⟩
            have T1 := Lib.hid (HT.out.belowW hb (fun k => k.below hb) (fun k => k.below hb))
            have R1 := Lib.hid ho1.rd
            clear hb ho1 HT
            go_wp2_with fail
            refine (dlkept_any m T most _ v1 T1.out.y HLEN.out HALL.out.1 HOK.out HSG.out.s.m).mono ?_
            rintro e v2 ⟨A2, k2, rfl, ho2, hb⟩
            have T2 := Lib.hid (T1.out.belowW hb (fun k => k.below hb) (fun k => k.below hb))
            replace R1 := Lib.hid (R1.out.below hb)
            have R2 := Lib.hid ho2.rd
            clear hb ho2 T1
            go_wp2_with fail
            refine (same_any A1 A2 _ k1 _ k2 _ _ v2 rfl rfl HKL.out HKL.out R1.out R2.out).mono ?_
            rintro e v3 ⟨rfl, hb⟩
            rw [decide_eq_true rfl]
            have T3 := Lib.hid (T2.out.belowW hb (fun k => k.below hb) (fun k => k.below hb))
            clear hb T2 R1 R2
            go_wp2_with fail
            refine (llost_any b S most _ _ v3 T3.out.x).mono ?_
            rintro e v4 ⟨rfl, rfl⟩
            go_wp2_with fail
            refine (dllost_any m T most _ v3 T3.out.y HLEN.out HALL.out.1 HOK.out (by rw [HALL.out.2.1]; have := HSUM.out; omega) HSG.out.s.m).mono ?_
            rintro e v4 ⟨rfl, hb⟩
            rw [HALL.out.2.1]
            have T4 := Lib.hid (T3.out.belowW hb (fun k => k.below hb) (fun k => k.below hb))
            clear hb T3
            generalize sumP list - sumP (keptP sd most (allOf list)) = lv
            go_wp2_with fail
            refine (lmerge_any b b S S most _ _ _ _ v4 T4.out.x T4.out.x (by have := HSUM.out; omega)).mono ?_
            rintro e v5 ⟨rfl, S5, hg5, hL5, hF5⟩
            rw [HTW.out] at hL5
            have T5 := Lib.hid (T4.out.stepX hg5 hL5 hL5.lt hF5 (T4.out.y.frame hF5 T4.out.ap.symm))
            clear hg5 hL5 hF5 T4
            obtain ⟨A6, k6, d6, _, _⟩ := docL_at T5.out.y
            obtain ⟨an, han⟩ : ∃ an, (allOf list).length = an := ⟨_, rfl⟩
            have HAN := Lib.hid han
            rw [han] at d6
            have f6 := d6.two
            have l6 := d6.lt
            have T6 : Hid (Two w3.heap.size w3 v5 S5 T (High v5 b S5 most (keptP sd most (dbl (allOf list))) (sumP list + sumP list)) (DocL v5 m T most (dblK (allOf list) 0))) := by rw [dblK_zero]; exact T5.out
            clear T5 han
            go_wp2
            clear f6 d6 l6
            go_loopw [16, 144] (fun _ i wr => ∃ k : Nat, k ≤ an ∧ i = .int .i64 k ∧ Hid (Two w3.heap.size w3 wr S5 T (High wr b S5 most (keptP sd most (dbl (allOf list))) (sumP list + sumP list)) (DocL wr m T most (dblK (allOf list) k)))) (fun _ i _ => an - (intOf i).toNat)
            case atStart => exact ⟨0, by omega, rfl, T6⟩
            case round =>
              obtain ⟨k, hk, rfl, H⟩ := hrel
              clear T6
              by_cases hlt : k < an
              · obtain ⟨A, c, hTe, hD⟩ := H.out.y
                obtain ⟨g, rfl⟩ : ∃ g, A = some ⟨g, 0, none⟩ := by
                  rcases hD.own.2 with ⟨_, h0⟩ | ⟨g, cp, cur, h, _⟩
                  · rw [dblK_len] at h0; have := HAN.out; omega
                  · simp only [Value.slice.injEq] at h; exact ⟨g, h.1⟩
                have d7 := hD.at'
                rw [dblK_len, HAN.out] at d7
                obtain ⟨g', o', e, hg', c1, c2⟩ := hD.own.rd.at k (by rw [dblK_len]; have := HAN.out; omega)
                cases e
                rw [dblK_get _ k (by have := HAN.out; omega)] at c1 c2
                have HST := Lib.hid (dblK_step (allOf list) k (by have := HAN.out; omega))
                have HPX := Lib.hid (HALL.out.1.pos _ (List.getElem_mem (show k < (allOf list).length by have := HAN.out; omega)))
                have HLX := Lib.hid (mem_le_sum HALL.out.1 (List.getElem_mem (show k < (allOf list).length by have := HAN.out; omega)))
                have HPUT := Lib.hid (fun v : Int => docL_put (k := k) (v := v) hD (by rw [dblK_len]; have := HAN.out; omega) (congrArg Prod.fst (dblK_get (allOf list) k (by have := HAN.out; omega))))
                obtain ⟨⟨x, y⟩, hx⟩ : ∃ x, (allOf list)[k]'(by have := HAN.out; omega) = x := ⟨_, rfl⟩
                rw [hx] at c1 c2 HST HPX HLX HPUT
                clear hx
                dsimp only at c1 c2 HST HPX HLX HPUT
                rw [HALL.out.2.1] at HLX
                have hw : IntKind.u64.wrap (2 * y) = 2 * y := by have := HPX.out; have := HLX.out; have := HSUM.out; simp only [IntKind.wrap_u64]; omega
                have HN : Hid (Two w3.heap.size w3 ((wr.setCell ⟨g, k * 2 + 1, none⟩ (.int .u64 (2 * y))).drew) S5 T (High ((wr.setCell ⟨g, k * 2 + 1, none⟩ (.int .u64 (2 * y))).drew) b S5 most (keptP sd most (dbl (allOf list))) (sumP list + sumP list)) (DocL ((wr.setCell ⟨g, k * 2 + 1, none⟩ (.int .u64 (2 * y))).drew) m T most (dblK (allOf list) (k + 1)))) := by
                  have h1 := HPUT.out (2 * y)
                  rw [HST.out, ← hTe] at h1
                  exact H.out.stepY (GrownS.refl _ _) h1.1 h1.1.lt h1.2 (H.out.x.frame h1.2 H.out.ap)
                have hfz := own2_frz hD.own (k * 2 + 1)
                have f7 := d7.two
                have l7 := d7.lt
                rw [Nat.zero_add] at c1 c2
                have k0 : (0 : Int) ≤ k := by omega
                have k9 : k < 1048576 := by have := HLEN.out; have := HAN.out; omega
                have k1 : (k : Int) < an := by omega
                clear hD d7 HPUT HST HPX HLX hTe H
                go_wp2
                go_region
                go_wp2
                go_roundw
                case rel => exact ⟨k + 1, by omega, by simp, HN⟩
                case measure => simp [intOf]; omega
              · obtain rfl : k = an := by omega
                have h1 := H.out
                rw [← HAN.out, dblK_all] at h1
                have T7 := Lib.hid h1
                clear h1 H
                go_wp2_with fail
                refine (lpairs_any b S5 most _ _ wr T7.out.x).mono ?_
                rintro e v8 ⟨A8, k8, rfl, ho8, hb⟩
                have T8 := Lib.hid (T7.out.belowW hb (fun k => k.below hb) (fun k => k.below hb))
                have R8 := Lib.hid ho8.rd
                clear hb ho8 T7
                go_wp2_with fail
                refine (dlkept_any m T most _ v8 T8.out.y (by rw [dbl_len]; exact HLEN.out) (dbl_gd HALL.out.1) HOK2.out HSG.out.s.m).mono ?_
                rintro e v9 ⟨A9, k9, rfl, ho9, hb⟩
                have T9 := Lib.hid (T8.out.belowW hb (fun k => k.below hb) (fun k => k.below hb))
                replace R8 := Lib.hid (R8.out.below hb)
                have R9 := Lib.hid ho9.rd
                clear hb ho9 T8
                go_wp2_with fail
                refine (same_any A8 A9 _ k8 _ k9 _ _ v9 rfl rfl HKL2.out HKL2.out R8.out R9.out).mono ?_
                rintro e v10 ⟨rfl, hb⟩
                rw [decide_eq_true rfl]
                have T10 := Lib.hid (T9.out.belowW hb (fun k => k.below hb) (fun k => k.below hb))
                clear hb T9 R8 R9
                go_wp2_with fail
                refine (llost_any b S5 most _ _ v10 T10.out.x).mono ?_
                rintro e v11 ⟨rfl, rfl⟩
                go_wp2_with fail
                refine (dllost_any m T most _ v10 T10.out.y (by rw [dbl_len]; exact HLEN.out) (dbl_gd HALL.out.1) HOK2.out (by rw [dbl_sum, HALL.out.2.1]; have := HSUM.out; omega) HSG.out.s.m).mono ?_
                rintro e v11 ⟨rfl, hb⟩
                rw [show sumP (dbl (allOf list)) = sumP list + sumP list by rw [dbl_sum, HALL.out.2.1]; omega]
                have HFB := Lib.hid (T10.out.fin hb)
                clear hb T10
                generalize sumP list + sumP list - sumP (keptP sd most (dbl (allOf list))) = lv2
                go_wp2
                go_ret
                exact ⟨rfl, HB3.out.trans (HFB.out.mono HZ3.out)⟩
        · have hp10 : p1 = 0 := by have := HPB.out; omega
          have hp1d : decide (0 < p1) = false := decide_eq_false hp1
          clear hp1 hp10
          refine wpAnyH_run0 [false, false, false, false, true, true, true, true, true, true, true, true, true, true, true, true] 14 (by kernel_rfl) (by kernel_rfl) (fun _ _ _ _ h => h) (by kernel_rfl) hHeld ?_
          simp only [runOps_true, runOps_false, runOps_nil]
          repeat (first | go_big_quiet_skip | (go_big_quiet_want; go_big_quiet_op; go_big_quiet_on))
          refine wpQuiet_nil ?_
          refine wpAnyH_ready (rs := [16]) (by kernel_rfl) (by simp) ?_
          refine AllReadyH.cons rfl (fun K hK => ?_) AllReadyH.nil
          go_simp
          refine hK.out _ _ ?_ (fun hHeld => ?_)
          clear hK K
          · exact HeldS.mk' ⟨sP4, d4⟩
          refine wpAnyH_run0 [false, false, false, false, false, false, false, false, false, false, false, false, false, false, false, false, false, true, true, true, true, true, true, true, true, true] 4 (by kernel_rfl) (by kernel_rfl) (fun _ _ _ _ h => h) (by kernel_rfl) hHeld ?_
          simp only [runOps_true, runOps_false, runOps_nil]
          repeat (first | go_big_quiet_skip | (go_big_quiet_want; go_big_quiet_op; go_big_quiet_on))
          refine wpQuiet_nil ?_
          refine wpAnyH_ready (rs := [26]) (by kernel_rfl) (by simp) ?_
          refine AllReadyH.cons rfl (fun K hK => ?_) AllReadyH.nil
          go_simp
          refine hK.out _ _ ?_ (fun hHeld => ?_)
          clear hK K
          · exact HeldS.mk' ⟨sP4, d4⟩
          refine wpAnyH_run0 [false, false, false, false, false, false, false, false, false, false, false, false, false, false, false, false, false, false, false, false, false, false, false, false, false, false, false, true, true] 1 (by kernel_rfl) (by kernel_rfl) (fun _ _ _ _ h => h) (by kernel_rfl) hHeld ?_
          simp only [runOps_true, runOps_false, runOps_nil]
          repeat (first | go_big_quiet_skip | (go_big_quiet_want; go_big_quiet_op; go_big_quiet_on))
          refine wpQuiet_nil ?_
          refine wpAnyH_run0 [false, false, false, false, false, false, false, false, false, false, false, false, false, false, false, false, false, false, false, false, false, false, false, false, false, false, false, false, false, true] 0 (by kernel_rfl) (by kernel_rfl) (fun _ _ _ _ h => h) (by kernel_rfl) hHeld ?_
          simp only [runOps_true, runOps_false, runOps_nil]
          repeat (first | go_big_quiet_skip | (go_big_quiet_want; go_big_quiet_op; go_big_quiet_on))
          refine wpQuiet_nil ?_
          refine wpAnyH_done (by kernel_rfl) ?_ _
          refine NoPanic.normal ?_
          have HT := H4
          clear hfar1 hfar2 hHeld hp1d H4 sP4 d4
          go_wp2_with fail
          refine (lpairs_any b S most _ _ W4 HT.out.x).mono ?_
          rintro e v1 ⟨A1, k1, rfl, ho1, hb⟩
          have T1 := Lib.hid (HT.out.belowW hb (fun k => k.below hb) (fun k => k.below hb))
          have R1 := Lib.hid ho1.rd
          clear hb ho1 HT
          go_wp2_with fail
          refine (dlkept_any m T most _ v1 T1.out.y HLEN.out HALL.out.1 HOK.out HSG.out.s.m).mono ?_
          rintro e v2 ⟨A2, k2, rfl, ho2, hb⟩
          have T2 := Lib.hid (T1.out.belowW hb (fun k => k.below hb) (fun k => k.below hb))
          replace R1 := Lib.hid (R1.out.below hb)
          have R2 := Lib.hid ho2.rd
          clear hb ho2 T1
          go_wp2_with fail
          refine (same_any A1 A2 _ k1 _ k2 _ _ v2 rfl rfl HKL.out HKL.out R1.out R2.out).mono ?_
          rintro e v3 ⟨rfl, hb⟩
          rw [decide_eq_true rfl]
          have T3 := Lib.hid (T2.out.belowW hb (fun k => k.below hb) (fun k => k.below hb))
          clear hb T2 R1 R2
          go_wp2_with fail
          refine (llost_any b S most _ _ v3 T3.out.x).mono ?_
          rintro e v4 ⟨rfl, rfl⟩
          go_wp2_with fail
          refine (dllost_any m T most _ v3 T3.out.y HLEN.out HALL.out.1 HOK.out (by rw [HALL.out.2.1]; have := HSUM.out; omega) HSG.out.s.m).mono ?_
          rintro e v4 ⟨rfl, hb⟩
          rw [HALL.out.2.1]
          have T4 := Lib.hid (T3.out.belowW hb (fun k => k.below hb) (fun k => k.below hb))
          clear hb T3
          generalize sumP list - sumP (keptP sd most (allOf list)) = lv
          go_wp2_with fail
          refine (lmerge_any b b S S most _ _ _ _ v4 T4.out.x T4.out.x (by have := HSUM.out; omega)).mono ?_
          rintro e v5 ⟨rfl, S5, hg5, hL5, hF5⟩
          rw [HTW.out] at hL5
          have T5 := Lib.hid (T4.out.stepX hg5 hL5 hL5.lt hF5 (T4.out.y.frame hF5 T4.out.ap.symm))
          clear hg5 hL5 hF5 T4
          obtain ⟨A6, k6, d6, _, _⟩ := docL_at T5.out.y
          obtain ⟨an, han⟩ : ∃ an, (allOf list).length = an := ⟨_, rfl⟩
          have HAN := Lib.hid han
          rw [han] at d6
          have f6 := d6.two
          have l6 := d6.lt
          have T6 : Hid (Two w3.heap.size w3 v5 S5 T (High v5 b S5 most (keptP sd most (dbl (allOf list))) (sumP list + sumP list)) (DocL v5 m T most (dblK (allOf list) 0))) := by rw [dblK_zero]; exact T5.out
          clear T5 han
          go_wp2
          clear f6 d6 l6
          go_loopw [16, 144] (fun _ i wr => ∃ k : Nat, k ≤ an ∧ i = .int .i64 k ∧ Hid (Two w3.heap.size w3 wr S5 T (High wr b S5 most (keptP sd most (dbl (allOf list))) (sumP list + sumP list)) (DocL wr m T most (dblK (allOf list) k)))) (fun _ i _ => an - (intOf i).toNat)
          case atStart => exact ⟨0, by omega, rfl, T6⟩
          case round =>
            obtain ⟨k, hk, rfl, H⟩ := hrel
            clear T6
            by_cases hlt : k < an
            · obtain ⟨A, c, hTe, hD⟩ := H.out.y
              obtain ⟨g, rfl⟩ : ∃ g, A = some ⟨g, 0, none⟩ := by
                rcases hD.own.2 with ⟨_, h0⟩ | ⟨g, cp, cur, h, _⟩
                · rw [dblK_len] at h0; have := HAN.out; omega
                · simp only [Value.slice.injEq] at h; exact ⟨g, h.1⟩
              have d7 := hD.at'
              rw [dblK_len, HAN.out] at d7
              obtain ⟨g', o', e, hg', c1, c2⟩ := hD.own.rd.at k (by rw [dblK_len]; have := HAN.out; omega)
              cases e
              rw [dblK_get _ k (by have := HAN.out; omega)] at c1 c2
              have HST := Lib.hid (dblK_step (allOf list) k (by have := HAN.out; omega))
              have HPX := Lib.hid (HALL.out.1.pos _ (List.getElem_mem (show k < (allOf list).length by have := HAN.out; omega)))
              have HLX := Lib.hid (mem_le_sum HALL.out.1 (List.getElem_mem (show k < (allOf list).length by have := HAN.out; omega)))
              have HPUT := Lib.hid (fun v : Int => docL_put (k := k) (v := v) hD (by rw [dblK_len]; have := HAN.out; omega) (congrArg Prod.fst (dblK_get (allOf list) k (by have := HAN.out; omega))))
              obtain ⟨⟨x, y⟩, hx⟩ : ∃ x, (allOf list)[k]'(by have := HAN.out; omega) = x := ⟨_, rfl⟩
              rw [hx] at c1 c2 HST HPX HLX HPUT
              clear hx
              dsimp only at c1 c2 HST HPX HLX HPUT
              rw [HALL.out.2.1] at HLX
              have hw : IntKind.u64.wrap (2 * y) = 2 * y := by have := HPX.out; have := HLX.out; have := HSUM.out; simp only [IntKind.wrap_u64]; omega
              have HN : Hid (Two w3.heap.size w3 ((wr.setCell ⟨g, k * 2 + 1, none⟩ (.int .u64 (2 * y))).drew) S5 T (High ((wr.setCell ⟨g, k * 2 + 1, none⟩ (.int .u64 (2 * y))).drew) b S5 most (keptP sd most (dbl (allOf list))) (sumP list + sumP list)) (DocL ((wr.setCell ⟨g, k * 2 + 1, none⟩ (.int .u64 (2 * y))).drew) m T most (dblK (allOf list) (k + 1)))) := by
                have h1 := HPUT.out (2 * y)
                rw [HST.out, ← hTe] at h1
                exact H.out.stepY (GrownS.refl _ _) h1.1 h1.1.lt h1.2 (H.out.x.frame h1.2 H.out.ap)
              have hfz := own2_frz hD.own (k * 2 + 1)
              have f7 := d7.two
              have l7 := d7.lt
              rw [Nat.zero_add] at c1 c2
              have k0 : (0 : Int) ≤ k := by omega
              have k9 : k < 1048576 := by have := HLEN.out; have := HAN.out; omega
              have k1 : (k : Int) < an := by omega
              clear hD d7 HPUT HST HPX HLX hTe H
              go_wp2
              go_region
              go_wp2
              go_roundw
              case rel => exact ⟨k + 1, by omega, by simp, HN⟩
              case measure => simp [intOf]; omega
            · obtain rfl : k = an := by omega
              have h1 := H.out
              rw [← HAN.out, dblK_all] at h1
              have T7 := Lib.hid h1
              clear h1 H
              go_wp2_with fail
              refine (lpairs_any b S5 most _ _ wr T7.out.x).mono ?_
              rintro e v8 ⟨A8, k8, rfl, ho8, hb⟩
              have T8 := Lib.hid (T7.out.belowW hb (fun k => k.below hb) (fun k => k.below hb))
              have R8 := Lib.hid ho8.rd
              clear hb ho8 T7
              go_wp2_with fail
              refine (dlkept_any m T most _ v8 T8.out.y (by rw [dbl_len]; exact HLEN.out) (dbl_gd HALL.out.1) HOK2.out HSG.out.s.m).mono ?_
              rintro e v9 ⟨A9, k9, rfl, ho9, hb⟩
              have T9 := Lib.hid (T8.out.belowW hb (fun k => k.below hb) (fun k => k.below hb))
              replace R8 := Lib.hid (R8.out.below hb)
              have R9 := Lib.hid ho9.rd
              clear hb ho9 T8
              go_wp2_with fail
              refine (same_any A8 A9 _ k8 _ k9 _ _ v9 rfl rfl HKL2.out HKL2.out R8.out R9.out).mono ?_
              rintro e v10 ⟨rfl, hb⟩
              rw [decide_eq_true rfl]
              have T10 := Lib.hid (T9.out.belowW hb (fun k => k.below hb) (fun k => k.below hb))
              clear hb T9 R8 R9
              go_wp2_with fail
              refine (llost_any b S5 most _ _ v10 T10.out.x).mono ?_
              rintro e v11 ⟨rfl, rfl⟩
              go_wp2_with fail
              refine (dllost_any m T most _ v10 T10.out.y (by rw [dbl_len]; exact HLEN.out) (dbl_gd HALL.out.1) HOK2.out (by rw [dbl_sum, HALL.out.2.1]; have := HSUM.out; omega) HSG.out.s.m).mono ?_
              rintro e v11 ⟨rfl, hb⟩
              rw [show sumP (dbl (allOf list)) = sumP list + sumP list by rw [dbl_sum, HALL.out.2.1]; omega]
              have HFB := Lib.hid (T10.out.fin hb)
              clear hb T10
              generalize sumP list + sumP list - sumP (keptP sd most (dbl (allOf list))) = lv2
              go_wp2
              go_ret
              exact ⟨rfl, HB3.out.trans (HFB.out.mono HZ3.out)⟩
end Go.Proofs.Ytooojpicbbpaaaa

