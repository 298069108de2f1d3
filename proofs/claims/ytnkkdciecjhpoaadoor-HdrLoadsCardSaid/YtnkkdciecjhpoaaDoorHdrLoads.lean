/- The walk of the statement HdrLoads. -/
import Derived.Test.YtnkkdciecjhpoaaDoorProg
import Derived.Test.YtnkkdciecjhpoaaDoorOpen
import Derived.Test.YtnkkdciecjhpoaaDoorPlayAll
import Derived.Test.YtnkkdciecjhpoaaDoorHdrAsk
import Derived.Test.YtnkkdciecjhpoaaDoorValFr
import Derived.Test.YtnkkdciecjhpoaaDoorHdrLoadV
namespace Go.Proofs.YtnkkdciecjhpoaaDoor
open Go.RowKit

/-- The law's own cells. -/
structure LF (w W : World) (rb cb : Nat) (e0 e1 d : Int) : Prop where
  r : At W rb #[.int .i64 e0, .int .i64 e1] 51
  c : At W cb #[.int .i64 d, .int .u64 0] 45
  b : Below w.heap.size w W
theorem LF.below {w W W' : World} {rb cb : Nat} {e0 e1 d : Int} (h : LF w W rb cb e0 e1 d) (hb : Below W.heap.size W W') : LF w W' rb cb e0 e1 d := ⟨h.r.below hb, h.c.below hb, keep1 h.b hb⟩
theorem LF.frame {w W W' : World} {rb cb : Nat} {e0 e1 d : Int} {S : List Nat} (h : LF w W rb cb e0 e1 d) (hF : Frame S W W') (hr : rb ∉ S) (hc : cb ∉ S) (hS : Within S w.heap.size W.heap.size) : LF w W' rb cb e0 e1 d :=
  ⟨hF.at h.r hr, hF.at h.c hc, hF.below' h.b h.b.size hS⟩
def CfgW (b : Nat) (d : Int) (W : World) : Prop := At W b #[.int .i64 d, .int .u64 0] 45
theorem CfgW.at {b : Nat} {d : Int} {W : World} (h : CfgW b d W) : At W b #[.int .i64 d, .int .u64 0] 45 := h
set_option maxRecDepth 100000 in
set_option maxHeartbeats 2000000 in
theorem hdrLoads_walk (w : World) (hTens : TensAt w) (digits : Int) (bddigits : -9223372036854775808 ≤ digits ∧ digits ≤ 9223372036854775807) (Avals : Option Addr) (cvals : Nat) (vals : List (Int × Int)) (rvals : Rd w Avals (vals.flatMap fun x => [.int .i64 x.1, .int .u64 x.2])) (bdvals : ∀ x ∈ vals, (-9223372036854775808 ≤ x.1 ∧ x.1 ≤ 9223372036854775807) ∧ (0 ≤ x.2 ∧ x.2 < 18446744073709551616)) (lvals : vals.length ≤ 9223372036854775807) (x : Int) (bdx : -9223372036854775808 ≤ x ∧ x ≤ 9223372036854775807) (Arow : Option Addr) (crow : Nat) (row : List (Int × Int)) (rrow : Rd w Arow (row.flatMap fun x => [.int .i64 x.1, .int .u64 x.2])) (bdrow : ∀ x ∈ row, (-9223372036854775808 ≤ x.1 ∧ x.1 ≤ 9223372036854775807) ∧ (0 ≤ x.2 ∧ x.2 < 18446744073709551616)) (lrow : row.length ≤ 9223372036854775807) (ends0 ends1 : Int) (bdends0 : -9223372036854775808 ≤ ends0 ∧ ends0 ≤ 9223372036854775807) (bdends1 : -9223372036854775808 ≤ ends1 ∧ ends1 ≤ 9223372036854775807) :
    Calls Tryd.prog 5 #[.int .i64 digits, .slice Avals vals.length cvals, .int .i64 x, .slice Arow row.length crow, .agg #[.int .i64 ends0, .int .i64 ends1]] w fun e w' => e = .returned (.bool true) ∧ Below w.heap.size w w' := by
  have HXB : Hid (-9223372036854775808 ≤ x ∧ x ≤ 9223372036854775807) := bdx
  have HEB : Hid ((-9223372036854775808 ≤ ends0 ∧ ends0 ≤ 9223372036854775807) ∧ (-9223372036854775808 ≤ ends1 ∧ ends1 ≤ 9223372036854775807)) := ⟨bdends0, bdends1⟩
  have HR : Hid (RdP w Avals vals) := rvals
  have HO : Hid (okP vals) := bdvals
  have HRR : Hid (RdP w Arow row) := rrow
  have HOR : Hid (okP row) := bdrow
  have HTN := Lib.hid hTens
  clear rvals bdvals rrow bdrow bddigits bdx bdends0 bdends1 hTens
  obtain ⟨len, hlen⟩ : ∃ len, vals.length = len := ⟨_, rfl⟩
  have HLN := Lib.hid hlen
  rw [hlen] at lvals ⊢
  obtain ⟨nr, hnr⟩ : ∃ len, row.length = len := ⟨_, rfl⟩
  have HNR := Lib.hid hnr
  rw [hnr] at lrow ⊢
  clear hlen hnr
  go_enter Tryd.func5, Tryd.ntmps5
  have hb0 : Below w.heap.size w (w.alloc (.cells #[.int .i64 ends0, .int .i64 ends1] 51)) := (Below.refl _ _).alloc (Nat.le_refl _) _
  have r2 := At.new' w #[.int .i64 ends0, .int .i64 ends1] 51 rfl
  go_wp2_with fail
  obtain ⟨rb, hrb⟩ : ∃ r, w.heap.size = r := ⟨_, rfl⟩
  obtain ⟨W1, hW1⟩ : ∃ W1, w.alloc (.cells #[.int .i64 ends0, .int .i64 ends1] 51) = W1 := ⟨_, rfl⟩
  rw [hW1] at hb0 r2 ⊢
  rw [hrb] at r2
  try rw [hrb]
  clear hW1 hrb
  refine (alive_any _ (HTN.out.below hb0)).mono ?_
  rintro e w1 ⟨rfl, hb⟩
  have hb1 := keep1 hb0 hb
  have HLT1 : Hid (rb < w1.heap.size) := Nat.lt_of_lt_of_le r2.lt hb.size
  replace r2 := r2.below hb
  clear hb0 hb
  go_wp2_with fail
  refine (build_any Avals len cvals vals digits w1 (HTN.out.below hb1) HLN.out lvals (HR.out.below hb1) HO.out).mono ?_
  rintro e w2 (⟨hn, rfl, hb⟩ | ⟨hP, s, m, S, rfl, hB⟩)
  · have HB2 := Lib.hid (keep1 hb1 hb)
    clear hn hb hb1 r2
    go_wp2
    go_ret
    exact ⟨rfl, HB2.out⟩
  · have HP := Lib.hid hP
    have HV := Lib.hid (hP.vok HO.out)
    have HD : Hid (1 ≤ digits ∧ digits ≤ 4) := hP.m
    have HB2 := Lib.hid (keep1 hb1 (Two.below hB))
    have HS2 : Hid (HdV w2 s S digits 0 vals) := Two.x hB
    have HM2 : Hid (BinsAt w2 m (.slice none 0 0) (.slice none 0 0) digits 0 4096 Avals len cvals) := Two.y hB
    have HAP : Hid (m < w2.heap.size ∧ w.heap.size ≤ m ∧ rb < w2.heap.size ∧ m ≠ rb) := by
      have h2 := Two.wt hB m (by simp)
      have z1 := hb1.size
      have z2 := (Two.below hB).size
      have := HLT1.out
      refine ⟨h2.2, by omega, by omega, by omega⟩
    have HR2 := Lib.hid (r2.below (Two.below hB))
    have len60 : len ≤ 60 := by have := HP.out.n; have := HLN.out; omega
    clear hP hB hb1 r2 HLT1
    by_cases hnr60 : 60 < nr
    · have hd1 : decide ((60 : Int) < nr) = true := decide_eq_true (by omega)
      have hd2 : decide (60 < nr) = true := decide_eq_true hnr60
      clear hnr60
      go_wp2
      go_ret
      exact ⟨rfl, HB2.out⟩
    · have hd1 : decide ((60 : Int) < nr) = false := decide_eq_false (by omega)
      have hd2 : decide (60 < nr) = false := decide_eq_false hnr60
      have nr60 : nr ≤ 60 := by omega
      clear hnr60
      go_wp2_with fail
      refine (hrows_v s S digits 0 _ _ _ _ _ w2 HS2.out).mono ?_
      rintro e w3 ⟨A0, k0, A1, k1, rfl, hr0, hr1, hb⟩
      have HA0 := Lib.hid hr0
      have HA1 := Lib.hid hr1
      obtain ⟨n0, hn0⟩ : ∃ n, (rowV (partD digits) true vals).length = n := ⟨_, rfl⟩
      obtain ⟨n1, hn1⟩ : ∃ n, (rowV (partD digits) false vals).length = n := ⟨_, rfl⟩
      have HN0 := Lib.hid hn0
      have HN1 := Lib.hid hn1
      rw [hn0, hn1]
      have HB3 := Lib.hid (keep1 HB2.out hb)
      have HS3 : Hid (HdV w3 s S digits 0 vals) := HS2.out.below hb
      have HM3 := Lib.hid (HM2.out.below hb)
      have HR3 := Lib.hid (HR2.out.below hb)
      have HZ3 : Hid (w2.heap.size ≤ w3.heap.size) := hb.size
      clear hr0 hr1 hn0 hn1 hb HB2 HS2 HM2 HR2 hd1 hd2
      go_wp2_with fail
      refine (hends_v s S digits 0 vals w3 HS3.out HV.out).mono ?_
      rintro e w4 ⟨rfl, hb⟩
      have HA04 := Lib.hid (HA0.out.below hb)
      have HA14 := Lib.hid (HA1.out.below hb)
      have hB4 := keep1 HB3.out hb
      have hS4 : HdV w4 s S digits 0 vals := HS3.out.below hb
      have hM4 := HM3.out.below hb
      have hR4 := HR3.out.below hb
      have hz4 : w2.heap.size ≤ w4.heap.size := Nat.le_trans HZ3.out hb.size
      clear hb HB3 HS3 HM3 HR3 HA0 HA1 HZ3
      have hba : Below w4.heap.size w4 (w4.alloc (.cells #[.int .i64 digits, .int .u64 0] 45)).drew := ((Below.refl _ _).alloc (Nat.le_refl _) _).drew
      have ac := (At.new w4 #[.int .i64 digits, .int .u64 0] 45).drew
      have HLD := Lib.hid fun W (hb : Below w.heap.size w W) (k0' : RdP W A0 (rowV (partD digits) true vals)) (k1' : RdP W A1 (rowV (partD digits) false vals)) => hload_v digits A0 n0 k0 A1 n1 k1 vals W (HTN.out.below hb) HD.out.1 HD.out.2 HV.out (by have := HLN.out; omega) HN0.out HN1.out k0' k1'
      have HZR := Lib.hid fun W (h : HdV W s S digits 0 vals) => hzero_any s S digits 0 _ _ _ _ _ W h
      obtain ⟨el, hel⟩ : ∃ e, eLow vals = e := ⟨_, rfl⟩
      obtain ⟨eh, heh⟩ : ∃ e, eHigh vals = e := ⟨_, rfl⟩
      obtain ⟨ei, hei⟩ : ∃ e, eIs vals = e := ⟨_, rfl⟩
      obtain ⟨zv, hzv⟩ : ∃ e, zeroV vals = e := ⟨_, rfl⟩
      rw [hel, heh, hzv] at HLD
      rw [hzv] at HZR
      rw [hel, heh, hei]
      clear hel heh hei hzv
      go_wp2
      obtain ⟨cb, hcb⟩ : ∃ g, w4.heap.size = g := ⟨_, rfl⟩
      obtain ⟨W5, hW5⟩ : ∃ W, (w4.alloc (.cells #[.int .i64 digits, .int .u64 0] 45)).drew = W := ⟨_, rfl⟩
      rw [hW5] at hba ac
      rw [hcb] at ac
      simp only [hcb]
      have HL5 : Hid (LF w W5 rb cb ends0 ends1 digits) := ⟨hR4.below hba, ac, keep1 hB4 hba⟩
      have HS5 : Hid (HdV W5 s S digits 0 vals) := hS4.below hba
      have HM5 := Lib.hid (hM4.below hba)
      have HA05 := Lib.hid (HA04.out.below hba)
      have HA15 := Lib.hid (HA14.out.below hba)
      have HCB : Hid (m < cb ∧ rb < cb ∧ cb < W5.heap.size) := ⟨by have := HAP.out; omega, by have := HAP.out; omega, ac.lt⟩
      haveI hne : Nonempty (Held (CfgW cb digits)) := ⟨⟨W5, ac⟩⟩
      have hfar := fun v : Held (CfgW cb digits) => v.held.at.two
      refine wp_region_noPanic ?_
      refine wp_region_held_drew (S := HeldS (CfgW cb digits)) (by kernel_rfl) (by rw [hW5]; exact HeldS.mk' HL5.out.c) (fun hHeld => ?_)
      rw [hW5] at hHeld ⊢
      clear hW5 hcb hba ac hB4 hS4 hM4 hR4 HA04 HA14 hz4
      refine wpAnyH_run0 [true, true, true, true, false, true, true] 7 (by kernel_rfl) (by kernel_rfl) (fun _ _ _ _ h => h) (by kernel_rfl) hHeld ?_
      simp only [runOps_true, runOps_false, runOps_nil]
      repeat (first | go_big_quiet_skip | (go_big_quiet_want; go_big_quiet_op; go_big_quiet_on))
      refine wpQuiet_nil ?_
      refine wpAnyH_ready (rs := [4]) (by kernel_rfl) (by simp) ?_
      refine AllReadyH.cons rfl (fun K hK => ?_) AllReadyH.nil
      go_simp
      go_wp2_with (go_at_call 23; refine (HZR.out W5 HS5.out).mono ?_; rintro e w6 ⟨rfl, rfl⟩)
      refine hK.out _ _ ?_ (fun hHeld => ?_)
      clear hK K
      · exact HeldS.mk' HL5.out.c
      refine wpAnyH_ready (rs := [7]) (by kernel_rfl) (by simp) ?_
      refine AllReadyH.cons rfl (fun K hK => ?_) AllReadyH.nil
      go_simp
      go_wp2_with (go_at_call 22; refine (HLD.out W5 HL5.out.b HA05.out HA15.out).mono ?_; rintro e w6 ⟨⟨dd, Sd, rfl, hWd, hHd⟩, hb⟩)
      refine hK.out _ _ ?_ (fun hHeld => ?_)
      clear hK K
      · exact HeldS.mk' (HL5.out.c.below hb)
      have HL6 := Lib.hid (HL5.out.below hb)
      have HM6 := Lib.hid (HM5.out.below hb)
      have HD6 : Hid (HdV w6 dd Sd digits 0 vals) := hHd
      have HND : Hid ((∀ j ∈ Sd, W5.heap.size ≤ j ∧ j < w6.heap.size) ∧ w.heap.size ≤ W5.heap.size) := ⟨hWd, HL5.out.b.size⟩
      clear hb hWd hHd HL5 HM5 HS5 HA05 HA15 HZR HLD
      refine wpAnyH_run0 [false, false, false, false, false, false, false, false, true, true, true, true, true] 0 (by kernel_rfl) (by kernel_rfl) (fun _ _ _ _ h => h) (by kernel_rfl) hHeld ?_
      simp only [runOps_true, runOps_false, runOps_nil]
      repeat (first | go_big_quiet_skip | (go_big_quiet_want; go_big_quiet_op; go_big_quiet_on))
      refine wpQuiet_nil ?_
      refine wpAnyH_done (by kernel_rfl) ?_ _
      refine NoPanic.normal ?_
      clear hfar hne hHeld
      go_wp2_with fail
      refine (hsame_any dd Sd digits 0 vals m (.slice none 0 0) (.slice none 0 0) 0 4096 Avals len cvals w6 HD6.out HM6.out HLN.out (by omega) (HR.out.below HL6.out.b) HV.out HD.out.1 HD.out.2).mono ?_
      rintro e w7 ⟨rfl, hb⟩
      have HL7 := Lib.hid (HL6.out.below hb)
      have HM7 := Lib.hid (HM6.out.below hb)
      have HD7 : Hid (HdV w7 dd Sd digits 0 vals) := HD6.out.below hb
      have HN7 : Hid ((∀ j ∈ Sd, W5.heap.size ≤ j ∧ j < w7.heap.size) ∧ w.heap.size ≤ W5.heap.size) := ⟨fun j hj => ⟨(HND.out.1 j hj).1, by have := (HND.out.1 j hj).2; have := hb.size; omega⟩, HND.out.2⟩
      clear hb HL6 HM6 HD6 HND
      go_wp2_with fail
      refine (hput_v dd Sd digits 0 x 3 vals w7 HD7.out HV.out HXB.out (by omega) (by have := HP.out.sum; omega) (.inl rfl) (by have := HLN.out; omega)).mono ?_
      rintro e w8 ⟨rfl, Se, hg, hH, hF⟩
      have HW7 : Hid (Within Sd w.heap.size w7.heap.size) := fun j hj => ⟨by have := (HN7.out.1 j hj).1; have := HN7.out.2; omega, (HN7.out.1 j hj).2⟩
      have HNB : Hid (rb ∉ Sd ∧ cb ∉ Sd ∧ m ∉ Sd) := ⟨fun h => by have := (HN7.out.1 _ h).1; have := HCB.out; omega, fun h => by have := (HN7.out.1 _ h).1; have := HCB.out; omega, fun h => by have := (HN7.out.1 _ h).1; have := HCB.out; omega⟩
      have HNE : Hid (m ∉ Se ∧ m < w8.heap.size) := ⟨fun h => by
        rcases hg m h with h1 | h1
        · exact HNB.out.2.2 h1
        · have := At.lt HM7.out; omega, Nat.lt_of_lt_of_le (At.lt HM7.out) hF.size⟩
      have HL8 := Lib.hid (HL7.out.frame hF HNB.out.1 HNB.out.2.1 HW7.out)
      have HM8 : Hid (BinsAt w8 m (.slice none 0 0) (.slice none 0 0) digits 0 4096 Avals len cvals) := hF.at HM7.out HNB.out.2.2
      have HD8 : Hid (HdV w8 dd Se digits 0 (vals ++ [(x, 3)])) := hH
      have HV8 := Lib.hid (HV.out.snoc (x := x) (c := 3) HXB.out (by omega) (by have := HP.out.sum; omega))
      clear hg hH hF HL7 HM7 HD7 HN7 HW7
      have HOE := Lib.hid (OwnV.empty w8 w8.heap.size (Nat.le_refl _))
      have hbe : Below w8.heap.size w8 (w8.alloc (.cells #[] 60)) := (Below.refl _ _).alloc (Nat.le_refl _) _
      have HBE := Lib.hid hbe
      have HRE := Lib.hid ((HR.out.below HL8.out.b).below hbe)
      clear hbe
      go_wp2_with (first | (at_builtin; refine wpList_append_vals rfl _ _ rfl w8.heap.size (some ⟨w8.heap.size, 0, none⟩) 0 0 [] rfl rfl HOE.out Avals len cvals vals rfl HLN.out HRE.out (by omega) w8 HBE.out (by simp) ?_; intro A3 cap3 W3 HO3 hB3; simp only [Nat.zero_add]; have HO4 := Lib.hid (OwnV.below HO3.out ((Below.refl W3.heap.size W3).alloc (Nat.le_refl _) (.cells #[.int .i64 x, .int .u64 3] 60))); have hB4 := keep1 hB3 ((Below.refl W3.heap.size W3).alloc (Nat.le_refl _) (.cells #[.int .i64 x, .int .u64 3] 60)); have HRN := Lib.hid (rdV_new W3 x 3)) | (at_builtin; refine wpList_append_vals rfl _ _ rfl w8.heap.size A3 cap3 len ([] ++ vals) rfl HLN.out HO4.out (some ⟨W3.heap.size, 0, none⟩) 1 1 [(x, 3)] rfl rfl HRN.out (by omega) w8 hB4 hB4.size ?_; intro A4 cap4 W4 HO5 hB5; have hM9 := HM8.out.below hB5; have f9 := hM9.six; have l9 := At.lt hM9) | fail)
      obtain ⟨W9, hW9⟩ : ∃ W, W4.setCell ⟨m, 5, none⟩ (.slice A4 (len + 1) cap4) = W := ⟨_, rfl⟩
      have hF9 : Frame [m] W4 W9 := by rw [← hW9]; exact Frame.set [m] W4 m 5 _ (by simp)
      have HM9 : Hid (BinsAt W9 m (.slice none 0 0) (.slice none 0 0) digits 0 4096 A4 (len + 1) cap4) := by
        show At _ _ _ _
        rw [← hW9]
        exact At.set_any hM9 5 _ rfl
      have hL9 := HL8.out.below hB5
      have HL9 := Lib.hid (hL9.frame hF9 (fun h => by simp at h; have := HAP.out; omega) (fun h => by simp at h; have := HCB.out; omega) (fun j hj => by simp at hj; subst hj; exact ⟨HAP.out.2.1, l9⟩))
      have HD9 : Hid (HdV W9 dd Se digits 0 (vals ++ [(x, 3)])) := (HD8.out.below hB5).frame hF9 (fun j hj h => by simp at h; subst h; exact HNE.out.1 hj)
      have HRV9 : Hid (RdP W9 A4 (vals ++ [(x, 3)])) := by
        have h1 := HO5.out.frame hF9 (fun j hj h => by simp at h; subst h; have := (HO5.out.blk_le _ hj).1; have := HNE.out.2; omega)
        exact h1.rd
      rw [hW9]
      clear hW9 hF9 hL9 HM8 HD8 HO5 hB5 hM9 f9 l9 HO4 HO3 hB3 hB4 HRN HOE HBE HRE HNE HNB HL8
      refine (hsame_any dd Se digits 0 (vals ++ [(x, 3)]) m (.slice none 0 0) (.slice none 0 0) 0 4096 A4 (len + 1) cap4 W9 HD9.out HM9.out (by rw [List.length_append, HLN.out]; rfl) (by omega) HRV9.out HV8.out HD.out.1 HD.out.2).mono ?_
      rintro e w10 ⟨rfl, hb⟩
      have HL10 := Lib.hid (HL9.out.below hb)
      have f10 := HL10.out.r.two
      have l10 := HL10.out.r.lt
      have g10 := HL10.out.c.two
      have m10 := HL10.out.c.lt
      clear hb HL9 HM9 HD9 HRV9 HN0 HN1
      go_wp2_with fail
      refine (hload_s digits Arow nr crow row ends0 ends1 w10 (HTN.out.below HL10.out.b) HD.out.1 HD.out.2 HNR.out (by omega) (HRR.out.below HL10.out.b) HOR.out HEB.out.1 HEB.out.2).mono ?_
      rintro e w11 ⟨⟨dv, cd, rfl, hS⟩, hb⟩
      have HS11 := Lib.hid hS
      have HL11 := Lib.hid (HL10.out.below hb)
      have HR11 := Lib.hid (HRR.out.below HL11.out.b)
      clear hS hb HL10 f10 l10 g10 m10
      go_wp2_with fail
      refine (rowgood_any Arow nr crow row w11 HNR.out lrow HR11.out HOR.out).mono ?_
      rintro e w12 ⟨⟨bv, rfl, hbv⟩, hb⟩
      have HB12 := Lib.hid hb
      have hL12 := HL11.out.below hb
      have f12 := hL12.r.two
      have l12 := hL12.r.lt
      have g12 := hL12.c.two
      have m12 := hL12.c.lt
      have HT12 := Lib.hid (HTN.out.below hL12.b)
      clear hb hL12
      have hcase : (bv = false ∧ Hid (∀ b : Bool, b = false → (b = true → LwK digits row ends0 ends1 0 1) ∧ (b = false → ¬ HloadOk digits row [] 1 ends0 ends1))) ∨
          (bv = true ∧ decide (ends0 ≤ ends1) = false ∧ Hid (∀ b : Bool, b = false → (b = true → LwK digits row ends0 ends1 0 1) ∧ (b = false → ¬ HloadOk digits row [] 1 ends0 ends1))) ∨
          (bv = true ∧ decide (ends0 ≤ ends1) = true ∧ Hid (∀ b : Bool, b = true → (b = true → LwK digits row ends0 ends1 0 1) ∧ (b = false → ¬ HloadOk digits row [] 1 ends0 ends1))) := by
        cases bv with
        | false =>
          refine .inl ⟨rfl, fun b hb => ⟨fun h => (by rw [hb] at h; cases h), fun _ k => ?_⟩⟩
          have := hbv.2 k.gdm
          cases this
        | true =>
          by_cases hle : ends0 ≤ ends1
          · exact .inr (.inr ⟨rfl, decide_eq_true hle, fun b hb => ⟨fun _ => LwK.start (hbv.1 rfl) hle, fun h => (by rw [hb] at h; cases h)⟩⟩)
          · exact .inr (.inl ⟨rfl, decide_eq_false hle, fun b hb => ⟨fun h => (by rw [hb] at h; cases h), fun _ k => hle k.le⟩⟩)
      clear hbv
      rcases hcase with ⟨rfl, HST⟩ | ⟨rfl, hde, HST⟩ | ⟨rfl, hde, HST⟩
      all_goals
        go_wp2_with fail
        refine (hnew_any digits 0 w12 HT12.out HD.out.1 HD.out.2 (by omega) (by omega)).mono ?_
        rintro e w13 ⟨⟨lb, Sl, rfl, hWl, hHl⟩, hb⟩
        have HB13 := Lib.hid (keep1 HB12.out hb)
        have HWL : Hid (Within Sl w11.heap.size w13.heap.size) := fun j hj => ⟨by have := (hWl j hj).1; have := HB12.out.size; omega, (hWl j hj).2⟩
        have HH13 : Hid (HdV w13 lb Sl digits 0 []) := hdv_new hHl
        clear hb hWl hHl f12 l12 g12 m12
        go_wp2_with fail
        refine (hput_v lb Sl digits 0 (-9223372036854775808) 1 [] w13 HH13.out VOk.nil (by omega) (by omega) (by rw [sumP_nil]; omega) (.inl rfl) (by simp)).mono ?_
        rintro e w14 ⟨rfl, Sm, hg, hH, hF⟩
        have HB14 : Hid (Below w11.heap.size w11 w14) := hF.below' HB13.out HB13.out.size HWL.out
        have HH14 := Lib.hid hH
        clear hg hH hF HH13 HB13
        go_wp2_with fail
        refine (hrows_v lb Sm digits 0 _ _ _ _ _ w14 HH14.out).mono ?_
        rintro e w15 ⟨A5, k5, A6, k6, rfl, hr5, hr6, hb⟩
        have HB15 := Lib.hid (keep1 HB14.out hb)
        have e5 : rowV (partD digits) true ([] ++ [(-9223372036854775808, 1)]) = [(topD digits, 1)] := by
          rw [List.nil_append, rowV_one (by omega) (by omega) (by omega)]
          show [(partD digits 9223372036854775808, 1)] = _
          rw [topD_part]
        rw [e5] at hr5 ⊢
        have HR5 := Lib.hid hr5
        obtain ⟨n6, hn6⟩ : ∃ n, (rowV (partD digits) false ([] ++ [(-9223372036854775808, 1)])).length = n := ⟨_, rfl⟩
        rw [hn6]
        simp only [List.length_cons, List.length_nil, Nat.zero_add]
        clear hb hr5 hr6 e5 hn6 HH14 HB14
        obtain ⟨tp, htp⟩ : ∃ t, topD digits = t := ⟨_, rfl⟩
        have HTP := Lib.hid htp
        rw [htp] at HR5
        clear htp
        go_wp2
        go_loopw [22, 23, 28] (fun wt sm i wr => ∃ k : Nat, ∃ b : Bool, ∃ z : Int, k ≤ nr ∧ i = .int .i64 k ∧ wt = .bool b ∧ sm = .int .u64 z ∧ Hid (b = true → LwK digits row ends0 ends1 k z) ∧ Hid (b = false → ¬ HloadOk digits row [] 1 ends0 ends1) ∧ Hid (Below w15.heap.size w15 wr)) (fun _ _ i _ => nr - (intOf i).toNat)
        case atStart => exact ⟨0, _, 1, by omega, rfl, rfl, rfl, (HST.out _ rfl).1, (HST.out _ rfl).2, Below.refl _ _⟩
        case round =>
          obtain ⟨k, b, z, hk, rfl, rfl, rfl, HY, HNO, HBW⟩ := hrel
          clear HST
          cases b with
          | false =>
            obtain ⟨h1, rfl, rfl⟩ : ¬ HloadOk digits row [] 1 ends0 ends1 ∧ cd = 1 ∧ dv = none := by
              rcases HS11.out with ⟨h1, _⟩ | h
              · exact absurd h1 (HNO.out rfl)
              · exact h
            have HFB : Hid (Below w.heap.size w wr) := keep1 HL11.out.b (keep1 HB15.out HBW.out)
            clear h1 HY HNO HBW HS11 HL11 HR11 HB15 HB12 HT12 HWL HR5
            go_wp2
            go_ret
            exact ⟨rfl, HFB.out⟩
          | true =>
            by_cases hlt : k < nr
            · obtain ⟨g, o, rfl, hg, c1, c2⟩ := ((HR11.out.below HB15.out).below HBW.out).at k (by have := HNR.out; omega)
              obtain ⟨g5, o5, rfl, hg5, t1, t2⟩ := (HR5.out.below HBW.out).at 0 (by simp)
              simp only [List.getElem_cons_zero, Nat.zero_mul, Nat.add_zero] at t1
              have HKL : Hid (k < row.length) := by have := HNR.out; show _ < _; omega
              have HSTP := Lib.hid fun h1 h2 h3 => (HY.out rfl).step HKL.out h1 h2 h3
              have HATN := Lib.hid fun (h : HloadOk digits row [] 1 ends0 ends1) => h.at HKL.out
              have HMX := Lib.hid (And.intro ((HY.out rfl).gm.gd.pos _ (List.getElem_mem HKL.out)) ((HY.out rfl).gm.mx _ (List.getElem_mem HKL.out)))
              have HZ := Lib.hid (And.intro (HY.out rfl).sm (And.intro (HY.out rfl).hi (sumP_nonneg ((HY.out rfl).gm.take k).gd.pos)))
              obtain ⟨⟨px, py⟩, hx⟩ : ∃ x, row[k]'HKL.out = x := ⟨_, rfl⟩
              rw [hx] at c1 c2 HSTP HATN HMX
              dsimp only at c1 c2 HSTP HATN HMX
              rw [HTP.out] at HSTP HATN
              have hwr : IntKind.u64.wrap (z + py) = z + py := by have := HMX.out; have := HZ.out; simp only [IntKind.wrap_u64]; omega
              have hbd : Below wr.heap.size wr wr.drew := (Below.refl _ _).drew
              have HBQ := Lib.hid fun n => keep1 HBW.out ((Below.refl wr.heap.size wr).drewN n)
              have kk0 : (0 : Int) ≤ k := by omega
              have kk1 : (k : Int) < nr := by omega
              clear hx t2 hbd HY HNO HBW
              have hcs : (decide (z + py < 9223372036854775808) = false ∧ Hid (¬ HloadOk digits row [] 1 ends0 ends1)) ∨ (decide (z + py < 9223372036854775808) = true ∧ decide (1 ≤ px) = false ∧ Hid (¬ HloadOk digits row [] 1 ends0 ends1)) ∨
                  (decide (z + py < 9223372036854775808) = true ∧ decide (1 ≤ px) = true ∧ decide (px ≤ tp) = false ∧ Hid (¬ HloadOk digits row [] 1 ends0 ends1)) ∨ (decide (z + py < 9223372036854775808) = true ∧ decide (1 ≤ px) = true ∧ decide (px ≤ tp) = true ∧ Hid (LwK digits row ends0 ends1 (k + 1) (z + py))) := by
                have hz := HZ.out
                by_cases h1 : z + py < 9223372036854775808
                · by_cases h2 : 1 ≤ px
                  · by_cases h3 : px ≤ tp
                    · exact .inr (.inr (.inr ⟨decide_eq_true h1, decide_eq_true h2, decide_eq_true h3, HSTP.out h2 h3 (by omega)⟩))
                    · exact .inr (.inr (.inl ⟨decide_eq_true h1, decide_eq_true h2, decide_eq_false h3, fun h => h3 (HATN.out h).1.2⟩))
                  · exact .inr (.inl ⟨decide_eq_true h1, decide_eq_false h2, fun h => h2 (HATN.out h).1.1⟩)
                · exact .inl ⟨decide_eq_false h1, fun h => by have := (HATN.out h).2; omega⟩
              clear HSTP HATN HMX HZ
              rcases hcs with ⟨q1, HQ⟩ | ⟨q1, q2, HQ⟩ | ⟨q1, q2, q3, HQ⟩ | ⟨q1, q2, q3, HQ⟩
              · go_wp2
                go_quiet (fail)
                go_wp2
                go_roundw
                case rel => exact ⟨k + 1, false, z + py, by omega, by simp, rfl, rfl, fun h => (by cases h), fun _ => HQ.out, HBQ.out _⟩
                case measure => simp [intOf]; omega
              · go_wp2
                go_quiet (fail)
                go_wp2
                go_roundw
                case rel => exact ⟨k + 1, false, z + py, by omega, by simp, rfl, rfl, fun h => (by cases h), fun _ => HQ.out, HBQ.out _⟩
                case measure => simp [intOf]; omega
              · go_wp2
                go_quiet (fail)
                go_wp2
                go_roundw
                case rel => exact ⟨k + 1, false, z + py, by omega, by simp, rfl, rfl, fun h => (by cases h), fun _ => HQ.out, HBQ.out _⟩
                case measure => simp [intOf]; omega
              · go_wp2
                go_quiet (fail)
                go_wp2
                go_roundw
                case rel => exact ⟨k + 1, true, z + py, by omega, by simp, rfl, rfl, fun _ => HQ.out, fun h => (by cases h), HBQ.out _⟩
                case measure => simp [intOf]; omega
            · obtain ⟨hok, hz⟩ := (HY.out rfl).done (by have := HNR.out; omega)
              have hz63 := (HY.out rfl).hi
              obtain ⟨_, rfl, b, S', rfl, _, hH⟩ : HloadOk digits row [] 1 ends0 ends1 ∧ cd = 0 ∧ ∃ b S, dv = some ⟨b, 0, none⟩ ∧ Within S w10.heap.size w11.heap.size ∧ Hd w11 b S digits 0 row [] 1 ends0 ends1 := by
                rcases HS11.out with h | ⟨h1, _⟩
                · exact h
                · exact absurd hok h1
              have HT := Lib.hid (htotal_hd b S' digits row ends0 ends1 z wr (hH.below (keep1 HB15.out HBW.out)) hz hz63)
              have HFB : Hid (Below w.heap.size w wr) := keep1 HL11.out.b (keep1 HB15.out HBW.out)
              have hk2 : ¬ ((k : Int) < nr) := by omega
              clear hH hok hz hz63 HY HNO HBW HS11 HL11 HR11 HB15 HB12 HT12 HWL HR5
              go_wp2_with fail
              refine HT.out.mono ?_
              rintro e w17 ⟨rfl, hb⟩
              have HF17 := Lib.hid (keep1 HFB.out hb)
              clear hb HT HFB
              go_wp2
              go_ret
              exact ⟨rfl, HF17.out⟩
end Go.Proofs.YtnkkdciecjhpoaaDoor
