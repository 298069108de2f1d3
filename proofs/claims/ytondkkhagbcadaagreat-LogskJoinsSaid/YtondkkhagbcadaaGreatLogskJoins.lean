/- The walk of the statement LogskJoins. -/
import Derived.Test.YtondkkhagbcadaaGreatProg
import Derived.Test.YtondkkhagbcadaaGreatOpen
import Derived.Test.YtondkkhagbcadaaGreatLsBuild
import Derived.Test.YtondkkhagbcadaaGreatCase14
import Derived.Test.YtondkkhagbcadaaGreatValOp
namespace Go.Proofs.YtondkkhagbcadaaGreat
open Go.RowKit

/-- Both sketches, the other's document and all values' document, and the part. -/
structure MJ (w W : World) (b o m ma rp : Nat) (S1 S2 TB2 TB3 : List Nat) (s : Bool) (part : Nat → Int) (rep : Int → Int) (u v most p0 p1 : Int) (c vals : List (Int × Int)) (Ab : Option Addr) (lb cb : Nat) (Aa : Option Addr) (la ca : Nat) : Prop where
  hb : LsV W b S1 part rep u v s most c
  ho : LsV W o S2 part rep u v s most vals
  hm : DocAt W m TB2 u v 0 (sideZ s) most Ab lb cb
  ha : DocAt W ma TB3 u v 0 (sideZ s) most Aa la ca
  hp : At W rp #[.int .u64 p0, .int .u64 p1] 24
  bl : Below w.heap.size w W
theorem MJ.below {w W W' : World} {b o m ma rp : Nat} {S1 S2 TB2 TB3 : List Nat} {s : Bool} {part : Nat → Int} {rep : Int → Int} {u v most p0 p1 : Int} {c vals : List (Int × Int)} {Ab Aa : Option Addr} {lb cb la ca : Nat} (h : MJ w W b o m ma rp S1 S2 TB2 TB3 s part rep u v most p0 p1 c vals Ab lb cb Aa la ca) (hb : Below W.heap.size W W') :
    MJ w W' b o m ma rp S1 S2 TB2 TB3 s part rep u v most p0 p1 c vals Ab lb cb Aa la ca :=
  ⟨h.hb.below hb, h.ho.below hb, h.hm.below hb, h.ha.below hb, h.hp.below hb, keep1 h.bl hb⟩
def JnW (m rb : Nat) (cs cs' : Array Value) (W : World) : Prop := At W m cs 41 ∧ At W rb cs' 27
theorem JnW.at {m rb : Nat} {cs cs' : Array Value} {W : World} (h : JnW m rb cs cs' W) : At W m cs 41 ∧ At W rb cs' 27 := h
theorem JnW.below {m rb : Nat} {cs cs' : Array Value} {W W' : World} (h : JnW m rb cs cs' W) (hb : Below W.heap.size W W') : JnW m rb cs cs' W' := ⟨h.1.below hb, h.2.below hb⟩
set_option maxRecDepth 100000 in
set_option maxHeartbeats 4000000 in
theorem logskJoins_walk (w : World) (cu cv cs cm : Int) (bdcu : 0 ≤ cu ∧ cu < 18446744073709551616) (bdcv : 0 ≤ cv ∧ cv < 18446744073709551616) (bdcs : -9223372036854775808 ≤ cs ∧ cs ≤ 9223372036854775807) (bdcm : -9223372036854775808 ≤ cm ∧ cm ≤ 9223372036854775807) (Ac : Option Addr) (cc : Nat) (c : List (Int × Int)) (rc : Rd w Ac (c.flatMap fun x => [.int .i64 x.1, .int .u64 x.2])) (bdc : ∀ x ∈ c, (-9223372036854775808 ≤ x.1 ∧ x.1 ≤ 9223372036854775807) ∧ (0 ≤ x.2 ∧ x.2 < 18446744073709551616)) (lc : c.length ≤ 9223372036854775807) (Avals : Option Addr) (cvals : Nat) (vals : List (Int × Int)) (rvals : Rd w Avals (vals.flatMap fun x => [.int .i64 x.1, .int .u64 x.2])) (bdvals : ∀ x ∈ vals, (-9223372036854775808 ≤ x.1 ∧ x.1 ≤ 9223372036854775807) ∧ (0 ≤ x.2 ∧ x.2 < 18446744073709551616)) (lvals : vals.length ≤ 9223372036854775807) (p0 p1 : Int) (bdp0 : 0 ≤ p0 ∧ p0 < 18446744073709551616) (bdp1 : 0 ≤ p1 ∧ p1 < 18446744073709551616) :
    Calls Tryz.prog 8 #[.agg #[.int .u64 cu, .int .u64 cv, .int .i64 cs, .int .i64 cm, .slice Ac c.length cc], .slice Avals vals.length cvals, .agg #[.int .u64 p0, .int .u64 p1]] w fun e w' => e = .returned (.bool true) ∧ Below w.heap.size w w' := by
  have HPQ := Lib.hid (And.intro bdp0 bdp1)
  have HRV0 : Hid (RdP w Avals vals) := rvals
  have HCV : Hid (okP vals) := bdvals
  obtain ⟨nv, hnv⟩ : ∃ n, vals.length = n := ⟨_, rfl⟩
  have HNV := Lib.hid hnv
  rw [hnv]
  clear rvals bdvals lvals hnv bdp0 bdp1
  have HC0 : Hid (okP c) := bdc
  have HRC0 : Hid (RdP w Ac c) := rc
  obtain ⟨n, hn⟩ : ∃ n, c.length = n := ⟨_, rfl⟩
  have HN := Lib.hid hn
  have HUV := Lib.hid (And.intro bdcu bdcv)
  rw [hn]
  have hba : Below w.heap.size w ((w.alloc (.cells #[.int .u64 cu, .int .u64 cv, .int .i64 cs, .int .i64 cm, .slice Ac n cc] 27)).alloc (.cells #[.int .u64 p0, .int .u64 p1] 24)) := (((Below.refl _ _).alloc (by first | omega | (simp; done) | (simp; omega)) _).alloc (by first | omega | (simp; done) | (simp; omega)) _)
  have am := ((At.new' w #[.int .u64 cu, .int .u64 cv, .int .i64 cs, .int .i64 cm, .slice Ac n cc] 27 (b := w.heap.size) (by simp)).alloc (.cells #[.int .u64 p0, .int .u64 p1] 24))
  have ap := (At.new' (w.alloc (.cells #[.int .u64 cu, .int .u64 cv, .int .i64 cs, .int .i64 cm, .slice Ac n cc] 27)) #[.int .u64 p0, .int .u64 p1] 24 (b := w.heap.size + 1) (by simp))
  clear bdcu bdcv bdcs bdcm rc bdc lc hn
  go_enter Tryz.func8, Tryz.ntmps8
  go_wp2_with fail
  obtain ⟨W1, hW1⟩ : ∃ W, ((w.alloc (.cells #[.int .u64 cu, .int .u64 cv, .int .i64 cs, .int .i64 cm, .slice Ac n cc] 27)).alloc (.cells #[.int .u64 p0, .int .u64 p1] 24)) = W := ⟨_, rfl⟩
  rw [hW1] at hba am ap
  simp only [hW1]
  clear hW1
  refine (alive_any W1).mono ?_
  rintro e w2 ⟨rfl, hb⟩
  have HB2 := Lib.hid (keep1 hba hb)
  have HAM := Lib.hid (am.below hb)
  have HRp := Lib.hid (ap.below hb)
  have f2 := HAM.out.five
  have l2 := HAM.out.lt
  clear hba hb am ap
  go_wp2_with fail
  obtain ⟨W3, hW3⟩ : ∃ W, w2.alloc (.cells #[.int .u64 cu, .int .u64 cv, .int .i64 cs, .int .i64 cm, .slice Avals nv cvals] 27) = W := ⟨_, rfl⟩
  have hd1 : At W3 w2.heap.size #[.int .u64 cu, .int .u64 cv, .int .i64 cs, .int .i64 cm, .slice Avals nv cvals] 27 := by rw [← hW3]; exact At.new' _ _ _ rfl
  have hb3 : Below w2.heap.size w2 W3 := by rw [← hW3]; exact (Below.refl _ _).alloc (Nat.le_refl _) _
  obtain ⟨db, hdb⟩ : ∃ r, w2.heap.size = r := ⟨_, rfl⟩
  rw [hdb] at hd1
  simp only [hdb, hW3]
  have HB3 := Lib.hid (keep1 HB2.out hb3)
  have hc3 := HAM.out.below hb3
  have hp3 := HRp.out.below hb3
  have HRPL : Hid (w.heap.size + 1 < W3.heap.size) := hp3.lt
  clear hW3 hb3 hdb f2 l2 HAM HRp
  refine (build_any cu cv cs cm Ac n cc c W3 HUV.out.1 HUV.out.2 HN.out (HRC0.out.below HB3.out) HC0.out).mono ?_
  rintro e w4 (⟨rfl, hb⟩ | ⟨hp, s, part, rep, stand, b, m1, S1, TB1, rfl, hc, _, rfl, hB⟩)
  · have HB4 := Lib.hid (keep1 HB3.out hb)
    have hd4 := hd1.below hb
    have f4 := hd4.five
    have l4 := hd4.lt
    clear hb hd1 hc3 HB3 HB2 hd4 hp3
    go_wp2_with fail
    refine (build_any cu cv cs cm Avals nv cvals vals w4 HUV.out.1 HUV.out.2 HNV.out (HRV0.out.below HB4.out) HCV.out).mono ?_
    rintro e w5 (⟨rfl, hb⟩ | ⟨hp, s, part, rep, stand, b, m1, S1, TB1, rfl, hc, _, rfl, hB⟩)
    · have HB5 := Lib.hid (keep1 HB4.out hb)
      clear hb HB4 f4 l4
      go_wp2
      go_ret
      exact ⟨rfl, HB5.out⟩
    · have HB5 := Lib.hid (keep1 HB4.out (Two.below hB))
      clear hp hc hB HB4 f4 l4
      go_wp2
      go_ret
      exact ⟨rfl, HB5.out⟩
  have HB4 := Lib.hid (keep1 HB3.out (Two.below hB))
  have HP1 := Lib.hid hp
  have H1 := Lib.hid hB
  have HC := Lib.hid hc
  have hd4 := hd1.below (Two.below hB)
  have hc4 := hc3.below (Two.below hB)
  have hp4 := hp3.below (Two.below hB)
  have f4 := hd4.five
  have l4 := hd4.lt
  clear hp hB hc hd1 hc3 hp3 HB2
  go_wp2_with fail
  refine (build_any cu cv (sideZ s) cm Avals nv cvals vals w4 HUV.out.1 HUV.out.2 HNV.out (HRV0.out.below HB4.out) HCV.out).mono ?_
  rintro e w5 (⟨rfl, hb⟩ | ⟨hp, s2, part2, rep2, stand2, o, m, S2, TB2, hs2, hc2, _, rfl, hB⟩)
  · have HB5 := Lib.hid (keep1 HB4.out hb)
    clear hb HB4 f4 l4 hd4 hc4 hp4
    go_wp2
    go_ret
    exact ⟨rfl, HB5.out⟩
  obtain rfl : s = s2 := by cases s <;> cases s2 <;> simp [sideZ] at hs2 ⊢
  obtain ⟨_, rfl, rfl, rfl⟩ := Cs.one HC.out hc2
  have HB5 := Lib.hid (keep1 HB4.out (Two.below hB))
  have HP2 := Lib.hid hp
  have H2 := Lib.hid hB
  have hc5 := hc4.below (Two.below hB)
  have hp5 := hp4.below (Two.below hB)
  have HVA := Lib.hid (HP1.out.vok HC0.out)
  have HVB := Lib.hid (HP2.out.vok HCV.out)
  have HSUM : Hid (sumP c + sumP vals ≤ 9223372036854775807) := by have := HP1.out.sum; have := HP2.out.sum; show _ ≤ _; omega
  have HVV := Lib.hid (HVA.out.app HVB.out HSUM.out)
  have H60 : Hid (n ≤ 60 ∧ nv ≤ 60) := ⟨by have := HP1.out.n; have := HN.out; omega, by have := HP2.out.n; have := HNV.out; omega⟩
  have HLAB : Hid ((c ++ vals).length = n + nv) := by show _ = _; rw [List.length_append, HN.out, HNV.out]
  have HB1 : Hid (LsV w5 b S1 part rep cu cv s cm c) := (Two.x H1.out).below (Two.below H2.out)
  have HO1 := Lib.hid (Two.x H2.out)
  have HS1 : Hid (∀ j ∈ S1, W3.heap.size ≤ j ∧ j < w4.heap.size) := Two.ws H1.out
  have HS2 : Hid (∀ j ∈ S2, w4.heap.size ≤ j ∧ j < w5.heap.size) := Two.ws H2.out
  have HT2 : Hid (∀ j ∈ TB2, w4.heap.size ≤ j ∧ j < w5.heap.size) := Two.wt H2.out
  have HSW : Hid (∀ j ∈ S1, w.heap.size ≤ j) := fun j hj => Nat.le_trans HB3.out.size ((Two.ws H1.out) j hj).1
  have HDM : Hid (DocAt w5 m TB2 cu cv 0 (sideZ s) cm Avals nv cvals) := Two.y H2.out
  have HZ45 : Hid (w4.heap.size ≤ w5.heap.size) := (Two.below H2.out).size
  clear hp hB hc2 hs2 f4 l4 hd4 hc4 hp4 H1 H2
  obtain ⟨un, vn, L, D1, k1, D2, k2, q1, q2, ht, hM, hR1, hR2, hTB⟩ : ∃ (un vn : Nat) (L : List Nat) (A1 : Option Addr) (c1 : Nat) (A2 : Option Addr) (c2 : Nat), cu = un ∧ cv = vn ∧ TabOk un vn L ∧ BinsAt w5 m (.slice A1 L.length c1) (.slice A2 L.length c2) 0 (sideZ s) cm Avals nv cvals ∧ RdU w5 A1 (castL L) ∧ RdU w5 A2 (castL (L.map (repN un vn))) ∧ TB2 = m :: (blk A1 ++ blk A2) := by
    rcases HDM.out with ⟨h, _⟩ | ⟨_, h⟩
    · omega
    · exact h
  have HDD := Lib.hid (And.intro q1 (And.intro q2 (And.intro ht (And.intro hR1 (And.intro hR2 hTB)))))
  obtain ⟨nL, hnL⟩ : ∃ z, L.length = z := ⟨_, rfl⟩
  have HNL := Lib.hid hnL
  rw [hnL] at hM
  obtain ⟨z, hz⟩ : ∃ z, sideZ s = z := ⟨_, rfl⟩
  have HZZ := Lib.hid hz
  rw [hz] at hM hc5
  have hM5 : At w5 m #[.slice D1 nL k1, .slice D2 nL k2, .int .i64 0, .int .i64 z, .int .i64 cm, .slice Avals nv cvals] 41 := hM
  clear q1 q2 ht hM hR1 hR2 hTB hnL hz
  go_wp2
  have hb6 : Below w5.heap.size w5 w5.drew := (Below.refl _ _).drew
  obtain ⟨W6, hW6⟩ : ∃ W, w5.drew = W := ⟨_, rfl⟩
  rw [hW6] at hb6
  have h6 : JnW m w.heap.size #[.slice D1 nL k1, .slice D2 nL k2, .int .i64 0, .int .i64 z, .int .i64 cm, .slice Avals nv cvals] #[.int .u64 cu, .int .u64 cv, .int .i64 z, .int .i64 cm, .slice Ac n cc] W6 := ⟨hM5.below hb6, hc5.below hb6⟩
  have H6B := Lib.hid hb6
  haveI hne : Nonempty (Held (JnW m w.heap.size #[.slice D1 nL k1, .slice D2 nL k2, .int .i64 0, .int .i64 z, .int .i64 cm, .slice Avals nv cvals] #[.int .u64 cu, .int .u64 cv, .int .i64 z, .int .i64 cm, .slice Ac n cc])) := ⟨⟨W6, h6⟩⟩
  have hfar1 := fun x : Held (JnW m w.heap.size #[.slice D1 nL k1, .slice D2 nL k2, .int .i64 0, .int .i64 z, .int .i64 cm, .slice Avals nv cvals] #[.int .u64 cu, .int .u64 cv, .int .i64 z, .int .i64 cm, .slice Ac n cc]) => x.held.at.1.six
  have hfar2 := fun x : Held (JnW m w.heap.size #[.slice D1 nL k1, .slice D2 nL k2, .int .i64 0, .int .i64 z, .int .i64 cm, .slice Avals nv cvals] #[.int .u64 cu, .int .u64 cv, .int .i64 z, .int .i64 cm, .slice Ac n cc]) => x.held.at.2.five
  refine wp_region_noPanic ?_
  refine wp_region_held_drew (S := HeldS (JnW m w.heap.size #[.slice D1 nL k1, .slice D2 nL k2, .int .i64 0, .int .i64 z, .int .i64 cm, .slice Avals nv cvals] #[.int .u64 cu, .int .u64 cv, .int .i64 z, .int .i64 cm, .slice Ac n cc])) (by kernel_rfl) (by rw [hW6]; exact HeldS.mk' h6) (fun hHeld => ?_)
  rw [hW6] at hHeld ⊢
  have H6 := Lib.hid h6
  clear hW6 hM5 hc5 hb6 h6
  refine wpAnyH_run0 [true, true, true, true, true, true, true, true, true, true, true, true, true, true, true, true, false, true, true, false, true] 6 (by kernel_rfl) (by kernel_rfl) (fun _ _ _ _ h => h) (by kernel_rfl) hHeld ?_
  simp only [runOps_true, runOps_false, runOps_nil]
  repeat (first | go_big_quiet_skip | (go_big_quiet_want; go_big_quiet_op; go_big_quiet_on))
  refine wpQuiet_nil ?_
  clear hfar1 hfar2
  have hba : Below W6.heap.size W6 (W6.alloc (.cells #[] 48)) := (Below.refl _ _).alloc (Nat.le_refl _) _
  have HOE := Lib.hid (OwnV.empty W6 W6.heap.size (Nat.le_refl _))
  have HBA := Lib.hid hba
  clear hba
  refine wpAnyH_ready (rs := [16]) (by kernel_rfl) (by simp) ?_
  refine AllReadyH.cons rfl (fun K hK => ?_) (AllReadyH.nil)
  go_simp
  go_wp2
  refine hK.out _ _ (HeldS.mk' (H6.out.below HBA.out)) (fun hHeld => ?_)
  clear hK K
  obtain ⟨g6, hg6⟩ : ∃ g, W6.heap.size = g := ⟨_, rfl⟩
  obtain ⟨W7, hW7⟩ : ∃ W, W6.alloc (.cells #[] 48) = W := ⟨_, rfl⟩
  have HG6 := Lib.hid hg6
  rw [hW7] at HOE HBA hHeld
  rw [hg6] at HOE
  simp only [hW7, hg6]
  clear hW7 hg6
  have HB7 : Hid (Below g6 W6 W7) := by show Below _ _ _; rw [← HG6.out]; exact HBA.out
  have HZ7 : Hid (g6 ≤ W7.heap.size) := by have := HB7.out.size; have := HG6.out; show _ ≤ _; omega
  have HRA7 : Hid (RdP W7 Ac c) := ((HRC0.out.below HB5.out).below H6B.out).below HBA.out
  refine wpAnyH_ready (rs := [19]) (by kernel_rfl) (by simp) ?_
  refine AllReadyH.cons rfl (fun K hK => ?_) (AllReadyH.nil)
  refine ite_of rfl ?_
  refine opwp_append_vals _ _ rfl g6 (some ⟨g6, 0, none⟩) 0 0 [] rfl rfl HOE.out Ac n cc c rfl HN.out HRA7.out (by have := H60.out.1; omega) W6 HB7.out HZ7.out ?_
  intro E1 cap1 W8 HOA hB8
  simp only [Act.put, List.setIfInBounds_toArray, List.set_cons_zero, List.set_cons_succ, Nat.zero_add]
  have HB8 := Lib.hid hB8
  have HB86 : Hid (Below W6.heap.size W6 W8) := by show Below _ _ _; rw [HG6.out]; exact hB8
  clear hB8
  refine hK.out _ _ (HeldS.mk' (H6.out.below HB86.out)) (fun hHeld => ?_)
  clear hK K HOE HRA7 HB7 HZ7 HBA
  have HZ8 : Hid (g6 ≤ W8.heap.size) := by have := HB8.out.size; have := HG6.out; show _ ≤ _; omega
  have HRB8 : Hid (RdP W8 Avals vals) := ((HRV0.out.below HB5.out).below H6B.out).below HB86.out
  refine wpAnyH_ready (rs := [21]) (by kernel_rfl) (by simp) ?_
  refine AllReadyH.cons rfl (fun K hK => ?_) (AllReadyH.nil)
  refine ite_of rfl ?_
  refine opwp_append_vals _ _ rfl g6 E1 cap1 n ([] ++ c) rfl HN.out HOA.out Avals nv cvals vals rfl HNV.out HRB8.out (by have := H60.out; omega) W6 HB8.out HZ8.out ?_
  intro E2 cap2 W9 HOB hB9
  simp only [Act.put, List.setIfInBounds_toArray, List.set_cons_zero, List.set_cons_succ, List.nil_append]
  have HB9 := Lib.hid hB9
  have HB96 : Hid (Below W6.heap.size W6 W9) := by show Below _ _ _; rw [HG6.out]; exact hB9
  clear hB9
  refine hK.out _ _ (HeldS.mk' (H6.out.below HB96.out)) (fun hHeld => ?_)
  clear hK K HOA HB86 HRB8 HZ8 HB8
  refine wpAnyH_ready (rs := [22]) (by kernel_rfl) (by simp) ?_
  refine AllReadyH.cons rfl (fun K hK => ?_) (AllReadyH.nil)
  go_simp
  go_wp2
  refine hK.out _ _ (HeldS.mk' (H6.out.below HB96.out)) (fun hHeld => ?_)
  clear hK K
  have HBX : Hid (Below W9.heap.size W9 (W9.alloc (.cells #[.slice D1 nL k1, .slice D2 nL k2, .int .i64 0, .int .i64 z, .int .i64 cm, .slice E2 (n + nv) cap2] 41))) := (Below.refl _ _).alloc (Nat.le_refl _) _
  have HAX := Lib.hid (At.new W9 #[.slice D1 nL k1, .slice D2 nL k2, .int .i64 0, .int .i64 z, .int .i64 cm, .slice E2 (n + nv) cap2] 41)
  refine wpAnyH_ready (rs := [23]) (by kernel_rfl) (by simp) ?_
  refine AllReadyH.cons rfl (fun K hK => ?_) (AllReadyH.nil)
  go_simp
  go_wp2
  refine hK.out _ _ (HeldS.mk' ((H6.out.below HB96.out).below HBX.out)) (fun hHeld => ?_)
  clear hK K
  refine wpAnyH_run0 [false, false, false, false, false, false, false, false, false, false, false, false, false, false, false, false, false, false, false, false, false, false, false, false, true] 0 (by kernel_rfl) (by kernel_rfl) (fun _ _ _ _ h => h) (by kernel_rfl) hHeld ?_
  simp only [runOps_true, runOps_false, runOps_nil]
  repeat (first | go_big_quiet_skip | (go_big_quiet_want; go_big_quiet_op; go_big_quiet_on))
  refine wpQuiet_nil ?_
  refine wpAnyH_done (by kernel_rfl) ?_ _
  refine NoPanic.normal ?_
  clear hne hHeld
  obtain ⟨ma, hma⟩ : ∃ g, W9.heap.size = g := ⟨_, rfl⟩
  obtain ⟨WA, hWA⟩ : ∃ W, W9.alloc (.cells #[.slice D1 nL k1, .slice D2 nL k2, .int .i64 0, .int .i64 z, .int .i64 cm, .slice E2 (n + nv) cap2] 41) = W := ⟨_, rfl⟩
  have HMA := Lib.hid hma
  rw [hWA] at HBX HAX
  rw [hma] at HAX
  simp only [hWA, hma]
  clear hWA hma
  have HB5A : Hid (Below w5.heap.size w5 WA) := keep1 (keep1 H6B.out HB96.out) HBX.out
  have HZ : Hid (w5.heap.size ≤ g6 ∧ g6 ≤ ma ∧ ma < WA.heap.size) := ⟨by have := H6B.out.size; have := HG6.out; omega, by have := HB96.out.size; have := HG6.out; have := HMA.out; omega, HAX.out.lt⟩
  have HJ : Hid (MJ w WA b o m ma (w.heap.size + 1) S1 S2 TB2 (ma :: (blk D1 ++ blk D2)) s part rep cu cv cm p0 p1 c vals Avals nv cvals E2 (n + nv) cap2) := by
    obtain ⟨q1, q2, ht, hR1, hR2, hTB⟩ := HDD.out
    refine ⟨HB1.out.below HB5A.out, HO1.out.below HB5A.out, HDM.out.below HB5A.out, .inr ⟨rfl, un, vn, L, D1, k1, D2, k2, q1, q2, ht, ?_, Rd.below hR1 HB5A.out, Rd.below hR2 HB5A.out, rfl⟩, hp5.below HB5A.out, keep1 HB5.out HB5A.out⟩
    rw [HNL.out, HZZ.out]
    exact HAX.out
  have HTA : Hid (Apart S1 (ma :: (blk D1 ++ blk D2))) := by
    obtain ⟨_, _, _, _, _, hTB⟩ := HDD.out
    intro j hj hm
    have h1 := (HS1.out j hj).2
    rcases List.mem_cons.1 hm with rfl | hm
    · have := HZ.out; have := HZ45.out; omega
    · have := (HT2.out j (by rw [hTB]; simp only [List.mem_cons]; exact .inr hm)).1; omega
  have HAP : Hid (Apart S1 S2 ∧ Apart S1 TB2 ∧ w.heap.size + 1 ∉ S1) := ⟨fun j hj hm => by have := (HS1.out j hj).2; have := (HS2.out j hm).1; omega, fun j hj hm => by have := (HS1.out j hj).2; have := (HT2.out j hm).1; omega, fun hm => by have := (HS1.out _ hm).1; have := HRPL.out; omega⟩
  have HRV : Hid (RdP WA E2 (c ++ vals)) := HOB.out.rd.below HBX.out
  have HBLK : Hid (∀ g, E2 = some g → g.block ∉ S1) := fun g hg hm => by have := (HOB.out.base_le g hg).1; have := (HS1.out _ hm).2; have := HZ.out; have := HZ45.out; omega
  clear HB5A HAX HBX HB96 HB9 HOB HDD HNL H6 H6B HG6 HMA hp5 HB1 HO1 HDM
  go_wp2_with fail
  refine (lsjoin_v b o S1 S2 part rep cu cv s cm c vals WA HJ.out.hb HJ.out.ho HAP.out.1 HVA.out HVB.out HSUM.out).mono ?_
  rintro e wB ⟨rfl, ⟨S1', hg, hX, hF⟩, hO⟩
  have HBB : Hid (Below w.heap.size w wB) := hF.below' HJ.out.bl HJ.out.bl.size fun j hj => ⟨HSW.out j hj, HJ.out.hb.lt j hj⟩
  have HX := Lib.hid hX
  have HO := Lib.hid hO
  have HMB := Lib.hid (HJ.out.hm.frame hF HAP.out.2.1.symm)
  have HAB := Lib.hid (HJ.out.ha.frame hF HTA.out.symm)
  have HRB : Hid (RdP wB E2 (c ++ vals)) := Frame.rd hF HRV.out HBLK.out
  have HPB := Lib.hid (hF.at HJ.out.hp HAP.out.2.2)
  have fB := HPB.out.two
  have lB := HPB.out.lt
  clear hg hX hF hO HJ HRV HBLK
  have HPS := Lib.hid HC.out.ps
  have HMO := Lib.hid HP1.out.m
  have hpr : ∀ a, 0 < a → a ≤ 9223372036854775808 → -9223372036854775808 ≤ part a ∧ part a ≤ 9223372036854775807 := fun a h0 h1 => by have := HPS.out.rng a h0 h1; omega
  have HPR := Lib.hid hpr
  clear hpr
  have HQ1 := Lib.hid (lsquant_k b S1' part rep stand cu cv s cm (c ++ vals) _ _ p0 p1 wB HX.out HPS.out HVV.out HPQ.out.1.1 HPQ.out.1.2 HPQ.out.2.1 HPQ.out.2.2)
  have HQ2 : Hid (∀ W, Below wB.heap.size wB W → Calls Tryz.prog 22 #[.pointer (some ⟨ma, 0, none⟩), .agg #[.int .u64 p0, .int .u64 p1]] W fun e w' => e = .returned (.tuple #[.int .i64 (quantL part stand s cm (c ++ vals) (eLow (c ++ vals)) (eHigh (c ++ vals)) p0 p1).1, .int .i64 (quantL part stand s cm (c ++ vals) (eLow (c ++ vals)) (eHigh (c ++ vals)) p0 p1).2]) ∧ Below W.heap.size W w') := fun W hW => by
    obtain ⟨lows, reps, hBI, hPO, hST⟩ := (HAB.out.below hW).get HC.out
    exact rquant_any ma lows reps 0 s cm E2 (n + nv) cap2 part stand (c ++ vals) p0 p1 W hBI hPO hST HLAB.out (by have := H60.out; omega) (HRB.out.below hW) HVV.out HPR.out HMO.out HPQ.out.1.1 HPQ.out.1.2 HPQ.out.2.1 HPQ.out.2.2
  obtain ⟨q, hq⟩ : ∃ q, quantL part stand s cm (c ++ vals) (eLow (c ++ vals)) (eHigh (c ++ vals)) p0 p1 = q := ⟨_, rfl⟩
  rw [hq] at HQ1 HQ2
  obtain ⟨⟨r1, r2⟩, hqq⟩ : ∃ r, q = r := ⟨_, rfl⟩
  rw [hqq] at HQ1 HQ2
  dsimp only at HQ1 HQ2
  have e1 : (r1 == r1) = true := beq_self_eq_true r1
  have e2 : (r2 == r2) = true := beq_self_eq_true r2
  clear hq hqq
  go_wp2_with fail
  refine HQ1.out.mono ?_
  rintro e wC ⟨rfl, hb⟩
  have HC1 := Lib.hid hb
  have fC := (HPB.out.below hb).two
  have lC := (HPB.out.below hb).lt
  clear hb HQ1 fB lB
  go_wp2_with fail
  refine (HQ2.out wC HC1.out).mono ?_
  rintro e wD ⟨rfl, hb⟩
  have HD1 := Lib.hid (keep1 HC1.out hb)
  clear hb HQ2 HC1 fC lC HPB
  go_wp2_with fail
  obtain ⟨lows, reps, hBI, hPO, _⟩ := (HAB.out.below HD1.out).get HC.out
  refine (lssame_any b S1' part rep cu cv s cm (c ++ vals) ma lows reps 0 E2 (n + nv) cap2 wD (HX.out.below HD1.out) hBI hPO HLAB.out (by have := H60.out; omega) (HRB.out.below HD1.out) HVV.out).mono ?_
  rintro e wE ⟨rfl, hb⟩
  have HE1 := Lib.hid (keep1 HD1.out hb)
  clear hb HD1 hBI hPO
  go_wp2_with fail
  obtain ⟨lows2, reps2, hBI, hPO, _⟩ := (HMB.out.below HE1.out).get HC.out
  refine (lssame_any o S2 part rep cu cv s cm vals m lows2 reps2 0 Avals nv cvals wE (HO.out.below HE1.out) hBI hPO HNV.out (by have := H60.out; omega) ((HRV0.out.below HBB.out).below HE1.out) HVB.out).mono ?_
  rintro e wF ⟨rfl, hb⟩
  have HF1 := Lib.hid (keep1 HBB.out (keep1 HE1.out hb))
  clear hb HE1 hBI hPO
  go_wp2
  go_ret
  exact ⟨rfl, HF1.out⟩
end Go.Proofs.YtondkkhagbcadaaGreat
