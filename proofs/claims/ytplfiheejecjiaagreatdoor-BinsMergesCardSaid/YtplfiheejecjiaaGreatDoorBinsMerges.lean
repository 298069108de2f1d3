/- The walk of the statement BinsMerges. -/
import Derived.Test.YtplfiheejecjiaaGreatDoorProg
import Derived.Test.YtplfiheejecjiaaGreatDoorOpen
import Derived.Test.YtplfiheejecjiaaGreatDoorSame13
import Derived.Test.YtplfiheejecjiaaGreatDoorCase
import Derived.Test.YtplfiheejecjiaaGreatDoorValRow
namespace Go.Proofs.YtplfiheejecjiaaGreatDoor
open Go.RowKit

/-- Both bins, the other's document and all values' document. -/
structure MF (w W : World) (b o m ma : Nat) (S1 S2 TB2 TB3 : List Nat) (k s : Bool) (part : Nat → Int) (rep : Int → Int) (u v d most : Int) (c vals : List (Int × Int)) (Ab : Option Addr) (lb cb : Nat) (Aa : Option Addr) (la ca : Nat) : Prop where
  hb : BnV W b S1 k part rep s most c
  ho : BnV W o S2 k part rep s most vals
  hm : DocAt W m TB2 u v d (sideZ s) most Ab lb cb
  ha : DocAt W ma TB3 u v d (sideZ s) most Aa la ca
  bl : Below w.heap.size w W
theorem MF.below {w W W' : World} {b o m ma : Nat} {S1 S2 TB2 TB3 : List Nat} {k s : Bool} {part : Nat → Int} {rep : Int → Int} {u v d most : Int} {c vals : List (Int × Int)} {Ab Aa : Option Addr} {lb cb la ca : Nat} (h : MF w W b o m ma S1 S2 TB2 TB3 k s part rep u v d most c vals Ab lb cb Aa la ca) (hb : Below W.heap.size W W') :
    MF w W' b o m ma S1 S2 TB2 TB3 k s part rep u v d most c vals Ab lb cb Aa la ca :=
  ⟨h.hb.below hb, h.ho.below hb, h.hm.below hb, h.ha.below hb, keep1 h.bl hb⟩
set_option maxRecDepth 100000 in
set_option maxHeartbeats 4000000 in
theorem binsMerges_walk (w : World) (hTens : TensAt w) (cu cv cd cs cm : Int) (bdcu : 0 ≤ cu ∧ cu < 18446744073709551616) (bdcv : 0 ≤ cv ∧ cv < 18446744073709551616) (bdcd : -9223372036854775808 ≤ cd ∧ cd ≤ 9223372036854775807) (bdcs : -9223372036854775808 ≤ cs ∧ cs ≤ 9223372036854775807) (bdcm : -9223372036854775808 ≤ cm ∧ cm ≤ 9223372036854775807) (Ac : Option Addr) (cc : Nat) (c : List (Int × Int)) (rc : Rd w Ac (c.flatMap fun x => [.int .i64 x.1, .int .u64 x.2])) (bdc : ∀ x ∈ c, (-9223372036854775808 ≤ x.1 ∧ x.1 ≤ 9223372036854775807) ∧ (0 ≤ x.2 ∧ x.2 < 18446744073709551616)) (lc : c.length ≤ 9223372036854775807) (Avals : Option Addr) (cvals : Nat) (vals : List (Int × Int)) (rvals : Rd w Avals (vals.flatMap fun x => [.int .i64 x.1, .int .u64 x.2])) (bdvals : ∀ x ∈ vals, (-9223372036854775808 ≤ x.1 ∧ x.1 ≤ 9223372036854775807) ∧ (0 ≤ x.2 ∧ x.2 < 18446744073709551616)) (lvals : vals.length ≤ 9223372036854775807) (most : Int) (bdmost : -9223372036854775808 ≤ most ∧ most ≤ 9223372036854775807) :
    Calls Tryz.prog 5 #[.agg #[.int .u64 cu, .int .u64 cv, .int .i64 cd, .int .i64 cs, .int .i64 cm, .slice Ac c.length cc], .slice Avals vals.length cvals, .int .i64 most] w fun e w' => e = .returned (.bool true) ∧ Below w.heap.size w w' := by
  have HRV0 : Hid (RdP w Avals vals) := rvals
  have HCV : Hid (okP vals) := bdvals
  obtain ⟨nv, hnv⟩ : ∃ n, vals.length = n := ⟨_, rfl⟩
  have HNV := Lib.hid hnv
  rw [hnv]
  clear rvals bdvals lvals hnv bdmost
  have HTN := Lib.hid hTens
  have HC0 : Hid (okP c) := bdc
  have HRC0 : Hid (RdP w Ac c) := rc
  obtain ⟨n, hn⟩ : ∃ n, c.length = n := ⟨_, rfl⟩
  have HN := Lib.hid hn
  have HUV := Lib.hid (And.intro bdcu bdcv)
  rw [hn]
  have hba : Below w.heap.size w (w.alloc (.cells #[.int .u64 cu, .int .u64 cv, .int .i64 cd, .int .i64 cs, .int .i64 cm, .slice Ac n cc] 27)) := (Below.refl _ _).alloc (Nat.le_refl _) _
  have am : At (w.alloc (.cells #[.int .u64 cu, .int .u64 cv, .int .i64 cd, .int .i64 cs, .int .i64 cm, .slice Ac n cc] 27)) w.heap.size #[.int .u64 cu, .int .u64 cv, .int .i64 cd, .int .i64 cs, .int .i64 cm, .slice Ac n cc] 27 := At.new' _ _ _ rfl
  clear hTens bdcu bdcv bdcd bdcs bdcm rc bdc lc hn
  go_enter Tryz.func5, Tryz.ntmps5
  go_wp2_with fail
  obtain ⟨W1, hW1⟩ : ∃ W, w.alloc (.cells #[.int .u64 cu, .int .u64 cv, .int .i64 cd, .int .i64 cs, .int .i64 cm, .slice Ac n cc] 27) = W := ⟨_, rfl⟩
  obtain ⟨rb, hrb⟩ : ∃ r, w.heap.size = r := ⟨_, rfl⟩
  rw [hW1] at hba am
  rw [hrb] at am
  simp only [hW1, hrb]
  clear hW1 hrb
  refine (alive_any W1 (HTN.out.below hba)).mono ?_
  rintro e w2 ⟨rfl, hb⟩
  have HB2 := Lib.hid (keep1 hba hb)
  have a2 := am.below hb
  have HAM := Lib.hid a2
  have f2 := a2.six
  have l2 := a2.lt
  clear hba hb am a2
  go_wp2_with fail

  obtain ⟨W3, hW3⟩ : ∃ W, w2.alloc (.cells #[.int .u64 cu, .int .u64 cv, .int .i64 cd, .int .i64 cs, .int .i64 cm, .slice Avals nv cvals] 27) = W := ⟨_, rfl⟩
  have hd1 : At W3 w2.heap.size #[.int .u64 cu, .int .u64 cv, .int .i64 cd, .int .i64 cs, .int .i64 cm, .slice Avals nv cvals] 27 := by rw [← hW3]; exact At.new' _ _ _ rfl
  have hb3 : Below w2.heap.size w2 W3 := by rw [← hW3]; exact (Below.refl _ _).alloc (Nat.le_refl _) _
  obtain ⟨db, hdb⟩ : ∃ r, w2.heap.size = r := ⟨_, rfl⟩
  rw [hdb] at hd1
  simp only [hdb, hW3]
  have HB3 := Lib.hid (keep1 HB2.out hb3)
  have hc3 := HAM.out.below hb3
  have HCB : Hid (rb < db) := by rw [← hdb]; exact HAM.out.lt
  have HDB : Hid (w.heap.size ≤ db) := by rw [← hdb]; exact HB2.out.size
  clear hW3 hb3 hdb f2 l2 HAM
  refine (build_any cu cv cd cs cm Ac n cc c W3 (HTN.out.below HB3.out) HUV.out.1 HUV.out.2 HN.out (HRC0.out.below HB3.out) HC0.out).mono ?_
  rintro e w4 (⟨rfl, hb⟩ | ⟨hp, k, s, part, rep, stand, b, m1, S1, TB1, rfl, hc, rfl, hB⟩)
  · have HB4 := Lib.hid (keep1 HB3.out hb)
    have hd4 := hd1.below hb
    have f4 := hd4.six
    have l4 := hd4.lt
    clear hb hd1 hc3 HB3 HB2 hd4
    go_wp2_with fail
    refine (build_any cu cv cd cs cm Avals nv cvals vals w4 (HTN.out.below HB4.out) HUV.out.1 HUV.out.2 HNV.out (HRV0.out.below HB4.out) HCV.out).mono ?_
    rintro e w5 (⟨rfl, hb⟩ | ⟨hp, k, s, part, rep, stand, b, m1, S1, TB1, rfl, hc, rfl, hB⟩)
    · have HB5 := Lib.hid (keep1 HB4.out hb)
      clear hb HB4 f4 l4
      go_wp2
      go_ret
      exact ⟨rfl, HB5.out⟩
    · have HB5 := Lib.hid (keep1 HB4.out (Two.below hB))
      clear hp hc hB HB4 f4 l4
      go_wp2
      go_ret
      exact ⟨rfl, HB5.out⟩
  have HB4 := Lib.hid (keep1 HB3.out (Two.below hB))
  have HP1 := Lib.hid hp
  have H1 := Lib.hid hB
  have HC := Lib.hid hc
  have hd4 := hd1.below (Two.below hB)
  have hc4 := hc3.below (Two.below hB)
  have f4 := hd4.six
  have l4 := hd4.lt
  have HZ3 : Hid (db < W3.heap.size) := hd1.lt
  clear hp hB hc hd1 hc3 HB2
  go_wp2_with fail
  refine (build_any cu cv cd (sideZ s) cm Avals nv cvals vals w4 (HTN.out.below HB4.out) HUV.out.1 HUV.out.2 HNV.out (HRV0.out.below HB4.out) HCV.out).mono ?_
  rintro e w5 (⟨rfl, hb⟩ | ⟨hp, k2, s2, part2, rep2, stand2, o, m, S2, TB2, hs2, hc2, rfl, hB⟩)
  · have HB5 := Lib.hid (keep1 HB4.out hb)
    clear hb HB4 f4 l4 hd4 hc4
    go_wp2
    go_ret
    exact ⟨rfl, HB5.out⟩
  obtain rfl : s = s2 := by cases s <;> cases s2 <;> simp [sideZ] at hs2 ⊢
  obtain ⟨rfl, rfl, rfl, rfl⟩ := Cs.one HC.out hc2
  have HB5 := Lib.hid (keep1 HB4.out (Two.below hB))
  have HP2 := Lib.hid hp
  have H2 := Lib.hid hB
  have hd5 := hd4.below (Two.below hB)
  have hc5 := hc4.below (Two.below hB)
  have f5 := hc5.six
  have l5 := hc5.lt
  have HVA := Lib.hid (HP1.out.vok HC0.out)
  have HVB := Lib.hid (HP2.out.vok HCV.out)
  have HSUM : Hid (sumP c + sumP vals ≤ 9223372036854775807) := by have := HP1.out.sum; have := HP2.out.sum; show _ ≤ _; omega
  have HVV := Lib.hid (HVA.out.app HVB.out HSUM.out)
  have H60 : Hid (n ≤ 60 ∧ nv ≤ 60) := ⟨by have := HP1.out.n; have := HN.out; omega, by have := HP2.out.n; have := HNV.out; omega⟩
  have HLAB : Hid ((c ++ vals).length = n + nv) := by show _ = _; rw [List.length_append, HN.out, HNV.out]
  have HB1 : Hid (BnV w5 b S1 k part rep s cm c) := BnV.below (Two.x H1.out) (Two.below H2.out)
  clear hp hB hc2 hs2 f4 l4 hd4 hc4
  go_wp2_with fail
  refine (dnew_yes cu cv cd (sideZ s) cm k part rep stand w5 HC.out).mono ?_
  rintro e w6 ⟨⟨ma, rfl, TB3, hTB, hD⟩, hb⟩
  have HB6 := Lib.hid (keep1 HB5.out hb)
  have HD6 := Lib.hid hD
  have HB61 := Lib.hid (HB1.out.below hb)
  have HO6 := Lib.hid (BnV.below (Two.x H2.out) hb)
  have HM6 := Lib.hid (DocAt.below (Two.y H2.out) hb)
  have hd6 := hd5.below hb
  have hc6 := hc5.below hb
  have hz6 := hb.size
  have HAP : Hid (Apart S1 S2 ∧ Apart S1 TB2 ∧ Apart S1 TB3 ∧ (∀ j ∈ S1, db < j ∧ j < w4.heap.size) ∧ (∀ j ∈ S2, db < j ∧ w4.heap.size ≤ j ∧ j < w5.heap.size) ∧ (∀ j ∈ TB2, db < j ∧ w4.heap.size ≤ j ∧ j < w5.heap.size) ∧ (∀ j ∈ ma :: TB3, db < j ∧ w5.heap.size ≤ j ∧ j < w6.heap.size)) := by
    have z3 := HZ3.out
    have z4 := (Two.below H1.out).size
    have z5 := (Two.below H2.out).size
    have a1 := Two.ws H1.out
    have a2 := Two.ws H2.out
    have a3 := Two.wt H2.out
    have a4 : ∀ j ∈ ma :: TB3, w5.heap.size ≤ j ∧ j < w6.heap.size := fun j hj => ⟨hTB j hj, by
      simp only [List.mem_cons] at hj
      rcases hj with rfl | hj
      · exact hD.lt
      · exact hD.lts j hj⟩
    refine ⟨fun j hj hn => ?_, fun j hj hn => ?_, fun j hj hn => ?_, fun j hj => ?_, fun j hj => ?_, fun j hj => ?_, fun j hj => ?_⟩
    · have := (a1 j hj).2; have := (a2 j hn).1; omega
    · have := (a1 j hj).2; have := (a3 j hn).1; omega
    · have := (a1 j hj).2; have := (a4 j (by simp [hn])).1; omega
    · have := a1 j hj; omega
    · have := a2 j hj; omega
    · have := a3 j hj; omega
    · have := a4 j hj; omega
  have HS1 : Hid (∀ j ∈ S1, w.heap.size ≤ j) := fun j hj => Nat.le_trans HB3.out.size ((Two.ws H1.out) j hj).1
  obtain ⟨lows, reps, hBI, _, _⟩ := hD.get HC.out
  have HBI := Lib.hid hBI
  have HDD := Lib.hid hd6
  have HCC := Lib.hid hc6
  have HZ45 : Hid (w4.heap.size ≤ w5.heap.size) := (Two.below H2.out).size
  have f6 := hc6.six
  have l6 := hc6.lt
  have HOE := Lib.hid (OwnV.empty w6 w6.heap.size (Nat.le_refl _))
  have hbe : Below w6.heap.size w6 (w6.alloc (.cells #[] 44)) := (Below.refl _ _).alloc (Nat.le_refl _) _
  have HBE := Lib.hid hbe
  have HRA6 := Lib.hid (RdP.below (HRC0.out.below HB6.out) hbe)
  have HRB6 := Lib.hid (HRV0.out.below HB6.out)
  have h60 := H60.out.1
  have h61 := H60.out.2
  clear hTB hD hb hd5 hc5 f5 l5 H1 H2 HB1 hBI hbe hz6 HZ3
  go_wp2_with (first | (at_builtin; refine wpList_append_vals rfl _ _ rfl w6.heap.size (some ⟨w6.heap.size, 0, none⟩) 0 0 [] rfl rfl HOE.out Ac n cc c rfl HN.out HRA6.out (by omega) w6 HBE.out (by simp) ?_; intro A1 cap1 W1 HO1 hB1; simp only [Nat.zero_add]) | (at_builtin; refine wpList_append_vals rfl _ _ rfl w6.heap.size A1 cap1 n ([] ++ c) rfl HN.out HO1.out Avals nv cvals vals rfl HNV.out (RdP.below HRB6.out hB1) (by omega) w6 hB1 hB1.size ?_; intro A2 cap2 W2 HO2 hB2; have g1 := At.six (HBI.out.below hB2); have g2 := At.lt (HBI.out.below hB2); have g3 := (HDD.out.below hB2).six; have g4 := (HDD.out.below hB2).lt; have g5 : db ≠ ma := (fun e => by have := (HAP.out.2.2.2.2.2.2 ma (by simp)).1; omega); have g6 : ma ≠ db := fun e => g5 e.symm) | fail)
  obtain ⟨W7, hW7⟩ : ∃ W, ((W2.setCell ⟨ma, 5, none⟩ (.slice A2 (n + nv) cap2)).setCell ⟨db, 5, none⟩ (.slice none 0 0)).setCell ⟨db, 4, none⟩ (.int .i64 most) = W := ⟨_, rfl⟩
  simp only [hW7]
  have hFm : Frame [ma] W2 (W2.setCell ⟨ma, 5, none⟩ (.slice A2 (n + nv) cap2)) := Frame.set [ma] W2 ma 5 _ (by simp)
  have hFd : Frame [db] (W2.setCell ⟨ma, 5, none⟩ (.slice A2 (n + nv) cap2)) W7 := by rw [← hW7]; exact ((Frame.refl [db] _).setc (.inl (by simp)) 5 _).setc (.inl (by simp)) 4 _
  have hap := HAP.out
  have hdm : db ≠ ma := fun e => by have := (hap.2.2.2.2.2.2 ma (by simp)).1; omega
  have hd7 : At W7 db #[.int .u64 cu, .int .u64 cv, .int .i64 cd, .int .i64 (sideZ s), .int .i64 most, .slice none 0 0] 27 := by rw [← hW7]; exact ((hFm.at (HDD.out.below hB2) (by simpa using hdm)).set_any 5 (.slice none 0 0) rfl).set_any 4 (.int .i64 most) rfl
  have nb : ∀ j, db < j → j ∉ [db] := fun j hj hn => by simp at hn; omega
  have nm : ∀ j, j < w5.heap.size → j ∉ [ma] := fun j hj hn => by have := (hap.2.2.2.2.2.2 ma (by simp)).2.1; simp at hn; omega
  have hz5 : w4.heap.size ≤ w5.heap.size := by
    have := hap.2.2.2.2.1
    exact HZ45.out
  have H7 : Hid (MF w W7 b o m ma S1 S2 TB2 TB3 k s part rep cu cv cd cm c vals Avals nv cvals A2 (n + nv) cap2) := by
    refine ⟨?_, ?_, ?_, ?_, ?_⟩
    · exact ((HB61.out.below hB2).frame hFm fun j hj => nm j (by have := (hap.2.2.2.1 j hj).2; omega)).frame hFd fun j hj => nb j (hap.2.2.2.1 j hj).1
    · exact ((HO6.out.below hB2).frame hFm fun j hj => nm j (hap.2.2.2.2.1 j hj).2.2).frame hFd fun j hj => nb j (hap.2.2.2.2.1 j hj).1
    · exact ((HM6.out.below hB2).frame hFm fun j hj => nm j (hap.2.2.2.2.2.1 j hj).2.2).frame hFd fun j hj => nb j (hap.2.2.2.2.2.1 j hj).1
    · exact ((HD6.out.below hB2).vals A2 (n + nv) cap2).frame hFd fun j hj => nb j (hap.2.2.2.2.2.2 j (by simp [hj])).1
    · rw [← hW7]
      exact (((keep1 HB6.out hB2).setCell (show w.heap.size ≤ ma by have := (hap.2.2.2.2.2.2 ma (by simp)).1; have := HDB.out; omega) _).setCell HDB.out _).setCell HDB.out _
  have hge : ∀ g, A2 = some g → w6.heap.size ≤ g.block := fun g hg => (HO2.out.base_le g hg).1
  have HBL : Hid (∀ g, A2 = some g → g.block ∉ S1) := fun g hg hm => by
    have h1 := hge g hg
    have h2 := HB61.out.lt _ hm
    omega
  have HA7 : Hid (RdP W7 A2 (c ++ vals)) := by
    refine Frame.rd hFd (Frame.rd hFm HO2.out.rd fun g hg hn => ?_) fun g hg hn => ?_
    · have h1 := hge g hg
      have h2 := (hap.2.2.2.2.2.2 ma (by simp)).2.2
      simp at hn
      omega
    · have h1 := hge g hg
      have h2 := HDD.out.lt
      simp at hn
      omega
  have f7 := hd7.six
  have l7 := hd7.lt
  have hc7 : ∃ vs, At W7 rb #[.int .u64 cu, .int .u64 cv, .int .i64 cd, .int .i64 (sideZ s), .int .i64 cm, .slice Ac n cc] 27 := ⟨0, hFd.at (hFm.at (HCC.out.below hB2) (by have := HCB.out; have := (hap.2.2.2.2.2.2 ma (by simp)).1; simp; omega)) (by have := HCB.out; simp; omega)⟩
  obtain ⟨_, hc7⟩ := hc7
  clear hFm hFd hap hdm nb nm hz5 hge hW7 g1 g2 g3 g4 g5 g6 HO2 hB2 hB1 HO1 HOE HBE HRA6 HRB6 HB61 HO6 HM6 HD6 HBI HDD HCC hd6 hc6 f6 l6
  refine (build_any cu cv cd (sideZ s) most none 0 0 [] W7 (HTN.out.below H7.out.bl) HUV.out.1 HUV.out.2 rfl (Rd.nil _ _) (fun x hx => by simp at hx)).mono ?_
  rintro e w8 (⟨rfl, hb⟩ | ⟨hp3, k3, s3, part3, rep3, stand3, u, m3, S3, TB4, hs3, hc3, rfl, hB3⟩)
  · have H9 := Lib.hid (H7.out.below hb)
    have HA9 := Lib.hid (HA7.out.below hb)
    clear hb H7 HA7 f7 l7 hd7 hc7
    have HL := Lib.hid (blike_v b o S1 S2 k k part part rep rep s cm cm c vals w8 H9.out.hb H9.out.ho)
    rw [show decide (cm = cm) = true from decide_eq_true rfl] at HL
    go_wp2_with fail
    refine HL.out.mono ?_
    rintro e w10 ⟨rfl, hb⟩
    have H10 := Lib.hid (H9.out.below hb)
    have HA10 := Lib.hid (HA9.out.below hb)
    clear hb H9 HA9 HL
    go_wp2_with fail
    refine (bmerge_v b o S1 S2 k k part rep rep s cm c vals w10 H10.out.hb H10.out.ho HAP.out.1 HVA.out HVB.out HSUM.out).mono ?_
    rintro e w11 ⟨rfl, ⟨S1', hg, hX, hF⟩, hO⟩
    have HB11 : Hid (Below w.heap.size w w11) := hF.below' H10.out.bl H10.out.bl.size fun j hj => ⟨HS1.out j hj, H10.out.hb.lt j hj⟩
    have HX := Lib.hid hX
    have HO := Lib.hid hO
    have HM11 := Lib.hid (H10.out.hm.frame hF HAP.out.2.1.symm)
    have HD11 := Lib.hid (H10.out.ha.frame hF HAP.out.2.2.1.symm)
    have HA11 : Hid (RdP w11 A2 (c ++ vals)) := Frame.rd hF HA10.out HBL.out
    clear hg hX hF hO H10 HA10
    go_wp2_with fail
    obtain ⟨lows, reps, hBI, hPO, _⟩ := HD11.out.get HC.out
    refine (bsame_any b S1' k s part rep cm (c ++ vals) ma lows reps cd A2 (n + nv) cap2 w11 HX.out hBI hPO HLAB.out (by have := H60.out; omega) HA11.out HVV.out).mono ?_
    rintro e w12 ⟨rfl, hb⟩
    have HB12 := Lib.hid (keep1 HB11.out hb)
    have HO12 := Lib.hid (HO.out.below hb)
    have HM12 := Lib.hid (HM11.out.below hb)
    clear hb HB11 HX HO HM11 HD11 HA11 hBI hPO
    go_wp2_with fail
    obtain ⟨lows2, reps2, hBI, hPO, _⟩ := HM12.out.get HC.out
    refine (bsame_any o S2 k s part rep cm vals m lows2 reps2 cd Avals nv cvals w12 HO12.out hBI hPO HNV.out (by have := H60.out; omega) (HRV0.out.below HB12.out) HVB.out).mono ?_
    rintro e w13 ⟨rfl, hb⟩
    have HB13 := Lib.hid (keep1 HB12.out hb)
    clear hb HB12 HO12 HM12 hBI hPO
    go_wp2
    go_ret
    exact ⟨rfl, HB13.out⟩
  obtain rfl : s = s3 := by cases s <;> cases s3 <;> simp [sideZ] at hs3 ⊢
  have hbe8 := Two.below hB3
  have H8 := Lib.hid (H7.out.below hbe8)
  have HA8 := Lib.hid (HA7.out.below hbe8)
  have HU := Lib.hid (Two.x hB3)
  have hc8 := hc7.below hbe8
  have f8 := hc8.six
  have l8 := hc8.lt
  clear hbe8 hB3 hp3 hc3 hs3 H7 HA7 f7 l7 hd7 hc7
  by_cases hmm : most = cm
  · have q1 : (most == cm) = true := beq_iff_eq.2 hmm
    have q2 : (most != cm) = false := by rw [bne, q1]; rfl
    have H9 := H8
    have HA9 := HA8
    clear H8 HA8 HU
    have HL := Lib.hid (blike_v b o S1 S2 k k part part rep rep s cm cm c vals w8 H9.out.hb H9.out.ho)
    rw [show decide (cm = cm) = true from decide_eq_true rfl] at HL
    go_wp2_with fail
    refine HL.out.mono ?_
    rintro e w10 ⟨rfl, hb⟩
    have H10 := Lib.hid (H9.out.below hb)
    have HA10 := Lib.hid (HA9.out.below hb)
    clear hb H9 HA9 HL
    go_wp2_with fail
    refine (bmerge_v b o S1 S2 k k part rep rep s cm c vals w10 H10.out.hb H10.out.ho HAP.out.1 HVA.out HVB.out HSUM.out).mono ?_
    rintro e w11 ⟨rfl, ⟨S1', hg, hX, hF⟩, hO⟩
    have HB11 : Hid (Below w.heap.size w w11) := hF.below' H10.out.bl H10.out.bl.size fun j hj => ⟨HS1.out j hj, H10.out.hb.lt j hj⟩
    have HX := Lib.hid hX
    have HO := Lib.hid hO
    have HM11 := Lib.hid (H10.out.hm.frame hF HAP.out.2.1.symm)
    have HD11 := Lib.hid (H10.out.ha.frame hF HAP.out.2.2.1.symm)
    have HA11 : Hid (RdP w11 A2 (c ++ vals)) := Frame.rd hF HA10.out HBL.out
    clear hg hX hF hO H10 HA10
    go_wp2_with fail
    obtain ⟨lows, reps, hBI, hPO, _⟩ := HD11.out.get HC.out
    refine (bsame_any b S1' k s part rep cm (c ++ vals) ma lows reps cd A2 (n + nv) cap2 w11 HX.out hBI hPO HLAB.out (by have := H60.out; omega) HA11.out HVV.out).mono ?_
    rintro e w12 ⟨rfl, hb⟩
    have HB12 := Lib.hid (keep1 HB11.out hb)
    have HO12 := Lib.hid (HO.out.below hb)
    have HM12 := Lib.hid (HM11.out.below hb)
    clear hb HB11 HX HO HM11 HD11 HA11 hBI hPO
    go_wp2_with fail
    obtain ⟨lows2, reps2, hBI, hPO, _⟩ := HM12.out.get HC.out
    refine (bsame_any o S2 k s part rep cm vals m lows2 reps2 cd Avals nv cvals w12 HO12.out hBI hPO HNV.out (by have := H60.out; omega) (HRV0.out.below HB12.out) HVB.out).mono ?_
    rintro e w13 ⟨rfl, hb⟩
    have HB13 := Lib.hid (keep1 HB12.out hb)
    clear hb HB12 HO12 HM12 hBI hPO
    go_wp2
    go_ret
    exact ⟨rfl, HB13.out⟩
  have q1 : (most == cm) = false := beq_eq_false_iff_ne.2 hmm
  have q2 : (most != cm) = true := by rw [bne, q1]; rfl
  have HMM := Lib.hid fun W (hW : Below w8.heap.size w8 W) => bmerge_vmatch b u S1 S3 k k3 part part3 rep rep3 s cm most c [] W (H8.out.hb.below hW) (HU.out.below hW) (fun e => hmm e.symm)
  have HLK := Lib.hid fun W (hW : Below w8.heap.size w8 W) => blike_v b u S1 S3 k k3 part part3 rep rep3 s cm most c [] W (H8.out.hb.below hW) (HU.out.below hW)
  rw [show decide (cm = most) = false from decide_eq_false fun e => hmm e.symm] at HLK
  clear hmm HU
  go_wp2_with fail
  refine (HMM.out w8 (Below.refl _ _)).mono ?_
  rintro e wa ⟨rfl, hba⟩
  have HBA := Lib.hid hba
  clear hba HMM
  go_wp2_with fail
  refine (HLK.out wa HBA.out).mono ?_
  rintro e wb ⟨rfl, hbb⟩
  have H9 := Lib.hid (H8.out.below (keep1 HBA.out hbb))
  have HA9 := Lib.hid (HA8.out.below (keep1 HBA.out hbb))
  clear hbb HBA HLK H8 HA8 f8 l8 hc8
  have HL := Lib.hid (blike_v b o S1 S2 k k part part rep rep s cm cm c vals wb H9.out.hb H9.out.ho)
  rw [show decide (cm = cm) = true from decide_eq_true rfl] at HL
  go_wp2_with fail
  refine HL.out.mono ?_
  rintro e w10 ⟨rfl, hb⟩
  have H10 := Lib.hid (H9.out.below hb)
  have HA10 := Lib.hid (HA9.out.below hb)
  clear hb H9 HA9 HL
  go_wp2_with fail
  refine (bmerge_v b o S1 S2 k k part rep rep s cm c vals w10 H10.out.hb H10.out.ho HAP.out.1 HVA.out HVB.out HSUM.out).mono ?_
  rintro e w11 ⟨rfl, ⟨S1', hg, hX, hF⟩, hO⟩
  have HB11 : Hid (Below w.heap.size w w11) := hF.below' H10.out.bl H10.out.bl.size fun j hj => ⟨HS1.out j hj, H10.out.hb.lt j hj⟩
  have HX := Lib.hid hX
  have HO := Lib.hid hO
  have HM11 := Lib.hid (H10.out.hm.frame hF HAP.out.2.1.symm)
  have HD11 := Lib.hid (H10.out.ha.frame hF HAP.out.2.2.1.symm)
  have HA11 : Hid (RdP w11 A2 (c ++ vals)) := Frame.rd hF HA10.out HBL.out
  clear hg hX hF hO H10 HA10
  go_wp2_with fail
  obtain ⟨lows, reps, hBI, hPO, _⟩ := HD11.out.get HC.out
  refine (bsame_any b S1' k s part rep cm (c ++ vals) ma lows reps cd A2 (n + nv) cap2 w11 HX.out hBI hPO HLAB.out (by have := H60.out; omega) HA11.out HVV.out).mono ?_
  rintro e w12 ⟨rfl, hb⟩
  have HB12 := Lib.hid (keep1 HB11.out hb)
  have HO12 := Lib.hid (HO.out.below hb)
  have HM12 := Lib.hid (HM11.out.below hb)
  clear hb HB11 HX HO HM11 HD11 HA11 hBI hPO
  go_wp2_with fail
  obtain ⟨lows2, reps2, hBI, hPO, _⟩ := HM12.out.get HC.out
  refine (bsame_any o S2 k s part rep cm vals m lows2 reps2 cd Avals nv cvals w12 HO12.out hBI hPO HNV.out (by have := H60.out; omega) (HRV0.out.below HB12.out) HVB.out).mono ?_
  rintro e w13 ⟨rfl, hb⟩
  have HB13 := Lib.hid (keep1 HB12.out hb)
  clear hb HB12 HO12 HM12 hBI hPO
  go_wp2
  go_ret
  exact ⟨rfl, HB13.out⟩
end Go.Proofs.YtplfiheejecjiaaGreatDoor
