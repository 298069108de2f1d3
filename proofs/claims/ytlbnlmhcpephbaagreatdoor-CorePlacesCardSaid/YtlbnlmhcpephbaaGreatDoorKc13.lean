/- Texts of this claim, joined, indents halved: FrameD, RunsQ, RunsG, BnLoad1, BnLoadP, BnLoadI, BnLoad, BnLoadV, Suite1, Suite2, Suite3, Suite4, Suite5, Suite6, Suite7, Suite8, Suite9, SuiteA, SuiteB, SuiteC, SuiteD. -/
import Derived.Test.YtlbnlmhcpephbaaGreatDoorProg
import Derived.Test.YtlbnlmhcpephbaaGreatDoorKc12
namespace Go.Proofs.YtlbnlmhcpephbaaGreatDoor
open Go.RowKit
structure QuB (w W : World) (b : Nat) (A : Option Addr) (len cap : Nat) (l : List UInt8) : Prop where
 qu : Qu W b A len cap l
 bl : Below b w W
section
variable {w W W' : World} {b len len' cap cap' : Nat} {A A' : Option Addr} {l l' : List UInt8}
theorem QuB.below (h : QuB w W b A len cap l) (hb : Below W.heap.size W W') : QuB w W' b A len cap l := ⟨h.qu.below hb, h.bl.trans (hb.mono (Nat.le_of_lt h.qu.at'.lt))⟩
theorem QuB.step (h : QuB w W b A len cap l) (hQ : Qu W' b A' len' cap' l') (hF : Frame (b :: blk A) W W') : QuB w W' b A' len' cap' l' :=
 ⟨hQ, hF.below h.bl (Nat.le_of_lt h.qu.at'.lt) fun k hk => by
  rcases List.mem_cons.1 hk with rfl | hk
  ·exact Nat.le_refl _
  ·have := (OwnY.blk_le h.qu.own k hk).1; omega⟩
theorem QuB.stepI (h : QuB w W b A len cap l) (hQ : QuI W W' b A A' len' cap' l') : QuB w W' b A' len' cap' l' := h.step hQ.qu hQ.fr
theorem QuB.new (w : World) : QuB w (w.alloc (.cells #[.slice none 0 0] 193)) w.heap.size none 0 0 [] := ⟨⟨At.new _ _ _, OwnY.nil _ _, rfl⟩, (Below.refl _ _).alloc (Nat.le_refl _) _⟩
theorem QuB.fresh (h : Qu W b A len cap l) (g : Nat) (hg : W.heap.size ≤ g) : ∀ a, (some ⟨g, 0, none⟩ : Option Addr) = some a → a.block ∉ b :: blk A := fun a ha hm => by
 simp only [Option.some.injEq] at ha
 subst ha
 rcases List.mem_cons.1 hm with h1 | h1
 ·have := h.at'.lt
  have e : g = b := h1
  omega
 ·have h2 : g ∈ blk A := h1
  have := (OwnY.blk_le h.own _ h2).2
  omega
end
set_option maxRecDepth 100000 in
set_option maxHeartbeats 2000000 in
theorem fclose_any (kind : Nat) (load : List UInt8) (st : ByteArray) (w : World) (hk : kind < 256) (hst : st = txt load) (hl : load.length ≤ 262144) :
  Calls Tryz.prog 73 #[.int .u8 (kind : Int), .string st] w fun e w' => e = .returned (.tuple #[.string (txt (frameY kind load)), .int .i64 0]) ∧ Below w.heap.size w w' := by
 have hsz : st.size = load.length := by rw [hst]; exact txt_size load
 have HST := Lib.hid hst
 have HKC : Hid (((UInt8.ofNat kind).toNat : Int) = kind) := by show _ = _; rw [byte_toNat hk]
 have h0 := QuB.new w
 obtain ⟨b, hb⟩ : ∃ b, w.heap.size = b := ⟨_, rfl⟩
 have HBB := Lib.hid hb
 obtain ⟨n, hn⟩ : ∃ n, load.length = n := ⟨_, rfl⟩
 have HN := Lib.hid hn
 rw [hn] at hsz hl
 clear hn hst
 go_enter Tryz.func73, Tryz.ntmps73
 go_wp2_with fail
 obtain ⟨W0, hW0⟩ : ∃ W, w.alloc (.cells #[.slice none 0 0] 193) = W := ⟨_, rfl⟩
 rw [hW0, hb] at h0
 simp only [hW0, hb]
 have H0 := Lib.hid h0
 clear hW0 h0 hb
 refine (qraw_any b none 0 0 [] [79, 71, 1] _ W0 H0.out.qu rfl (by omega) (by decide)).mono ?_
 rintro e w1 ⟨rfl, A1, len1, cap1, hQ, hF⟩
 have H1 := Lib.hid (H0.out.step hQ hF)
 have hcv := conv_new w1 [UInt8.ofNat kind] #[.int .u8 (kind : Int)] 1 rfl (by simp only [List.map_cons, List.map_nil]; rw [HKC.out])
 clear hQ hF H0
 go_wp2_with fail
 have hbe : Below w1.heap.size w1 (w1.alloc (.cells #[.int .u8 (kind : Int)] 5)) := (Below.refl _ _).alloc (Nat.le_refl _) _
 have H2 := Lib.hid (H1.out.below hbe)
 clear hcv hbe H1
 refine (qraw_any b A1 len1 cap1 ([] ++ [79, 71, 1]) [UInt8.ofNat kind] _ _ H2.out.qu rfl (by have := H2.out.qu.len; simp at this; omega) (by simp)).mono ?_
 rintro e w2 ⟨rfl, A2, len2, cap2, hQ, hF⟩
 have H3 := Lib.hid (H2.out.step hQ hF)
 have hbe : Below w2.heap.size w2 (w2.alloc (.cells #[.int .u64 (n : Int)] 23)) := (Below.refl _ _).alloc (Nat.le_refl _) _
 have H4 := Lib.hid (H3.out.below hbe)
 have HRN := Lib.hid (rdU_new w2 (n : Int))
 have HFR := Lib.hid (QuB.fresh H3.out.qu w2.heap.size (Nat.le_refl _))
 have HL2 : Hid (len2 = 4) := by have := H3.out.qu.len; simp at this; exact this.symm
 clear hQ hF H2 H3 hbe
 go_wp2_with fail
 refine (qnat_any b A2 len2 cap2 _ (some ⟨w2.heap.size, 0, none⟩) 1 1 [n] _ H4.out.qu rfl (by omega) (by have := HL2.out; omega) HRN.out (fun u hu => by rw [List.mem_singleton] at hu; omega) HFR.out).mono ?_
 rintro e w3 ⟨rfl, A3, len3, cap3, hQ⟩
 have H5 := Lib.hid (H4.out.stepI hQ)
 have HL3 : Hid (len3 ≤ 100) := by
  have h1 := H5.out.qu.len
  have h2 := natsB_len (l := [n]) fun u hu => by rw [List.mem_singleton] at hu; omega
  rw [List.length_append] at h1
  simp at h1 h2
  show _ ≤ _
  omega
 clear hQ H4 HRN HFR HL2
 go_wp2_with fail
 refine (qraw_any b A3 len3 cap3 _ load st w3 H5.out.qu HST.out (by have := HL3.out; omega) (by have := HN.out; omega)).mono ?_
 rintro e w4 ⟨rfl, A4, len4, cap4, hQ, hF⟩
 obtain ⟨T, hT⟩ : ∃ T, [] ++ [79, 71, 1] ++ [UInt8.ofNat kind] ++ natsB [n] ++ load = T := ⟨_, rfl⟩
 have HTF : Hid (T ++ fourY (sumY T) = frameY kind load) := by
  show _ = _
  rw [← hT]
  simp [frameY, natsB, HN.out]
 have h6 := H5.out.step hQ hF
 rw [hT] at h6
 have H6 := Lib.hid h6
 have HLT : Hid (T.length ≤ 1000000 ∧ T ≠ []) := by
  have h1 := H5.out.qu.len
  have h2 := HL3.out
  have h3 := HN.out
  refine ⟨?_, ?_⟩
  ·rw [← hT, List.length_append, h1]; omega
  ·rw [← hT]; simp
 clear hQ hF h6 H5 hT HL3
 go_wp2_with fail
 refine (qtext_any b A4 len4 cap4 T w4 H6.out.qu HLT.out.2).mono ?_
 rintro e w5 ⟨rfl, rfl⟩
 go_wp2_with fail
 refine (fsum_any T w4 (by have := HLT.out.1; omega)).mono ?_
 rintro e w5 ⟨rfl, hb⟩
 have H7 := Lib.hid (H6.out.below hb)
 clear hb H6
 go_wp2_with fail
 refine (ffour_any (sumY T) w5 (sumY_bd T)).mono ?_
 rintro e w6 ⟨rfl, hb⟩
 have H8 := Lib.hid (H7.out.below hb)
 clear hb H7
 go_wp2_with fail
 refine (qraw_any b A4 len4 cap4 T (fourY (sumY T)) _ w6 H8.out.qu rfl (by have := H8.out.qu.len; have := HLT.out.1; omega) (by rw [fourY_len]; omega)).mono ?_
 rintro e w7 ⟨rfl, A5, len5, cap5, hQ, hF⟩
 have h9 := H8.out.step hQ hF
 rw [HTF.out] at h9
 have H9 := Lib.hid h9
 have HNE : Hid (frameY kind load ≠ []) := by show _ ≠ _; rw [← HTF.out]; intro h; exact HLT.out.2 (List.append_eq_nil_iff.1 h).1
 clear hQ hF h9 H8
 go_wp2_with fail
 refine (qtext_any b A5 len5 cap5 _ w7 H9.out.qu HNE.out).mono ?_
 rintro e w8 ⟨rfl, rfl⟩
 go_wp2
 go_ret2
 exact ⟨rfl, by rw [HBB.out]; exact H9.out.bl⟩
set_option maxRecDepth 100000 in
set_option maxHeartbeats 2000000 in
theorem fopen_any (kind : Nat) (load : List UInt8) (w : World) (hk : kind < 256) (hl : load.length ≤ 262144) :
  Calls Tryz.prog 48 #[.string (txt (frameY kind load))] w fun e w' => e = .returned (.tuple #[.int .u8 (kind : Int), .string (txt load), .int .i64 0]) ∧ Below w.heap.size w w' := by
 obtain ⟨T, hT⟩ : ∃ T, [79, 71, 1] ++ [UInt8.ofNat kind] ++ natB load.length ++ load = T := ⟨_, rfl⟩
 have hF0 : frameY kind load = T ++ fourY (sumY T) := by rw [← hT]; rfl
 obtain ⟨y, hy⟩ : ∃ y, UInt8.ofNat kind = y := ⟨_, rfl⟩
 have HY : Hid ((y.toNat : Int) = kind) := by show _ = _; rw [← hy, byte_toNat hk]
 obtain ⟨sm, hsm⟩ : ∃ k, fourY (sumY T) = k := ⟨_, rfl⟩
 have HSM : Hid (fourY (sumY T) = sm ∧ sm.length = 4) := ⟨hsm, by rw [← hsm]; rfl⟩
 have HF : Hid (frameY kind load = [79, 71, 1] ++ ([y] ++ (natB load.length ++ (load ++ sm)))) := by
  show _ = _
  rw [hF0, hsm, ← hT, hy]
  simp
 have HTL : Hid (frameY kind load = T ++ sm ∧ T.length ≤ 1000000) := by
  refine ⟨by rw [hF0, hsm], ?_⟩
  have := natB_len (u := load.length) (by omega)
  rw [← hT]
  simp only [List.length_append, List.length_cons, List.length_nil]
  omega
 have HLL : Hid (load.length ≤ 262144) := hl
 obtain ⟨l, hl0⟩ : ∃ l, frameY kind load = l := ⟨_, rfl⟩
 rw [hl0] at HF HTL ⊢
 clear hF0 hT hy hsm hl hl0
 go_enter Tryz.func48, Tryz.ntmps48
 go_wp2_with fail
 refine (eon_any l w).mono ?_
 rintro e w1 ⟨rfl, hE, hb⟩
 obtain ⟨b, hbb⟩ : ∃ b, w.heap.size = b := ⟨_, rfl⟩
 have HBB := Lib.hid hbb
 rw [hbb] at hE ⊢
 have H1 : Hid (Eye w1 b ([79, 71, 1] ++ ([y] ++ (natB load.length ++ (load ++ sm))))) := by show Eye _ _ _; rw [← HF.out]; exact hE
 have HB1 : Hid (Below b w w1) := by show Below _ _ _; rw [← hbb]; exact hb
 clear hE hb hbb
 go_wp2_with fail
 refine (eraw_any b 3 _ w1 H1.out (by simp) (by have := natB_len (u := load.length) (by have := HLL.out; omega); have := HLL.out; have := HSM.out.2; simp only [List.length_append, List.length_cons, List.length_nil]; omega)).mono ?_
 rintro e w2 ⟨rfl, hW⟩
 have h3 : txt (([79, 71, 1] ++ ([y] ++ (natB load.length ++ (load ++ sm)))).take 3) = (⟨#[79, 71, 1]⟩ : ByteArray) := rfl
 have h4 : ([79, 71, 1] ++ ([y] ++ (natB load.length ++ (load ++ sm)))).drop 3 = [y] ++ (natB load.length ++ (load ++ sm)) := rfl
 rw [h4] at hW
 rw [h3]
 have H2 : Hid (Eye w2 b ([y] ++ (natB load.length ++ (load ++ sm)))) := by show Eye _ _ _; rw [← hW]; exact Eye.set H1.out _
 have HB2 : Hid (Below b w w2) := by show Below _ _ _; rw [← hW]; exact HB1.out.setCell (Nat.le_refl _) _
 clear hW h3 h4 H1 HB1
 go_wp2_with fail
 refine (eraw_any b 1 _ w2 H2.out (by simp) (by have := natB_len (u := load.length) (by have := HLL.out; omega); have := HLL.out; have := HSM.out.2; simp only [List.length_append, List.length_cons, List.length_nil]; omega)).mono ?_
 rintro e w3 ⟨rfl, hW⟩
 have h3 : ([y] ++ (natB load.length ++ (load ++ sm))).take 1 = [y] := rfl
 have h4 : ([y] ++ (natB load.length ++ (load ++ sm))).drop 1 = natB load.length ++ (load ++ sm) := rfl
 rw [h4] at hW
 rw [h3]
 have H3 : Hid (Eye w3 b (natB load.length ++ (load ++ sm))) := by show Eye _ _ _; rw [← hW]; exact Eye.set H2.out _
 have HB3 : Hid (Below b w w3) := by show Below _ _ _; rw [← hW]; exact HB2.out.setCell (Nat.le_refl _) _
 clear hW h3 h4 H2 HB2
 obtain ⟨ks, hks⟩ : ∃ s, txt [y] = s := ⟨_, rfl⟩
 have ksz : ks.size = 1 := by rw [← hks]; rfl
 have kget : ∀ h : 0 < ks.size, ks[0]'h = y := by subst hks; intro h; rfl
 have hyk := HY.out
 rw [hks]
 clear hks
 go_wp2_with fail
 refine (esmall_any b load.length 262144 (load ++ sm) w3 H3.out (by have := HLL.out; omega) (by omega) (by have := HLL.out; have := HSM.out.2; rw [List.length_append]; omega)).mono ?_
 rintro e w4 ⟨rfl, hE, hF⟩
 have H4 := Lib.hid hE
 have HB4 : Hid (Below b w w4) := hF.below HB3.out (Nat.le_of_lt (At.lt H3.out)) fun k hk => by simp only [List.mem_singleton] at hk; omega
 clear hE hF H3 HB3
 go_wp2_with fail
 refine (eraw_any b load.length (load ++ sm) w4 H4.out (by simp) (by have := HLL.out; have := HSM.out.2; rw [List.length_append]; omega)).mono ?_
 rintro e w5 ⟨rfl, hW⟩
 have h3 : (load ++ sm).take load.length = load := by simp
 have h4 : (load ++ sm).drop load.length = sm := by simp
 rw [h4] at hW
 rw [h3]
 have H5 : Hid (Eye w5 b sm) := by show Eye _ _ _; rw [← hW]; exact Eye.set H4.out _
 have HB5 : Hid (Below b w w5) := by show Below _ _ _; rw [← hW]; exact HB4.out.setCell (Nat.le_refl _) _
 clear hW h3 h4 H4 HB4
 go_wp2_with fail
 refine (eraw_any b 4 sm w5 H5.out (by have := HSM.out.2; omega) (by have := HSM.out.2; omega)).mono ?_
 rintro e w6 ⟨rfl, hW⟩
 have h3 : sm.take 4 = sm := List.take_of_length_le (by have := HSM.out.2; omega)
 have h4 : sm.drop 4 = [] := List.drop_eq_nil_of_le (by have := HSM.out.2; omega)
 rw [h4] at hW
 rw [h3]
 have H6 : Hid (Eye w6 b []) := by show Eye _ _ _; rw [← hW]; exact Eye.set H5.out _
 have HB6 : Hid (Below b w w6) := by show Below _ _ _; rw [← hW]; exact HB5.out.setCell (Nat.le_refl _) _
 clear hW h3 h4 H5 HB5
 go_wp2_with fail
 refine (eover_any b w6 H6.out).mono ?_
 rintro e w7 ⟨rfl, rfl⟩
 have hls : (txt l).size = l.length := txt_size l
 have hle : l.length = T.length + 4 := by rw [HTL.out.1, List.length_append, HSM.out.2]
 have hex : (txt l).extract 0 T.length = txt T := by rw [txt_extract, HTL.out.1]; simp
 obtain ⟨ls, hls0⟩ : ∃ s, txt l = s := ⟨_, rfl⟩
 obtain ⟨tn, htn⟩ : ∃ n, T.length = n := ⟨_, rfl⟩
 rw [hls0] at hls hex
 rw [htn] at hex hle
 rw [hle] at hls
 rw [hls0]
 have htl : tn ≤ 1000000 := by rw [← htn]; exact HTL.out.2
 clear hls0 htn hle
 go_wp2_with fail
 refine (fsum_any T w6 (by have := HTL.out.2; omega)).mono ?_
 rintro e w7 ⟨rfl, hb⟩
 have HB7 : Hid (Below b w w7) := HB6.out.trans (hb.mono (Nat.le_of_lt (At.lt H6.out)))
 clear hb HB6 hls hex
 go_wp2_with fail
 refine (ffour_any (sumY T) w7 (sumY_bd T)).mono ?_
 rintro e w8 ⟨rfl, hb⟩
 have HB8 : Hid (Below w.heap.size w w8) := by
  have h1 := HB7.out.size
  show Below _ _ _
  rw [HBB.out]
  have h2 : b ≤ w7.heap.size := by have := HBB.out; omega
  exact HB7.out.trans (hb.mono h2)
 clear hb HB7
 rw [HSM.out.1]
 obtain ⟨ss, hss⟩ : ∃ s, txt sm = s := ⟨_, rfl⟩
 obtain ⟨lo, hlo⟩ : ∃ s, txt load = s := ⟨_, rfl⟩
 have hsq : (ss.toList == ss.toList) = true := beq_self_eq_true ss.toList
 rw [hss, hlo]
 have HLO := Lib.hid hlo
 clear hss hlo
 go_wp2
 go_ret3
 exact ⟨by rw [HLO.out]; rfl, HB8.out⟩
end Go.Proofs.YtlbnlmhcpephbaaGreatDoor

namespace Go.Proofs.YtlbnlmhcpephbaaGreatDoor
open Go.RowKit
def headB (o : Option Int) (x : Int × Int) : List UInt8 := (match o with
 | none => natB (zigN x.1)
 | some p => natB (x.1 - p - 1).toNat) ++ natB x.2.toNat
def lastO (o : Option Int) (l : List (Int × Int)) : Option Int := match l.getLast? with
 | none => o
 | some y => some y.1
structure PutOk (ps : List (Int × Int)) : Prop where
 gd : Gd ps
 nn : ∀ x ∈ ps, 0 ≤ x.1 ∧ x.1 ≤ 9223372036854775807
 up : ∀ x ∈ ps, x.2 ≤ 9223372036854775807
theorem QuI.notin {w0 W : World} {b g len cap : Nat} {A0 A : Option Addr} {l : List UInt8} (h : QuI w0 W b A0 A len cap l) (hg : g < w0.heap.size) (hn : g ∉ b :: blk A0) : g ∉ b :: blk A := fun hm => by
 rcases List.mem_cons.1 hm with h1 | h1
 ·exact hn (by simp [h1])
 ·rcases h.bl g h1 with h2 | h2
  ·exact hn (by simp [h2])
  ·omega
def PutW (vb g o : Nat) (x y p : Int) (W : World) : Prop := At W vb #[.int .i64 x, .int .u64 y] 247 ∧ W.cell? ⟨g, o, none⟩ = some (.int .i64 p)
end Go.Proofs.YtlbnlmhcpephbaaGreatDoor

namespace Go.Proofs.YtlbnlmhcpephbaaGreatDoor
open Go.RowKit
structure GetJ (w W : World) (b : Nat) (A : Option Addr) (cap : Nat) (ps : List (Int × Int)) (left : List UInt8) : Prop where
 own : Own2 w.heap.size W A cap ps
 eye : Eye W b left
 fr : Frame [b] w W
 lt : b < w.heap.size
section
variable {w W W' : World} {b vb cap cap' : Nat} {A A' : Option Addr} {ps ps' : List (Int × Int)} {l l' : List UInt8}
end
end Go.Proofs.YtlbnlmhcpephbaaGreatDoor

namespace Go.Proofs.YtlbnlmhcpephbaaGreatDoor
open Go.RowKit
structure SLoad (s : Bool) (most : Int) (rs : List (Int × Int)) (lost : Int) : Prop where
 gm : GdM rs
 ln : (rs.length : Int) ≤ most
 sm : sumP rs + lost ≤ 9223372036854775807
 win : Win s most rs
 em : rs = [] → lost = 0
def SLoadR (s : Bool) (most : Int) (rs : List (Int × Int)) (lost : Int) (w : World) (e : Ending) (w' : World) : Prop :=
 (SLoad s most rs lost ∧ ∃ c S, e = .returned (.tuple #[.iface (sKnd s).T (.pointer (some ⟨c, 0, none⟩)), .int .i64 0]) ∧ Within S w.heap.size w'.heap.size ∧ Sto w' s c S most rs (sumP rs + lost)) ∨
 (¬ SLoad s most rs lost ∧ e = .returned (.tuple #[.nilIface, .int .i64 1]))
end Go.Proofs.YtlbnlmhcpephbaaGreatDoor

namespace Go.Proofs.YtlbnlmhcpephbaaGreatDoor
open Go.RowKit
def RepOk (rep : Int → Int) (q : List (Int × Int)) : Prop := ∀ x ∈ q, 0 ≤ x.1 ∧ rep x.1 ≠ 0
structure BLoad (rep : Int → Int) (s : Bool) (most : Int) (q0 q1 : List (Int × Int)) (lo0 lo1 zero : Int) : Prop where
 r0 : RepOk rep q0
 r1 : RepOk rep q1
 l0 : SLoad s most q0 lo0
 l1 : SLoad s most q1 lo1
 sm : (sumP q0 + lo0) + (sumP q1 + lo1) + zero ≤ 9223372036854775807
def BLoadR (b : Nat) (S : List Nat) (k : Bool) (part : Nat → Int) (rep : Int → Int) (s : Bool) (most : Int) (q0 q1 : List (Int × Int)) (lo0 lo1 zero : Int) (w : World) (e : Ending) (w' : World) : Prop :=
 (BLoad rep s most q0 q1 lo0 lo1 zero ∧ e = .returned (.int .i64 0) ∧ ∃ S', GrownS S S' w.heap.size ∧ Bn w' b S' k part rep s most q0 q1 (sumP q0 + lo0) (sumP q1 + lo1) zero ∧ Frame S w w') ∨
 (¬ BLoad rep s most q0 q1 lo0 lo1 zero ∧ e = .returned (.int .i64 1) ∧ Below w.heap.size w w')
def rowOf (q0 q1 : List (Int × Int)) (k : Nat) : List (Int × Int) := if k = 0 then q0 else q1
def lostOf (lo0 lo1 : Int) (k : Nat) : Int := if k = 0 then lo0 else lo1
end Go.Proofs.YtlbnlmhcpephbaaGreatDoor

namespace Go.Proofs.YtlbnlmhcpephbaaGreatDoor
open Go.RowKit
def plus3Q (a b c : Int) : Int := if a + b + c ≤ 9223372036854775807 then a + b + c else 0
def LdS (W : World) (sb : Nat) (s : Bool) (most : Int) (q0 q1 : List (Int × Int)) (lo0 lo1 : Int) (kk : Nat) (v0 v1 : Value) : Prop :=
 kk = 0 ∨
 (kk = 1 ∧ ∃ d D, v0 = .iface (sKnd s).T (.pointer (some ⟨d, 0, none⟩)) ∧ (∀ x ∈ D, sb < x) ∧ Sto W s d D most q0 (sumP q0 + lo0)) ∨
 (kk = 2 ∧ ∃ d D e E, (v0 = .iface (sKnd s).T (.pointer (some ⟨d, 0, none⟩)) ∧ v1 = .iface (sKnd s).T (.pointer (some ⟨e, 0, none⟩))) ∧ ((∀ x ∈ D, sb < x) ∧ ∀ x ∈ E, sb < x) ∧ Apart D E ∧ Sto W s d D most q0 (sumP q0 + lo0) ∧ Sto W s e E most q1 (sumP q1 + lo1))
structure LdI (w W0 W : World) (sb : Nat) (s : Bool) (most : Int) (rep : Int → Int) (q0 q1 : List (Int × Int)) (lo0 lo1 : Int) (kk : Nat) (v0 v1 : Value) : Prop where
 fr : Frame [sb] W0 W
 as' : At W sb #[v0, v1] 248
 st : LdS W sb s most q0 q1 lo0 lo1 kk v0 v1
 ok : ∀ i < kk, RepOk rep (rowOf q0 q1 i) ∧ SLoad s most (rowOf q0 q1 i) (lostOf lo0 lo1 i)
 bl : Below w.heap.size w W
 ge : w.heap.size ≤ sb
section
variable {w W0 W W1 W2 : World} {sb : Nat} {s : Bool} {most : Int} {rep : Int → Int} {q0 q1 : List (Int × Int)} {lo0 lo1 : Int} {kk : Nat} {v0 v1 : Value}
end
end Go.Proofs.YtlbnlmhcpephbaaGreatDoor

namespace Go.Proofs.YtlbnlmhcpephbaaGreatDoor
open Go.RowKit
def LdP (b g : Nat) (cs : Array Value) (x y : Int) (W : World) : Prop := At W b cs 208 ∧ At W g #[.int .i64 x, .int .u64 y] 247
def LdR (b rb lb kk : Nat) (cs : Array Value) (vr vl : Value) (W : World) : Prop := At W b cs 208 ∧ W.cell? ⟨rb, kk, none⟩ = some vr ∧ W.cell? ⟨lb, kk, none⟩ = some vl
def LdT (sb : Nat) (v0 v1 : Value) (W : World) : Prop := At W sb #[v0, v1] 248
end Go.Proofs.YtlbnlmhcpephbaaGreatDoor

namespace Go.Proofs.YtlbnlmhcpephbaaGreatDoor
open Go.RowKit
section
variable {b : Nat} {S : List Nat} {k s : Bool} {part : Nat → Int} {rep : Int → Int} {most : Int} {ps0 ps1 : List (Int × Int)} {t0 t1 zero : Int}
end
end Go.Proofs.YtlbnlmhcpephbaaGreatDoor

namespace Go.Proofs.YtlbnlmhcpephbaaGreatDoor
open Go.RowKit
def Cfg.bare (c : Cfg) : Cfg := if c.kd = 1 then ⟨1, c.pn, c.pd, c.sd, c.mo, 0, 0, 0, 0, 0, 0⟩ else ⟨2, 0, 0, 0, 0, c.dg, c.li, 0, 0, 0, 0⟩
set_option maxRecDepth 100000 in
set_option maxHeartbeats 4000000 in
theorem sbare_any (c : Cfg) (w : World) (hk : c.kd = 1 ∨ c.kd = 2) :
  Calls Tryz.prog 36 #[c.val] w fun e w' => e = .returned c.bare.val ∧ Below w.heap.size w w' := by
 obtain ⟨kd, pn, pd, sd, mo, dg, li, de, fa, wi, wo⟩ := c
 dsimp only at hk
 rcases hk with rfl | rfl
 ·have HV : Hid ((Cfg.mk 1 pn pd sd mo dg li de fa wi wo).bare.val = .agg #[.int .i64 1, .int .u64 pn, .int .u64 pd, .int .i64 sd, .int .i64 mo, .int .i64 0, .int .u64 0, .int .i64 0, .int .i64 0, .int .i64 0, .int .u64 0]) := rfl
  show Calls _ _ #[.agg #[.int .i64 1, .int .u64 pn, .int .u64 pd, .int .i64 sd, .int .i64 mo, .int .i64 dg, .int .u64 li, .int .i64 de, .int .i64 fa, .int .i64 wi, .int .u64 wo]] _ _
  have d2 := (((At.new' (w.alloc (.cells #[.int .i64 1, .int .u64 pn, .int .u64 pd, .int .i64 sd, .int .i64 mo, .int .i64 dg, .int .u64 li, .int .i64 de, .int .i64 fa, .int .i64 wi, .int .u64 wo] 28)) #[.int .i64 1, .int .u64 pn, .int .u64 pd, .int .i64 sd, .int .i64 mo, .int .i64 0, .int .u64 0, .int .i64 0, .int .i64 0, .int .i64 0, .int .u64 0] 28 (b := w.heap.size + 1) (by simp)).alloc (.cells #[.int .i64 1, .int .u64 pn, .int .u64 pd, .int .i64 sd, .int .i64 mo, .int .i64 0, .int .u64 0, .int .i64 0, .int .i64 0, .int .i64 0, .int .u64 0] 28)).drew).el
  go_enter Tryz.func36, Tryz.ntmps36
  go_wp2
  go_region
  go_wp2
  exact bodyPost_ret (v := .agg #[.int .i64 1, .int .u64 pn, .int .u64 pd, .int .i64 sd, .int .i64 mo, .int .i64 0, .int .u64 0, .int .i64 0, .int .i64 0, .int .i64 0, .int .u64 0]) (by simp only [results, Tryz.f36]; simp [go_sem, d2]) rfl ⟨by rw [HV.out], (by repeat (first | with_reducible assumption | with_reducible exact Below.refl _ _ | with_reducible refine Below.drew ?_ | with_reducible refine Below.drewN ?_ _ | with_reducible refine Below.setCell ?_ (by first | omega | (simp; done) | (simp; omega)) _ | with_reducible refine Below.alloc ?_ (by first | omega | (simp; done) | (simp; omega) | (simp [World.setCell]; omega)) _))⟩
 ·have HV : Hid ((Cfg.mk 2 pn pd sd mo dg li de fa wi wo).bare.val = .agg #[.int .i64 2, .int .u64 0, .int .u64 0, .int .i64 0, .int .i64 0, .int .i64 dg, .int .u64 li, .int .i64 0, .int .i64 0, .int .i64 0, .int .u64 0]) := rfl
  show Calls _ _ #[.agg #[.int .i64 2, .int .u64 pn, .int .u64 pd, .int .i64 sd, .int .i64 mo, .int .i64 dg, .int .u64 li, .int .i64 de, .int .i64 fa, .int .i64 wi, .int .u64 wo]] _ _
  have d2 := (((At.new' (w.alloc (.cells #[.int .i64 2, .int .u64 pn, .int .u64 pd, .int .i64 sd, .int .i64 mo, .int .i64 dg, .int .u64 li, .int .i64 de, .int .i64 fa, .int .i64 wi, .int .u64 wo] 28)) #[.int .i64 2, .int .u64 0, .int .u64 0, .int .i64 0, .int .i64 0, .int .i64 dg, .int .u64 li, .int .i64 0, .int .i64 0, .int .i64 0, .int .u64 0] 28 (b := w.heap.size + 1) (by simp)).alloc (.cells #[.int .i64 2, .int .u64 0, .int .u64 0, .int .i64 0, .int .i64 0, .int .i64 dg, .int .u64 li, .int .i64 0, .int .i64 0, .int .i64 0, .int .u64 0] 28)).drew).el
  go_enter Tryz.func36, Tryz.ntmps36
  go_wp2
  go_region
  go_wp2
  exact bodyPost_ret (v := .agg #[.int .i64 2, .int .u64 0, .int .u64 0, .int .i64 0, .int .i64 0, .int .i64 dg, .int .u64 li, .int .i64 0, .int .i64 0, .int .i64 0, .int .u64 0]) (by simp only [results, Tryz.f36]; simp [go_sem, d2]) rfl ⟨by rw [HV.out], (by repeat (first | with_reducible assumption | with_reducible exact Below.refl _ _ | with_reducible refine Below.drew ?_ | with_reducible refine Below.drewN ?_ _ | with_reducible refine Below.setCell ?_ (by first | omega | (simp; done) | (simp; omega)) _ | with_reducible refine Below.alloc ?_ (by first | omega | (simp; done) | (simp; omega) | (simp [World.setCell]; omega)) _))⟩
end Go.Proofs.YtlbnlmhcpephbaaGreatDoor

namespace Go.Proofs.YtlbnlmhcpephbaaGreatDoor
open Go.RowKit
def coreLog (q : Option Addr) : Value := .iface 105 (.agg #[.pointer q])
def coreHdr (q : Option Addr) : Value := .iface 112 (.agg #[.pointer q])
theorem hdv_nil {w : World} {b : Nat} {S : List Nat} {d lim : Int} (h : Hh.Hd w b S d lim [] [] 0 0 0) : Hh.HdV w b S d lim [] := h
end Go.Proofs.YtlbnlmhcpephbaaGreatDoor

namespace Go.Proofs.YtlbnlmhcpephbaaGreatDoor
open Go.RowKit
def inLim (c : Cfg) (x : Int) : Prop := c.kd = 2 → c.li = 0 ∨ (0 < c.li ∧ (x.natAbs : Int) ≤ c.li)
structure CfgOk (c : Cfg) : Prop where
 bare : c.bare = c
 ok : c.Ok
def SkV (w : World) (b : Nat) (S : List Nat) (c : Cfg) (l : List (Int × Int)) : Prop :=
  CfgOk c ∧ ∃ q Q, S = b :: Q ∧ b ∉ Q ∧
    ((c.kd = 1 ∧ At w b #[.int .i64 c.kd, .int .u64 c.pn, .int .u64 c.pd, .int .i64 c.sd, .int .i64 c.mo, .int .i64 c.dg, .int .u64 c.li, .int .i64 c.de, .int .i64 c.fa, .int .i64 c.wi, .int .u64 c.wo, coreLog (some ⟨q, 0, none⟩)] 79 ∧ ∃ s part rep stand, Cs c.pn c.pd 0 false part rep stand ∧ c.sd = sideZ s ∧ (1 ≤ c.mo ∧ c.mo ≤ 4096) ∧ LsV w q Q part rep c.pn c.pd s c.mo l) ∨
     (c.kd = 2 ∧ At w b #[.int .i64 c.kd, .int .u64 c.pn, .int .u64 c.pd, .int .i64 c.sd, .int .i64 c.mo, .int .i64 c.dg, .int .u64 c.li, .int .i64 c.de, .int .i64 c.fa, .int .i64 c.wi, .int .u64 c.wo, coreHdr (some ⟨q, 0, none⟩)] 79 ∧ (1 ≤ c.dg ∧ c.dg ≤ 4) ∧ c.li ≤ 9223372036854775808 ∧ (∀ v ∈ l, inLim c v.1) ∧ Hh.HdV w q Q c.dg c.li l))
section
variable {w w' : World} {b : Nat} {S T : List Nat} {c : Cfg} {l : List (Int × Int)}
theorem SkV.frame (h : SkV w b S c l) (hf : Frame T w w') (hn : Apart S T) : SkV w' b S c l := by
 obtain ⟨hc, q, Q, rfl, hb, h⟩ := h
 refine ⟨hc, q, Q, rfl, hb, ?_⟩
 have hbT : b ∉ T := hn b (by simp)
 have hQ : Apart Q T := fun j hj => hn j (by simp [hj])
 rcases h with ⟨k, ha, s, part, rep, stand, h1, h2, h3, h4⟩ | ⟨k, ha, h1, h2, h3, h4⟩
 ·exact .inl ⟨k, hf.at ha hbT, s, part, rep, stand, h1, h2, h3, Ls.frame h4 hf hQ⟩
 ·exact .inr ⟨k, hf.at ha hbT, h1, h2, h3, h4.frame hf hQ⟩
theorem SkV.below (h : SkV w b S c l) (hb : Below w.heap.size w w') : SkV w' b S c l := h.frame (T := []) (Frame.of_below hb) (fun _ _ => by simp)
end
end Go.Proofs.YtlbnlmhcpephbaaGreatDoor

namespace Go.Proofs.YtlbnlmhcpephbaaGreatDoor
open Go.RowKit
def MethC (T : TypeId) (v : Value) (name : String) (f : FuncId) (r : Value) : Prop := (∀ w : World, (method 545 T v name).run Tryz.prog w = .ok (f, r) w) ∧ ∀ (args : Array Value) (w : World), (callFunc f args).run Tryz.prog w = .ok (.enter f args) w
theorem mhPut (q : Nat) : MethC 112 (.agg #[.pointer (some ⟨q, 0, none⟩)]) "Put" 214 (.pointer (some ⟨q, 0, none⟩)) := ⟨fun w => by kernel_rfl, fun a w => by kernel_rfl⟩
theorem mlQuant (q : Nat) : MethC 105 (.agg #[.pointer (some ⟨q, 0, none⟩)]) "Quantile" 182 (.pointer (some ⟨q, 0, none⟩)) := ⟨fun w => by kernel_rfl, fun a w => by kernel_rfl⟩
theorem mhQuant (q : Nat) : MethC 112 (.agg #[.pointer (some ⟨q, 0, none⟩)]) "Quantile" 215 (.pointer (some ⟨q, 0, none⟩)) := ⟨fun w => by kernel_rfl, fun a w => by kernel_rfl⟩
theorem hvok {l : List (Int × Int)} (h : VOk l) : Hh.VOk l := ⟨h.ok, h.pos, h.sum⟩
def SkR (b : Nat) (S : List Nat) (c : Cfg) (l : List (Int × Int)) (w w' : World) : Prop := ∃ S', GrownS S S' w.heap.size ∧ SkV w' b S' c l ∧ Frame S w w'
theorem At.tw {w : World} {b : Nat} {T : TypeId} {v0 v1 v2 v3 v4 v5 v6 v7 v8 v9 v10 v11 : Value} (h : At w b #[v0, v1, v2, v3, v4, v5, v6, v7, v8, v9, v10, v11] T) :
  (w.cell? ⟨b, 0, none⟩ = some v0 ∧ w.cell? ⟨b, 1, none⟩ = some v1 ∧ w.cell? ⟨b, 2, none⟩ = some v2 ∧ w.cell? ⟨b, 3, none⟩ = some v3 ∧ w.cell? ⟨b, 4, none⟩ = some v4 ∧ w.cell? ⟨b, 5, none⟩ = some v5 ∧ w.cell? ⟨b, 6, none⟩ = some v6 ∧ w.cell? ⟨b, 7, none⟩ = some v7 ∧ w.cell? ⟨b, 8, none⟩ = some v8 ∧ w.cell? ⟨b, 9, none⟩ = some v9 ∧ w.cell? ⟨b, 10, none⟩ = some v10) ∧ w.cell? ⟨b, 11, none⟩ = some v11 :=
 ⟨⟨h.cell rfl, h.cell rfl, h.cell rfl, h.cell rfl, h.cell rfl, h.cell rfl, h.cell rfl, h.cell rfl, h.cell rfl, h.cell rfl, h.cell rfl⟩, h.cell rfl⟩
theorem grown_sk {b : Nat} {Q Q' : List Nat} {n : Nat} (hb : b ∉ Q) (hlt : b < n) (hg : GrownS Q Q' n) : b ∉ Q' ∧ GrownS (b :: Q) (b :: Q') n := by
 refine ⟨fun hm => ?_, fun j hj => ?_⟩
 ·rcases hg b hm with h | h
  ·exact hb h
  ·omega
 ·rcases List.mem_cons.1 hj with rfl | hj
  ·exact .inl (by simp)
  ·rcases hg j hj with h | h
   ·exact .inl (by simp [h])
   ·exact .inr h
theorem SkR.hdr {b q : Nat} {Q : List Nat} {c : Cfg} {l : List (Int × Int)} {w w' : World} (hc : CfgOk c) (hb : b ∉ Q) (hk : c.kd = 2) (ha : At w b #[.int .i64 c.kd, .int .u64 c.pn, .int .u64 c.pd, .int .i64 c.sd, .int .i64 c.mo, .int .i64 c.dg, .int .u64 c.li, .int .i64 c.de, .int .i64 c.fa, .int .i64 c.wi, .int .u64 c.wo, coreHdr (some ⟨q, 0, none⟩)] 79) (h1 : 1 ≤ c.dg ∧ c.dg ≤ 4) (h2 : c.li ≤ 9223372036854775808) (h3 : ∀ v ∈ l, inLim c v.1)
  (h : Hh.HpvR q Q c.dg c.li l w w') : SkR b (b :: Q) c l w w' := by
 obtain ⟨Q', hg, hX, hF⟩ := h
 obtain ⟨n1, n2⟩ := grown_sk hb ha.lt hg
 exact ⟨b :: Q', n2, ⟨hc, q, Q', rfl, n1, .inr ⟨hk, hF.at ha hb, h1, h2, h3, hX⟩⟩, hF.mono fun j hj => by simp [hj]⟩
end Go.Proofs.YtlbnlmhcpephbaaGreatDoor

namespace Go.Proofs.YtlbnlmhcpephbaaGreatDoor
open Go.RowKit
def QuantR (c : Cfg) (l : List (Int × Int)) (p0 p1 x f : Int) : Prop :=
 (c.kd = 1 → ∀ part rep stand s, Cs c.pn c.pd 0 false part rep stand → c.sd = sideZ s → (x, f) = quantL part stand s c.mo l (eLow l) (eHigh l) p0 p1) ∧
 (c.kd = 2 → x = quantD (standV (repM (gOf c.dg))) l p0 p1 ∧ f = placeE p0 p1 (sumP l))
def QW (b pb : Nat) (cs cs' : Array Value) (W : World) : Prop := At W b cs 79 ∧ At W pb cs' 25
set_option maxRecDepth 100000 in
set_option maxHeartbeats 4000000 in
theorem squant_any (b : Nat) (S : List Nat) (c : Cfg) (l : List (Int × Int)) (p0 p1 : Int) (w : World) (h : SkV w b S c l) (hv : VOk l) (hp : (0 ≤ p0 ∧ p0 < 18446744073709551616) ∧ (0 ≤ p1 ∧ p1 < 18446744073709551616)) :
  Calls Tryz.prog 14 #[.pointer (some ⟨b, 0, none⟩), .agg #[.int .u64 p0, .int .u64 p1]] w fun e w' => ∃ x f, e = .returned (.tuple #[.int .i64 x, .int .i64 f]) ∧ QuantR c l p0 p1 x f ∧ Below w.heap.size w w' := by
 obtain ⟨hc, q, Q, rfl, hb, h⟩ := h
 have hba : Below w.heap.size w (w.alloc (.cells #[.int .u64 p0, .int .u64 p1] 25)) := (Below.refl _ _).alloc (Nat.le_refl _) _
 have ap := At.new w #[.int .u64 p0, .int .u64 p1] 25
 have HX : Hid (∃ fn T x f, MethC T (.agg #[.pointer (some ⟨q, 0, none⟩)]) "Quantile" fn (.pointer (some ⟨q, 0, none⟩)) ∧ (∃ k0 k1 k2 k3 k4 k5 k6 k7 k8 k9 k10, At w b #[k0, k1, k2, k3, k4, k5, k6, k7, k8, k9, k10, .iface T (.agg #[.pointer (some ⟨q, 0, none⟩)])] 79) ∧ QuantR c l p0 p1 x f ∧
   ∀ W, Below w.heap.size w W → Calls Tryz.prog fn #[.pointer (some ⟨q, 0, none⟩), .agg #[.int .u64 p0, .int .u64 p1]] W fun e w' => e = .returned (.tuple #[.int .i64 x, .int .i64 f]) ∧ Below W.heap.size W w') := by
  rcases h with ⟨k, ha, s, part, rep, stand, h1, h2, h3, h4⟩ | ⟨k, ha, h1, h2, h3, h4⟩
  ·refine ⟨_, _, _, _, mlQuant q, ⟨_, _, _, _, _, _, _, _, _, _, _, ha⟩, ⟨fun _ part' rep' stand' s' hc' hs' => ?_, fun k2 => absurd (k.symm.trans k2) (by decide)⟩, fun W hW => lsquant_k q Q part rep stand c.pn c.pd s c.mo l (eLow l) (eHigh l) p0 p1 W (Ls.below h4 hW) h1.ps hv hp.1.1 hp.1.2 hp.2.1 hp.2.2⟩
   obtain ⟨_, rfl, rfl, rfl⟩ := Cs.one h1 hc'
   obtain rfl : s = s' := by rw [h2] at hs'; cases s <;> cases s' <;> simp [sideZ] at hs' ⊢
   rfl
  ·exact ⟨_, _, _, _, mhQuant q, ⟨_, _, _, _, _, _, _, _, _, _, _, ha⟩, ⟨fun k2 => absurd (k.symm.trans k2) (by decide), fun _ => ⟨rfl, rfl⟩⟩, fun W hW => Hh.hquant_v q Q c.dg c.li l p0 p1 W (h4.below hW) (hvok hv) hp.1.1 hp.1.2 hp.2.1 hp.2.2⟩
 clear h hv hp hc hb
 obtain ⟨fn, T, x, f, ⟨m1, m2⟩, ⟨k0, k1, k2, k3, k4, k5, k6, k7, k8, k9, k10, ha⟩, hQ, hC⟩ := HX.out
 have HQ := Lib.hid hQ
 have HCQ := Lib.hid hC
 have ha1 := ha.below hba
 have l1 := ha1.lt
 clear hQ hC ha HX
 go_enter Tryz.func14, Tryz.ntmps14
 go_wp2_with fail
 obtain ⟨W1, hW1⟩ : ∃ W, w.alloc (.cells #[.int .u64 p0, .int .u64 p1] 25) = W := ⟨_, rfl⟩
 obtain ⟨pb, hpb⟩ : ∃ r, w.heap.size = r := ⟨_, rfl⟩
 have HPB := Lib.hid hpb
 rw [hW1] at hba ha1 ap l1
 rw [hpb] at ap
 simp only [hW1, hpb]
 have HBA := Lib.hid hba
 clear hW1 hpb hba
 have hfar1 := fun x : Far W1 => (x.at ha1).tw
 have hfar2 := fun x : Far W1 => (x.at ap).two
 refine wp_region_far (by kernel_rfl) (by kernel_rfl) ?_
 repeat (first | go_big_quiet_skip | (go_big_quiet_want; go_big_quiet_op; first | go_big_quiet_on | (apply Exists.intro; refine ⟨fun _ => ?_, ?_⟩; (focus (first | (with_reducible refine far_of (HCQ.out _ (keep1 HBA.out (Far.below _)))))); go_big_quiet_on)))
 refine wpQuiet_nil ?_
 rintro _ ⟨xq, rfl⟩
 clear hfar1 hfar2
 have HFIN := Lib.hid (keep1 HBA.out xq.below)
 clear ap ha1 l1 m1 m2
 go_wp2
 go_ret2
 exact ⟨x, f, rfl, HQ.out, HFIN.out⟩
end Go.Proofs.YtlbnlmhcpephbaaGreatDoor

namespace Go.Proofs.YtlbnlmhcpephbaaGreatDoor
open Go.RowKit
def JcWlog (g q : Nat) (W : World) : Prop := At W g #[.pointer (some ⟨q, 0, none⟩)] 105
def JcWhdr (g q : Nat) (W : World) : Prop := At W g #[.pointer (some ⟨q, 0, none⟩)] 112
def JnS (b o : Nat) (cs cs' : Array Value) (W : World) : Prop := At W b cs 79 ∧ At W o cs' 79
theorem JnS.at {b o : Nat} {cs cs' : Array Value} {W : World} (h : JnS b o cs cs' W) : At W b cs 79 ∧ At W o cs' 79 := h
end Go.Proofs.YtlbnlmhcpephbaaGreatDoor

namespace Go.Proofs.YtlbnlmhcpephbaaGreatDoor
open Go.RowKit
theorem rdU_list (W : World) (us : List Nat) (vs : Array Value) (g : Nat) (hg : g = W.heap.size) (hv : vs = (us.map fun u : Nat => Value.int .u64 (u : Int)).toArray) : RdU (W.alloc (.cells vs 23)) (some ⟨g, 0, none⟩) (us.map fun u : Nat => (u : Int)) := by
 subst hg hv
 intro j u hj
 have a := At.new W (us.map fun u : Nat => Value.int .u64 (u : Int)).toArray 23
 refine ⟨W.heap.size, 0, rfl, a.lt, ?_⟩
 rw [Nat.zero_add]
 refine a.cell ?_
 rw [List.map_map] at hj
 simpa using hj
theorem rdI_list (W : World) (xs : List Int) (vs : Array Value) (g : Nat) (hg : g = W.heap.size) (hv : vs = (xs.map (Value.int .i64)).toArray) : RdI (W.alloc (.cells vs 2)) (some ⟨g, 0, none⟩) xs := by
 subst hg hv
 intro j u hj
 have a := At.new W (xs.map (Value.int .i64)).toArray 2
 refine ⟨W.heap.size, 0, rfl, a.lt, ?_⟩
 rw [Nat.zero_add]
 refine a.cell ?_
 simpa using hj
end Go.Proofs.YtlbnlmhcpephbaaGreatDoor

namespace Go.Proofs.YtlbnlmhcpephbaaGreatDoor
open Go.RowKit
def HwW (cb q : Nat) (cs : Array Value) (W : World) : Prop := At W cb #[.pointer (some ⟨q, 0, none⟩)] 112 ∧ At W q cs 161
end Go.Proofs.YtlbnlmhcpephbaaGreatDoor

namespace Go.Proofs.YtlbnlmhcpephbaaGreatDoor
open Go.RowKit
set_option maxRecDepth 100000 in
set_option maxHeartbeats 2000000 in
theorem sencode_at (b kn : Nat) (T : TypeId) (v : Value) (fn : FuncId) (load : List UInt8) (k1 k2 k3 k4 k5 k6 k7 k8 k9 k10 : Value) (w : World)
  (ha : At w b #[.int .i64 (kn : Int), k1, k2, k3, k4, k5, k6, k7, k8, k9, k10, .iface T v] 79) (m : MethC T v "ogive/suite.write" fn v) (hl : load.length ≤ 262144) (h0 : load ≠ []) (hk : kn < 256)
  (hW : ∀ W qb, Below w.heap.size w W → Qu W qb none 0 0 [] → w.heap.size ≤ qb → Calls Tryz.prog fn #[v, .pointer (some ⟨qb, 0, none⟩)] W fun e w' => e = .returned (.tuple #[]) ∧ ∃ W1 A len cap, Below W.heap.size W W1 ∧ QuI W1 w' qb none A len cap load) :
  Calls Tryz.prog 52 #[.pointer (some ⟨b, 0, none⟩)] w fun e w' => e = .returned (.tuple #[.string (txt (frameY kn load)), .int .i64 0]) ∧ Below w.heap.size w w' := by
 have hQ0 := QuB.new w
 have ha1 := ha.below (w' := w.alloc (.cells #[.slice none 0 0] 193)) ((Below.refl _ _).alloc (Nat.le_refl _) _)
 have f1 := ha1.tw
 have l1 := ha1.lt
 obtain ⟨m1, m2⟩ := m
 have HL := Lib.hid (And.intro hl (And.intro h0 hk))
 have HA := Lib.hid fun W (hb : Below w.heap.size w W) => ha.below hb
 have HW := Lib.hid hW
 clear hl h0 hk ha hW
 go_enter Tryz.func52, Tryz.ntmps52
 go_wp2_with fail
 obtain ⟨W1, hW1⟩ : ∃ W, w.alloc (.cells #[.slice none 0 0] 193) = W := ⟨_, rfl⟩
 obtain ⟨qb, hqb⟩ : ∃ r, w.heap.size = r := ⟨_, rfl⟩
 have HQB : Hid (w.heap.size = qb) := hqb
 rw [hW1] at hQ0 ha1 f1 l1
 rw [hqb] at hQ0
 simp only [hW1, hqb]
 have HQ0 := Lib.hid hQ0
 have HB1 : Hid (Below w.heap.size w W1) := by rw [← hW1]; exact (Below.refl _ _).alloc (Nat.le_refl _) _
 clear hW1 hqb hQ0
 refine (HW.out W1 qb HB1.out HQ0.out.qu (by have := HQB.out; omega)).mono ?_
 rintro e w2 ⟨rfl, W2, A, len, cap, hb, hq⟩
 have HQ2 : Hid (QuB w w2 qb A len cap load) := (HQ0.out.below hb).stepI (by
  have := hq
  exact this)
 have HB2 : Hid (Below w.heap.size w w2) := by
  have := HQ2.out.bl
  rw [← HQB.out] at this
  exact this
 have a2 := HA.out w2 HB2.out
 clear hb hq f1 l1 ha1 HW HB1 HQ0 m1 m2
 go_wp2_with fail
 have HTX := Lib.hid fun W (hb : Below w2.heap.size w2 W) => (qtext_any qb A len cap load W (HQ2.out.qu.below hb) HL.out.2.1).mono (R' := fun e w' => e = .returned (.string (txt load)) ∧ Below W.heap.size W w') (fun e w' h => ⟨h.1, h.2 ▸ Below.refl _ _⟩)
 have HCL := Lib.hid fun W => fclose_any kn load (txt load) W HL.out.2.2 rfl HL.out.1
 have hcv : IntKind.u8.wrap (kn : Int) = (kn : Int) := by
  have := HL.out.2.2
  simp only [IntKind.wrap_u8]
  omega
 have hfar1 := fun x : Far w2 => (x.at a2).tw
 refine wp_region_far (by kernel_rfl) (by kernel_rfl) ?_
 repeat (first | go_big_quiet_skip | (go_big_quiet_want; go_big_quiet_op; first | go_big_quiet_on | (apply Exists.intro; refine ⟨fun _ => ?_, ?_⟩; (focus (first | (with_reducible refine far_of (HTX.out _ (Far.below _))) | (with_reducible refine far_of (HCL.out _)))); go_big_quiet_on)))
 refine wpQuiet_nil ?_
 rintro _ ⟨xq, rfl⟩
 clear hfar1
 have HFIN := Lib.hid (keep1 HB2.out xq.below)
 clear a2 HTX HCL HA HQ2 HB2
 go_wp2
 go_ret2
 exact ⟨rfl, HFIN.out⟩
end Go.Proofs.YtlbnlmhcpephbaaGreatDoor

namespace Go.Proofs.YtlbnlmhcpephbaaGreatDoor
open Go.RowKit
structure EyJ (w W : World) (b : Nat) (l : List UInt8) : Prop where
 eye : Eye W b l
 fr : Frame [b] w W
 lt : b < w.heap.size
section
variable {w W W' : World} {b : Nat} {l l' : List UInt8}
theorem EyJ.start (h : Eye w b l) : EyJ w w b l := ⟨h, Frame.refl _ _, At.lt h⟩
theorem EyJ.read (h : EyJ w W b l) (hE : Eye W' b l') (hF : Frame [b] W W') : EyJ w W' b l' := ⟨hE, h.fr.trans hF, h.lt⟩
theorem EyJ.below (h : EyJ w W b l) (hb : Below W.heap.size W W') : EyJ w W' b l := ⟨h.eye.below hb, h.fr.trans (Frame.of_below hb), h.lt⟩
theorem EyJ.at {k : Nat} {cs : Array Value} {T : TypeId} (h : EyJ w W b l) (ha : At W k cs T) (hF : Frame [b] W W') (hk : w.heap.size ≤ k) : At W' k cs T := hF.at ha (by have := h.lt; simp only [List.mem_singleton]; omega)
theorem EyJ.own {k : Nat} (h : EyJ w W b l) (hF : Frame [k] W W') (hk : w.heap.size ≤ k) : EyJ w W' b l :=
 ⟨h.eye.frame hF (by have := h.lt; simp only [List.mem_singleton]; omega), ⟨hF.os.trans h.fr.os, hF.tape.trans h.fr.tape, hF.output.trans h.fr.output, Nat.le_trans h.fr.size hF.size, fun j hj hn => (hF.block j (Nat.lt_of_lt_of_le hj h.fr.size) (by simp only [List.mem_singleton]; omega)).trans (h.fr.block j hj hn)⟩, h.lt⟩
end
theorem Frame.set11 (w : World) (b : Nat) (v0 v1 v2 v3 v4 v5 v6 v7 v8 v9 v10 : Value) :
  Frame [b] w (((((((((((w.setCell ⟨b, 0, none⟩ v0).setCell ⟨b, 1, none⟩ v1).setCell ⟨b, 2, none⟩ v2).setCell ⟨b, 3, none⟩ v3).setCell ⟨b, 4, none⟩ v4).setCell ⟨b, 5, none⟩ v5).setCell ⟨b, 6, none⟩ v6).setCell ⟨b, 7, none⟩ v7).setCell ⟨b, 8, none⟩ v8).setCell ⟨b, 9, none⟩ v9).setCell ⟨b, 10, none⟩ v10) := by
 have hm : b ∈ [b] ∨ w.heap.size ≤ b := .inl (by simp)
 have k0 := Frame.setc (Frame.refl [b] w) hm 0 v0
 have k1 := Frame.setc k0 hm 1 v1
 have k2 := Frame.setc k1 hm 2 v2
 have k3 := Frame.setc k2 hm 3 v3
 have k4 := Frame.setc k3 hm 4 v4
 have k5 := Frame.setc k4 hm 5 v5
 have k6 := Frame.setc k5 hm 6 v6
 have k7 := Frame.setc k6 hm 7 v7
 have k8 := Frame.setc k7 hm 8 v8
 have k9 := Frame.setc k8 hm 9 v9
 have k10 := Frame.setc k9 hm 10 v10
 exact k10
end Go.Proofs.YtlbnlmhcpephbaaGreatDoor

namespace Go.Proofs.YtlbnlmhcpephbaaGreatDoor
open Go.RowKit
section
variable {w W W' : World} {b : Nat} {l l' : List UInt8} {S : List Nat}
end
structure LgJ (w W : World) (eb : Nat) (rest : List UInt8) (rb cb lb : Nat) (cfg lost : Array Value) : Prop where
 j : EyJ w W eb rest
 r : At W rb #[.int .i64 0, .int .u64 0, .int .u64 0, .int .i64 0, .int .i64 0, .int .i64 0, .int .u64 0, .int .i64 0, .int .i64 0, .int .i64 0, .int .u64 0] 28
 c : At W cb cfg 28
 l : At W lb lost 221
 ge : w.heap.size ≤ rb ∧ w.heap.size ≤ cb ∧ w.heap.size ≤ lb
 ne : rb ≠ cb
section
variable {w W W' : World} {eb rb cb lb : Nat} {rest rest' : List UInt8} {cfg lost : Array Value} {S : List Nat}
end
set_option maxRecDepth 100000 in
set_option maxHeartbeats 1000000 in
theorem spart_any (eb u v : Nat) (rest : List UInt8) (w : World) (h : Eye w eb (natB u ++ (natB v ++ rest))) (hu : u ≤ 4294967296) (hv : v ≤ 4294967296) (hl : rest.length ≤ 90000000) :
  Calls Tryz.prog 81 #[.pointer (some ⟨eb, 0, none⟩)] w fun e w' => e = .returned (.agg #[.int .u64 (u : Int), .int .u64 (v : Int)]) ∧ Eye w' eb rest ∧ Frame [eb] w w' := by
 have hba : Below w.heap.size w (w.alloc (.cells #[.int .u64 0, .int .u64 0] 25)) := (Below.refl _ _).alloc (Nat.le_refl _) _
 have ar := At.new w #[.int .u64 0, .int .u64 0] 25
 have J0 := (EyJ.start h).below hba
 have HVL : Hid ((natB v).length ≤ 10) := natB_len (by omega)
 clear h
 go_enter Tryz.func81, Tryz.ntmps81
 go_wp2_with fail
 obtain ⟨W0, hW0⟩ : ∃ W, w.alloc (.cells #[.int .u64 0, .int .u64 0] 25) = W := ⟨_, rfl⟩
 obtain ⟨rb, hrb⟩ : ∃ r, w.heap.size = r := ⟨_, rfl⟩
 have HRB : Hid (w.heap.size = rb) := hrb
 rw [hW0] at J0 ar
 rw [hrb] at ar
 simp only [hW0, hrb]
 have HJ0 := Lib.hid J0
 have HA0 := Lib.hid ar
 clear hW0 hrb J0 ar hba
 refine (enat_any eb u 4294967296 _ W0 HJ0.out.eye (by omega) (by omega) (by rw [List.length_append]; have := HVL.out; omega)).mono ?_
 rintro e w1 ⟨rfl, hE, hF⟩
 have HJ1 := Lib.hid (HJ0.out.read hE hF)
 have HA1 := Lib.hid (HJ0.out.at HA0.out hF (by have := HRB.out; omega))
 clear hE hF HJ0 HA0
 go_wp2_with fail
 refine (enat_any eb v 4294967296 _ w1 HJ1.out.eye (by omega) (by omega) (by omega)).mono ?_
 rintro e w2 ⟨rfl, hE, hF⟩
 have HJ2 := Lib.hid (HJ1.out.read hE hF)
 have HA2 := Lib.hid (HJ1.out.at HA1.out hF (by have := HRB.out; omega))
 clear hE hF HJ1 HA1
 have g2 := HA2.out.two
 have m2 := HA2.out.lt
 go_wp2
 have d2 := (HA2.out.set2 (.int .u64 (u : Int)) (.int .u64 (v : Int))).two
 have hF2 := ((Frame.refl [rb] w2).setc (b := rb) (.inl (by simp)) 0 (.int .u64 (u : Int))).setc (b := rb) (.inl (by simp)) 1 (.int .u64 (v : Int))
 have HJF := Lib.hid (HJ2.out.own hF2 (by have := HRB.out; omega))
 exact bodyPost_ret (v := .agg #[.int .u64 (u : Int), .int .u64 (v : Int)]) (by simp only [results, Tryz.f81]; simp [go_sem, d2]) rfl ⟨rfl, HJF.out.eye, HJF.out.fr⟩
end Go.Proofs.YtlbnlmhcpephbaaGreatDoor

namespace Go.Proofs.YtlbnlmhcpephbaaGreatDoor
open Go.RowKit
def CfW (cb : Nat) (cfg : Array Value) (W : World) : Prop := At W cb cfg 28
def RlW (xb lb : Nat) (rows lost : Array Value) (W : World) : Prop := At W xb rows 223 ∧ At W lb lost 221
structure LgR (w W : World) (eb rb cb lb xb : Nat) (cfg lost : Array Value) (A0 : Option Addr) (n0 c0 : Nat) (K0 : List (Int × Int)) (A1 : Option Addr) (n1 c1 : Nat) (K1 : List (Int × Int)) : Prop where
 j : LgJ w W eb [] rb cb lb cfg lost
 x : At W xb #[.slice A0 n0 c0, .slice A1 n1 c1] 223
 r0 : RdP W A0 K0
 r1 : RdP W A1 K1
section
variable {w W W' : World} {eb rb cb lb xb n0 c0 n1 c1 : Nat} {rest rest' : List UInt8} {cfg lost : Array Value} {A0 A1 : Option Addr} {K0 K1 : List (Int × Int)}
end
end Go.Proofs.YtlbnlmhcpephbaaGreatDoor

namespace Go.Proofs.YtlbnlmhcpephbaaGreatDoor
open Go.RowKit
def RdR (eb : Nat) (cv : Value) (T : TypeId) (X : World → Nat → List Nat → Prop) (w : World) (e : Ending) (w' : World) : Prop :=
 ∃ q Q, e = .returned (.tuple #[cv, .iface T (.agg #[.pointer (some ⟨q, 0, none⟩)]), .bool true]) ∧ Within Q w.heap.size w'.heap.size ∧ X w' q Q ∧ Eye w' eb [] ∧ Frame [eb] w w'
def DecR (kd pn pd sd mo dg li de fa wi wo : Int) (T : TypeId) (X : World → Nat → List Nat → Prop) (w : World) (e : Ending) (w' : World) : Prop :=
 (∃ b q Q, e = .returned (.tuple #[.pointer (some ⟨b, 0, none⟩), .int .i64 0]) ∧ Within (b :: Q) w.heap.size w'.heap.size ∧ b ∉ Q ∧
  At w' b #[.int .i64 kd, .int .u64 pn, .int .u64 pd, .int .i64 sd, .int .i64 mo, .int .i64 dg, .int .u64 li, .int .i64 de, .int .i64 fa, .int .i64 wi, .int .u64 wo, .iface T (.agg #[.pointer (some ⟨q, 0, none⟩)])] 79 ∧ X w' q Q) ∧ Below w.heap.size w w'
end Go.Proofs.YtlbnlmhcpephbaaGreatDoor
