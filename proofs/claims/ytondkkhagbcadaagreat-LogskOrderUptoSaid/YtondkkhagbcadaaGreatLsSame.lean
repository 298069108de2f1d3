/- The statements' same and alive (chapter 14). -/
import Derived.Test.YtondkkhagbcadaaGreatProg
import Derived.Test.YtondkkhagbcadaaGreatLs4
import Derived.Test.YtondkkhagbcadaaGreatBuild13
namespace Go.Proofs.YtondkkhagbcadaaGreat
open Go.RowKit

theorem At.five {w : World} {b : Nat} {T : TypeId} {v0 v1 v2 v3 v4 : Value} (h : At w b #[v0, v1, v2, v3, v4] T) : (w.cell? ⟨b, 0, none⟩ = some v0 ∧ w.cell? ⟨b, 1, none⟩ = some v1 ∧ w.cell? ⟨b, 2, none⟩ = some v2 ∧ w.cell? ⟨b, 3, none⟩ = some v3 ∧ w.cell? ⟨b, 4, none⟩ = some v4) ∧
    w.frozen? ⟨b, 0, none⟩ = false ∧ w.frozen? ⟨b, 1, none⟩ = false ∧ w.frozen? ⟨b, 2, none⟩ = false ∧ w.frozen? ⟨b, 3, none⟩ = false ∧ w.frozen? ⟨b, 4, none⟩ = false :=
  ⟨⟨h.cell rfl, h.cell rfl, h.cell rfl, h.cell rfl, h.cell rfl⟩, h.frozen 0, h.frozen 1, h.frozen 2, h.frozen 3, h.frozen 4⟩
theorem keptP_len' {s : Bool} {most : Int} {ps : List (Int × Int)} : (keptP s most ps).length ≤ ps.length := List.length_filter_le _ _
set_option maxRecDepth 100000 in
set_option maxHeartbeats 4000000 in
theorem lssame_any (b : Nat) (S : List Nat) (part : Nat → Int) (rep : Int → Int) (u v : Int) (s : Bool) (most : Int) (l : List (Int × Int)) (m : Nat) (lows reps : Value) (d : Int) (A : Option Addr) (len cap : Nat) (w : World) (h : LsV w b S part rep u v s most l) (hb : BinsAt w m lows reps d (sideZ s) most A len cap) (hP : PartOk w m part) (hl : l.length = len) (hm : len ≤ 1000) (hR : RdP w A l) (hv : VOk l) :
    Calls Tryz.prog 23 #[.pointer (some ⟨b, 0, none⟩), .pointer (some ⟨m, 0, none⟩)] w fun e w' => e = .returned (.bool true) ∧ Below w.heap.size w w' := by
  have hs := hv.sum
  have hs0 := hv.sum0
  have hmo := h.m14
  have HEN := Lib.hid fun W (hW : Below w.heap.size w W) => lsends_v b S part rep u v s most l W (h.below hW) hv
  obtain ⟨bb, B, rfl, h⟩ := h
  have hpr : ∀ a, 0 < a → a ≤ 9223372036854775808 → -9223372036854775808 ≤ part a ∧ part a ≤ 9223372036854775807 := fun a h0 h1 => by
    have := h.bn.rng a h0 h1
    omega
  have HBI := Lib.hid fun W (hW : Below w.heap.size w W) => lsbins_at b _ _ _ _ _ _ _ W (h.below hW).at'
  have HKP := Lib.hid fun (bl : Bool) W (hW : Below w.heap.size w W) => bkept_any m lows reps d s most A len cap part l bl W (hb.below hW) (hP.below hW) hl (by omega) (hR.below hW) hv.ok hv.pos hs hpr hmo
  have HSM : Hid (∀ (bl : Bool) (A B : Option Addr) (c1 c2 : Nat) W, RdP W A (keptP s most (rowV part bl l)) → RdP W B (keptP s most (rowV part bl l)) → Calls Tryz.prog 27 #[.slice A (keptP s most (rowV part bl l)).length c1, .slice B (keptP s most (rowV part bl l)).length c2] W fun e W' => e = .returned (.bool true) ∧ Below W.heap.size W W') := fun bl A B c1 c2 W k1 k2 =>
    (same_any A B (keptP s most (rowV part bl l)).length c1 (keptP s most (rowV part bl l)).length c2 _ _ W rfl rfl (by have := rowV_len (part := part) (below := bl) (l := l); have := keptP_len' (s := s) (most := most) (ps := rowV part bl l); omega) (by have := rowV_len (part := part) (below := bl) (l := l); have := keptP_len' (s := s) (most := most) (ps := rowV part bl l); omega) k1 k2).mono fun e W' h => ⟨by rw [h.1, decide_eq_true rfl], h.2⟩
  have HTV := Lib.hid fun W (hW : Below w.heap.size w W) => btot_v bb B false part rep s most l W (h.bn.below hW) hv
  have HTB := Lib.hid fun W (hW : Below w.heap.size w W) => btotal_any m lows reps d (sideZ s) most A len cap l W (hb.below hW) hl (by omega) (hR.below hW) hv.pos hs
  have HRS := Lib.hid fun W (hW : Below w.heap.size w W) => brows_v bb B false part rep s most l W (h.bn.below hW)
  have HVE := Lib.hid fun W (hW : Below w.heap.size w W) => vends_told A len cap l W hl (by omega) (hR.below hW)
  have HM := Lib.hid fun W (hW : Below w.heap.size w W) => At.six (hb.below hW)
  have HML := Lib.hid fun W (hW : Below w.heap.size w W) => At.lt (hb.below hW)
  unfold RowsR at HRS
  have HK0 := Lib.hid (HKP.out true)
  have HK1 := Lib.hid (HKP.out false)
  have HS0 := Lib.hid (HSM.out true)
  have HS1 := Lib.hid (HSM.out false)
  unfold KeptR at HK0 HK1
  obtain ⟨P0, hP0⟩ : ∃ v, rowV part true l = v := ⟨_, rfl⟩
  obtain ⟨P1, hP1⟩ : ∃ v, rowV part false l = v := ⟨_, rfl⟩
  rw [hP0] at HRS HS0 HK0
  rw [hP1] at HRS HS1 HK1
  obtain ⟨K0, hK0⟩ : ∃ v, keptP s most P0 = v := ⟨_, rfl⟩
  obtain ⟨K1, hK1⟩ : ∃ v, keptP s most P1 = v := ⟨_, rfl⟩
  rw [hK0] at HRS HS0 HK0
  rw [hK1] at HRS HS1 HK1
  obtain ⟨n0, hn0⟩ : ∃ v, K0.length = v := ⟨_, rfl⟩
  obtain ⟨n1, hn1⟩ : ∃ v, K1.length = v := ⟨_, rfl⟩
  rw [hn0] at HRS HS0 HK0
  rw [hn1] at HRS HS1 HK1
  obtain ⟨L0, hL0⟩ : ∃ v, sumP P0 - sumP K0 = v := ⟨_, rfl⟩
  obtain ⟨L1, hL1⟩ : ∃ v, sumP P1 - sumP K1 = v := ⟨_, rfl⟩
  rw [hL0] at HK0
  rw [hL1] at HK1
  obtain ⟨T, hT⟩ : ∃ v, sumP l = v := ⟨_, rfl⟩
  rw [hT] at HTV HTB
  obtain ⟨el, hel⟩ : ∃ v, eLow l = v := ⟨_, rfl⟩
  obtain ⟨eh, heh⟩ : ∃ v, eHigh l = v := ⟨_, rfl⟩
  obtain ⟨ei, hei⟩ : ∃ v, eIs l = v := ⟨_, rfl⟩
  rw [hel, heh, hei] at HEN HVE
  have htt : (T == T) = true := beq_self_eq_true T
  have hll : (el == el) = true := beq_self_eq_true el
  have hhh : (eh == eh) = true := beq_self_eq_true eh
  have hii : (ei == ei) = true := beq_self_eq_true ei
  clear hP0 hP1 hK0 hK1 hn0 hn1 hL0 hL1 hT hel heh hei HKP HSM h hb hP hl hm hR hv hs hs0 hmo hpr
  go_enter Tryz.func23, Tryz.ntmps23
  go_wp2_with fail
  refine (HBI.out w (Below.refl _ _)).mono ?_
  rintro e w0 ⟨rfl, rfl⟩
  go_wp2_with fail
  refine (HRS.out w (Below.refl _ _)).mono ?_
  rintro e w1 ⟨A0, c0, A1, c1, rfl, hr0, hr1, hb⟩
  have HB1 := Lib.hid hb
  have HA0 := Lib.hid hr0
  have HA1 := Lib.hid hr1
  clear hr0 hr1 hb HRS
  go_wp2_with fail
  refine (HK0.out w1 HB1.out).mono ?_
  rintro e w3 ⟨A3, c3, rfl, hr, hb⟩
  have HB3 := Lib.hid (keep1 HB1.out hb)
  have HA03 := Lib.hid (HA0.out.below hb)
  have HA13 := Lib.hid (HA1.out.below hb)
  have HX := Lib.hid hr
  clear hr hb HK0 HB1 HA0 HA1
  go_wp2_with fail
  refine (HK1.out w3 HB3.out).mono ?_
  rintro e w4 ⟨A4, c4, rfl, hr, hb⟩
  have HB4 := Lib.hid (keep1 HB3.out hb)
  have HA04 := Lib.hid (HA03.out.below hb)
  have HA14 := Lib.hid (HA13.out.below hb)
  have HX4 := Lib.hid (HX.out.below hb)
  have HY := Lib.hid hr
  clear hr hb HK1 HB3 HA03 HA13 HX
  go_wp2_with fail
  refine (HEN.out w4 HB4.out).mono ?_
  rintro e w5 ⟨rfl, hb⟩
  have HB5 := Lib.hid (keep1 HB4.out hb)
  have HA05 := Lib.hid (HA04.out.below hb)
  have HA15 := Lib.hid (HA14.out.below hb)
  have HX5 := Lib.hid (HX4.out.below hb)
  have HY5 := Lib.hid (HY.out.below hb)
  have f5 := HM.out w5 HB5.out
  have l5 := HML.out w5 HB5.out
  clear hb HEN HB4 HA04 HA14 HX4 HY HM HML
  go_wp2_with fail
  refine (HVE.out w5 HB5.out).mono ?_
  rintro e w6 ⟨rfl, hb⟩
  have HB6 := Lib.hid (keep1 HB5.out hb)
  have HA06 := Lib.hid (HA05.out.below hb)
  have HA16 := Lib.hid (HA15.out.below hb)
  have HX6 := Lib.hid (HX5.out.below hb)
  have HY6 := Lib.hid (HY5.out.below hb)
  clear hb HVE HB5 HA05 HA15 HX5 HY5 f5 l5
  go_wp2_with fail
  refine (HS0.out A0 A3 c0 c3 w6 HA06.out HX6.out).mono ?_
  rintro e w7 ⟨rfl, hb⟩
  have HB7 := Lib.hid (keep1 HB6.out hb)
  have HA17 := Lib.hid (HA16.out.below hb)
  have HY7 := Lib.hid (HY6.out.below hb)
  clear hb HS0 HB6 HA06 HX6 HA16 HY6
  go_wp2_with fail
  refine (HS1.out A1 A4 c1 c4 w7 HA17.out HY7.out).mono ?_
  rintro e w8 ⟨rfl, hb⟩
  have HB8 := Lib.hid (keep1 HB7.out hb)
  clear hb HS1 HB7 HA17 HY7
  go_wp2_with fail
  refine (HBI.out w8 HB8.out).mono ?_
  rintro e w9 ⟨rfl, rfl⟩
  clear HBI
  go_wp2_with fail
  refine (HTV.out w8 HB8.out).mono ?_
  rintro e w10 ⟨rfl, hb⟩
  have HB10 := Lib.hid (keep1 HB8.out hb)
  clear hb HB8 HTV
  go_wp2_with fail
  refine (HTB.out w10 HB10.out).mono ?_
  rintro e w11 ⟨rfl, hb⟩
  have HB11 := Lib.hid (keep1 HB10.out hb)
  clear hb HB10 HTB
  go_wp2
  go_ret
  exact ⟨rfl, HB11.out⟩
/-! ## What is played. -/
theorem kinL {B : Nat} {w wr w' : World} {S : List Nat} {b : Nat} {s : Bool} {part : Nat → Int} {rep : Int → Int} {u v most : Int} {l l' : List (Int × Int)} (h : Two B w wr S [] (LsV wr b S part rep u v s most l) True) (hp : LpvR b S part rep u v s most l' wr w') : ∃ S', Two B w w' S' [] (LsV w' b S' part rep u v s most l') True := by
  obtain ⟨S', hg, hX, hF⟩ := hp
  exact ⟨S', h.stepX hg hX hX.lt hF trivial⟩
/-- Seven, three times, of half of them. -/
theorem quant_alive (part : Nat → Int) (stand : Int → Int) : quantL part stand true 100 ([] ++ [(7, 3)]) 7 7 1 2 = (7, 0) := by
  have e1 : placeE 1 2 (sumP ([] ++ [(7, 3)])) = 0 := by decide
  have e2 : placeT 1 2 (sumP ([] ++ [(7, 3)])) = 2 := by decide
  have e3 : exactV ([] ++ [((7 : Int), (3 : Int))]) 2 = some 7 := by decide +kernel
  have e4 : rowV part false ([] ++ [(7, 3)]) = [(part 7, 3)] := by
    rw [rowV_snoc, rowV_nil]
    rw [if_pos (by rw [sgn_false]; decide)]
    rfl
  have e5 : docFind13 part stand true 100 ([] ++ [(7, 3)]) 2 = some (stand 7) := by
    unfold docFind13
    rw [e3]
    dsimp only
    rw [if_neg]
    rw [show decide ((7 : Int) < 0) = false from rfl, e4, cnt_kept]
    have hn : [(part 7, (3 : Int))] ≠ [] := by simp
    obtain ⟨y, hy, ey⟩ := endP_mem (s := true) hn
    rw [List.mem_singleton] at hy
    subst hy
    rw [← ey]
    show ¬ (_ ∧ (if gap true (part 7) (part (Int.natAbs 7)) < 100 then _ else _) = _)
    rw [show Int.natAbs 7 = 7 from rfl, gap_self, if_pos (by omega)]
    rintro ⟨_, h⟩
    simp [cnt, sumP] at h
  unfold quantL
  rw [if_pos e1, e2, e5]
  show (min (max (stand 7) 7) 7, 0) = _
  congr 1
  omega
set_option maxRecDepth 100000 in
set_option maxHeartbeats 2000000 in
theorem alive_any (w : World) : Calls Tryz.prog 10 #[] w fun e w' => e = .returned (.bool true) ∧ Below w.heap.size w w' := by
  have HC : Hid (∃ part rep stand, Cs 1 10 0 false part rep stand) := by
    rcases cs_cases (u := 1) (v := 10) (d := 0) (by omega) (by omega) (by omega) (by omega) with ⟨k, part, rep, stand, hc⟩ | ⟨_, hg | ⟨un, vn, e1, e2, _, _, _, hn⟩⟩
    · have hk : k = false := by
        rcases hc with ⟨_, h, _⟩ | ⟨h, _⟩
        · omega
        · exact h
      subst hk
      exact ⟨part, rep, stand, hc⟩
    · exact absurd hg (by decide)
    · obtain rfl : un = 1 := by omega
      obtain rfl : vn = 10 := by omega
      have : (cellsF 1 10 4096 1).isSome = true := by decide +kernel
      rw [hn] at this
      cases this
  obtain ⟨part, rep, stand, hc⟩ := HC.out
  have HCC := Lib.hid hc
  have HN := Lib.hid (lsnew_yes 1 10 part rep stand true 100 w hc (by omega))
  rw [show sideZ true = 0 from rfl] at HN
  clear hc HC
  go_enter Tryz.func10, Tryz.ntmps10
  go_wp2_with fail
  refine HN.out.mono ?_
  rintro e w2 ⟨⟨b, S, rfl, hW, hN⟩, hb⟩
  have T1 : Hid (Two w.heap.size w w2 S [] (LsV w2 b S part rep 1 10 true 100 []) True) := two_new hW hN hb hb.size
  clear hW hN hb HN
  go_wp2_with fail
  refine (lsput_v b S part rep 1 10 true 100 7 3 [] w2 T1.out.x VOk.nil (by omega) (by omega) (by rw [sumP_nil]; omega)).mono ?_
  rintro e w3 ⟨rfl, hp⟩
  obtain ⟨S2, T2'⟩ := kinL T1.out hp
  have T2 := Lib.hid T2'
  have HV : Hid (VOk ([] ++ [(7, 3)])) := VOk.nil.snoc (by omega) (by omega) (by rw [sumP_nil]; omega)
  clear hp T1 T2'
  go_wp2_with fail
  refine (lsquant_k b S2 part rep stand 1 10 true 100 _ _ _ 1 2 w3 T2.out.x HCC.out.ps HV.out (by omega) (by omega) (by omega) (by omega)).mono ?_
  rintro e w4 ⟨rfl, hb⟩
  have HFB := Lib.hid (keep1 T2.out.below hb)
  rw [show eLow ([] ++ [((7 : Int), (3 : Int))]) = 7 from rfl, show eHigh ([] ++ [((7 : Int), (3 : Int))]) = 7 from rfl, quant_alive]
  clear hb T2 HV HCC
  go_wp2
  go_ret
  exact ⟨rfl, HFB.out⟩
end Go.Proofs.YtondkkhagbcadaaGreat
