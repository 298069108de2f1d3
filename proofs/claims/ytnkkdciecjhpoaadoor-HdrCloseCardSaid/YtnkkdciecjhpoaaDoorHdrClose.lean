/- The walk of the statement HdrClose. -/
import Derived.Test.YtnkkdciecjhpoaaDoorProg
import Derived.Test.YtnkkdciecjhpoaaDoorOpen
import Derived.Test.YtnkkdciecjhpoaaDoorPlayAll
import Derived.Test.YtnkkdciecjhpoaaDoorRef15
import Derived.Test.YtnkkdciecjhpoaaDoorWithin
namespace Go.Proofs.YtnkkdciecjhpoaaDoor
open Go.RowKit

set_option maxHeartbeats 2000000 in
theorem hdrClose_walk (w : World) (hTens : TensAt w) (digits : Int) (bddigits : -9223372036854775808 ≤ digits ∧ digits ≤ 9223372036854775807) (Avals : Option Addr) (cvals : Nat) (vals : List (Int × Int)) (rvals : Rd w Avals (vals.flatMap fun x => [.int .i64 x.1, .int .u64 x.2])) (bdvals : ∀ x ∈ vals, (-9223372036854775808 ≤ x.1 ∧ x.1 ≤ 9223372036854775807) ∧ (0 ≤ x.2 ∧ x.2 < 18446744073709551616)) (lvals : vals.length ≤ 9223372036854775807) (p0 p1 : Int) (bdp0 : 0 ≤ p0 ∧ p0 < 18446744073709551616) (bdp1 : 0 ≤ p1 ∧ p1 < 18446744073709551616) :
    Calls Tryd.prog 3 #[.int .i64 digits, .slice Avals vals.length cvals, .agg #[.int .u64 p0, .int .u64 p1]] w fun e w' => e = .returned (.bool true) ∧ Below w.heap.size w w' := by
  have HPQ : Hid ((0 ≤ p0 ∧ p0 < 18446744073709551616) ∧ (0 ≤ p1 ∧ p1 < 18446744073709551616)) := ⟨bdp0, bdp1⟩
  have HR : Hid (RdP w Avals vals) := rvals
  have HO : Hid (okP vals) := bdvals
  have HTN := Lib.hid hTens
  clear rvals bdvals bddigits bdp0 bdp1 hTens
  obtain ⟨len, hlen⟩ : ∃ len, vals.length = len := ⟨_, rfl⟩
  have HLN := Lib.hid hlen
  rw [hlen] at lvals ⊢
  clear hlen
  go_enter Tryd.func3, Tryd.ntmps3
  have hb0 : Below w.heap.size w (w.alloc (.cells #[.int .u64 p0, .int .u64 p1] 25)) := (Below.refl _ _).alloc (Nat.le_refl _) _
  have r2 := At.new' w #[.int .u64 p0, .int .u64 p1] 25 rfl
  go_wp2_with fail
  obtain ⟨rb, hrb⟩ : ∃ r, w.heap.size = r := ⟨_, rfl⟩
  obtain ⟨W1, hW1⟩ : ∃ W1, w.alloc (.cells #[.int .u64 p0, .int .u64 p1] 25) = W1 := ⟨_, rfl⟩
  rw [hW1] at hb0 r2 ⊢
  rw [hrb] at r2
  try rw [hrb]
  clear hW1 hrb
  refine (alive_any _ (HTN.out.below hb0)).mono ?_
  rintro e w1 ⟨rfl, hb⟩
  have hb1 := keep1 hb0 hb
  replace r2 := r2.below hb
  clear hb0 hb
  go_wp2_with fail
  refine (build_any Avals len cvals vals digits w1 (HTN.out.below hb1) HLN.out lvals (HR.out.below hb1) HO.out).mono ?_
  rintro e w2 (⟨hn, rfl, hb⟩ | ⟨hP, b, m, S, rfl, hB⟩)
  · have hb2 := keep1 hb1 hb
    clear hn hb hb1
    go_wp2
    go_ret
    exact ⟨rfl, hb2⟩
  · have HP := Lib.hid hP
    have HV := Lib.hid (hP.vok HO.out)
    have HB2 : Hid (Below w.heap.size w w2) := keep1 hb1 (Two.below hB)
    have HX2 := Lib.hid (Two.x hB)
    have HY2 := Lib.hid (Two.y hB)
    have HR2 := Lib.hid ((HR.out.below hb1).below (Two.below hB))
    replace r2 := r2.below (Two.below hB)
    have f2 := r2.two
    have l2 := r2.lt
    clear hP hb1 hB HTN HR
    go_wp2_with fail
    refine (rgood_any p0 p1 w2 HPQ.out.1.1 HPQ.out.1.2 HPQ.out.2.1 HPQ.out.2.2).mono ?_
    rintro e w3 ⟨rfl, hb⟩
    have HB3 := Lib.hid (keep1 HB2.out hb)
    have HX3 := Lib.hid (HX2.out.below hb)
    have HY3 := Lib.hid (HY2.out.below hb)
    have HR3 := Lib.hid (HR2.out.below hb)
    replace r2 := r2.below hb
    clear hb HB2 HX2 HY2 HR2 f2 l2
    by_cases hgp : goodF p0 p1 = true
    rotate_left
    · have hgf : goodF p0 p1 = false := by simpa using hgp
      rw [hgf]
      clear hgp hgf
      go_wp2
      go_ret
      exact ⟨rfl, HB3.out⟩
    rw [hgp]
    have HGP := Lib.hid hgp
    clear hgp
    by_cases hl0 : len = 0
    · subst hl0
      go_wp2
      go_ret
      exact ⟨rfl, HB3.out⟩
    have hl0' : ((len : Int) == 0) = false := beq_eq_false_iff_ne.2 (by omega)
    have hl0'' : (len == 0) = false := beq_eq_false_iff_ne.2 hl0
    have HVN : Hid (vals ≠ []) := fun e => by have := HLN.out; rw [e] at this; simp at this; omega
    have HTP : Hid (0 < sumP vals ∧ sumP vals ≤ 9223372036854775807) := ⟨by have := HV.out.sum0; have : sumP vals ≠ 0 := fun e => HVN.out (HV.out.empty.1 e); omega, HV.out.sum⟩
    have HIP := Lib.hid (placeT_is HPQ.out.1.1 HTP.out.1 (by have := HTP.out; omega) HGP.out)
    have HE1 : Hid (placeE p0 p1 (sumP vals) = 0) := by show _ = _; unfold placeE; rw [if_pos HGP.out, if_neg (by have := HTP.out; omega)]
    obtain ⟨x, hx, hix⟩ := exactV_some HV.out.pos HIP.out.one HIP.out.le
    have HXR : Hid (-9223372036854775808 ≤ x ∧ x ≤ 9223372036854775807) := by
      obtain ⟨v, hv, e⟩ := hix.mem
      rw [← e]; exact (HO.out v hv).1
    have HXE : Hid (eLow vals ≤ x ∧ x ≤ eHigh vals) := by
      obtain ⟨v, hv, e⟩ := hix.mem
      rw [← e]; exact eLow_le hv
    have HQV : Hid (quantD (standV (repM (gOf digits))) vals p0 p1 = min (max (standV (repM (gOf digits)) x) (eLow vals)) (eHigh vals)) := by show _ = _; unfold quantD; rw [if_pos HE1.out, hx]; rfl
    have HCL := Lib.hid (quant_close HXR.out.1 HXR.out.2 HXE.out.1 HXE.out.2 (tenD_le digits))
    rw [← HQV.out] at HCL
    have HQR : Hid (-9223372036854775808 ≤ quantD (standV (repM (gOf digits))) vals p0 p1 ∧ quantD (standV (repM (gOf digits))) vals p0 p1 ≤ 9223372036854775807) := by
      rw [HQV.out]
      obtain ⟨⟨v, mv, ev⟩, ⟨v', mv', ev'⟩⟩ := eLow_mem HVN.out
      have r1 := (HO.out v mv).1
      have r2 := (HO.out v' mv').1
      rw [ev] at r1
      rw [ev'] at r2
      have := HXE.out
      show _ ∧ _
      constructor <;> omega
    have HHX := Lib.hid hx
    have HPT : Hid (∀ W, Below w3.heap.size w3 W → Calls Tryd.prog 13 #[.pointer (some ⟨m, 0, none⟩)] W fun e w' => e = .returned (.int .u64 (sumP vals)) ∧ Below W.heap.size W w') := fun W hW => btotal_any m (.slice none 0 0) (.slice none 0 0) digits 0 4096 Avals len cvals vals W (HY3.out.below hW) HLN.out (by have := HP.out.n; have := HLN.out; omega) (HR3.out.below hW) HV.out.pos HV.out.sum
    have HPL := Lib.hid fun W => rplace_any p0 p1 (sumP vals) W HPQ.out.1.1 HPQ.out.1.2 HPQ.out.2.1 HPQ.out.2.2 (by have := HTP.out; omega) (by have := HTP.out; omega)
    rw [HE1.out] at HPL
    have HEX := Lib.hid fun W (hW : Below w3.heap.size w3 W) => exact_any Avals len cvals vals (placeT p0 p1 (sumP vals)) W HLN.out (by have := HP.out.n; have := HLN.out; omega) (HR3.out.below hW) HV.out.pos HV.out.sum
    rw [HHX.out] at HEX
    dsimp only [Option.getD_some, Option.isSome_some] at HEX
    have HQU := Lib.hid fun W (hW : Below w3.heap.size w3 W) => hquant_v b S digits 0 vals p0 p1 W (HX3.out.below hW) HV.out HPQ.out.1.1 HPQ.out.1.2 HPQ.out.2.1 HPQ.out.2.2
    rw [HE1.out] at HQU
    obtain ⟨tt, htt⟩ : ∃ q, sumP vals = q := ⟨_, rfl⟩
    rw [htt] at HPT HPL HEX
    obtain ⟨tp, htp⟩ : ∃ q, placeT p0 p1 tt = q := ⟨_, rfl⟩
    rw [htp] at HPL HEX
    obtain ⟨qv, hqv⟩ : ∃ q, quantD (standV (repM (gOf digits))) vals p0 p1 = q := ⟨_, rfl⟩
    rw [hqv] at HQU HQR HCL
    have HWI := Lib.hid fun W => rwithin_any qv x 1 (tenD digits : Nat) W HQR.out.1 HQR.out.2 HXR.out.1 HXR.out.2 (by omega) (by omega) (by omega) (by unfold tenD; (repeat' split) <;> omega) (by have := HCL.out; rw [Int.mul_one]; rw [← Int.natCast_mul]; omega)
    clear htt htp hqv hx hix HIP HE1 HQV HCL HQR HHX HTP HVN HGP HXE HXR
    have HDG : Hid (1 ≤ digits ∧ digits ≤ 4) := HP.out.m
    go_wp2
    have hfar1 := fun x : Far w3 => (x.at r2).two
    refine wp_region_far (by kernel_rfl) (by kernel_rfl) ?_
    repeat (first | go_big_quiet_skip | (go_big_quiet_want; go_big_quiet_op; first | go_big_quiet_on | (apply Exists.intro; refine ⟨fun _ => ?_, ?_⟩; (focus (first | (with_reducible refine far_of (HPT.out _ (Far.below _))) | (with_reducible refine far_of (HPL.out _)))); go_big_quiet_on)))
    refine wpQuiet_nil ?_
    rintro _ ⟨xq, rfl⟩
    clear hfar1
    have HB4 : Hid (Below w3.heap.size w3 xq.far) := xq.below
    replace r2 := r2.below xq.below
    obtain ⟨W4, hW4⟩ : ∃ W, xq.far = W := ⟨_, rfl⟩
    rw [hW4] at HB4 r2 ⊢
    clear hW4 HPT HPL
    go_wp2_with fail
    refine (HEX.out W4 HB4.out).mono ?_
    rintro e w5 ⟨rfl, hb⟩
    have HB5 := Lib.hid (keep1 HB4.out hb)
    replace r2 := r2.below hb
    have f2 := r2.two
    have l2 := r2.lt
    clear hb HB4 HEX
    go_wp2_with fail
    refine (HQU.out w5 HB5.out).mono ?_
    rintro e w6 ⟨rfl, hb⟩
    have HB6 := Lib.hid (keep1 HB3.out (keep1 HB5.out hb))
    clear hb HB5 HQU f2 l2 r2
    go_wp2
    go_loopw [16, 17] (fun t i wr => ∃ k : Nat, k ≤ 4 ∧ (k : Int) ≤ digits ∧ i = .int .i64 k ∧ t = .int .u64 ((10 ^ k : Nat) : Int) ∧ Hid (Below w6.heap.size w6 wr)) (fun _ i _ => 4 - (intOf i).toNat)
    case atStart => exact ⟨0, by omega, by have := HDG.out; omega, rfl, rfl, Below.refl _ _⟩
    case round =>
      obtain ⟨k, hk4, hkd, rfl, rfl, HBK⟩ := hrel
      by_cases hlt : (k : Int) < digits
      · rcases (by have := HDG.out; omega : k = 0 ∨ k = 1 ∨ k = 2 ∨ k = 3) with rfl | rfl | rfl | rfl
        · go_wp2
          go_roundw
          case rel => exact ⟨1, by omega, by omega, by simp, by simp [IntKind.wrap_u64], HBK⟩
          case measure => simp [intOf]
        · go_wp2
          go_roundw
          case rel => exact ⟨2, by omega, by omega, by simp, by simp [IntKind.wrap_u64], HBK⟩
          case measure => simp [intOf]
        · go_wp2
          go_roundw
          case rel => exact ⟨3, by omega, by omega, by simp, by simp [IntKind.wrap_u64], HBK⟩
          case measure => simp [intOf]
        · go_wp2
          go_roundw
          case rel => exact ⟨4, by omega, by omega, by simp, by simp [IntKind.wrap_u64], HBK⟩
          case measure => simp [intOf]
      · have HTE : Hid (((10 ^ k : Nat) : Int) = (tenD digits : Nat)) := by
          have hdk : digits = k := by omega
          show _ = _
          rw [hdk]
          rcases (by have := HDG.out; omega : k = 1 ∨ k = 2 ∨ k = 3 ∨ k = 4) with rfl | rfl | rfl | rfl <;> rfl
        rw [HTE.out]
        obtain ⟨tn, htn⟩ : ∃ t : Int, ((tenD digits : Nat) : Int) = t := ⟨_, rfl⟩
        rw [htn] at HWI ⊢
        clear htn HTE
        go_wp2_with fail
        refine (HWI.out wr).mono ?_
        rintro e w8 ⟨rfl, hb⟩
        have HB8 := Lib.hid (keep1 HB6.out (keep1 HBK.out hb))
        clear hb HB6 HBK HWI hlt
        go_wp2
        go_ret
        exact ⟨rfl, HB8.out⟩
end Go.Proofs.YtnkkdciecjhpoaaDoor
