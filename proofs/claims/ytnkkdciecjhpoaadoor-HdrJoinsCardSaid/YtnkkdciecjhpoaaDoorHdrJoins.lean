/- The walk of the statement HdrJoins. -/
import Derived.Test.YtnkkdciecjhpoaaDoorProg
import Derived.Test.YtnkkdciecjhpoaaDoorOpen
import Derived.Test.YtnkkdciecjhpoaaDoorPlayAll
import Derived.Test.YtnkkdciecjhpoaaDoorRef15
import Derived.Test.YtnkkdciecjhpoaaDoorValRow
namespace Go.Proofs.YtnkkdciecjhpoaaDoor
open Go.RowKit

/-- Both sketches, the other's bins and its values. -/
structure JF (w W : World) (s o u : Nat) (S So : List Nat) (d : Int) (a b : List (Int × Int)) (Ab : Option Addr) (lb cb : Nat) : Prop where
  hs : HdV W s S d 0 a
  ho : HdV W o So d 0 b
  hu : BinsAt W u (.slice none 0 0) (.slice none 0 0) d 0 4096 Ab lb cb
  bl : Below w.heap.size w W
theorem JF.below {w W W' : World} {s o u : Nat} {S So : List Nat} {d : Int} {a b : List (Int × Int)} {Ab : Option Addr} {lb cb : Nat} (h : JF w W s o u S So d a b Ab lb cb) (hb : Below W.heap.size W W') : JF w W' s o u S So d a b Ab lb cb :=
  ⟨h.hs.below hb, h.ho.below hb, h.hu.below hb, keep1 h.bl hb⟩
/-- Joined, or nothing to join. -/
theorem hjoin_all (b : Nat) (S : List Nat) (d : Int) (l : List (Int × Int)) (m : Nat) (T : List Nat) (l2 : List (Int × Int)) (w : World) (h : HdV w b S d 0 l) (k : HdV w m T d 0 l2) (ap : Apart T S) (hv : VOk l) (kv : VOk l2) (hs : sumP l + sumP l2 ≤ 9223372036854775807) (hn : l.length + l2.length ≤ 4096) :
    Calls Tryd.prog 31 #[.pointer (some ⟨b, 0, none⟩), .pointer (some ⟨m, 0, none⟩)] w fun e w' => e = .returned (.int .i64 0) ∧ HpvR b S d 0 (l ++ l2) w w' ∧ HdV w' m T d 0 l2 := by
  by_cases h0 : l2 = []
  · subst h0
    refine (hjoin_empty b S d 0 l m T 0 w h k).mono ?_
    rintro e w' ⟨rfl, hb⟩
    rw [List.append_nil]
    exact ⟨rfl, ⟨S, GrownS.refl _ _, h.below hb, Frame.of_below hb⟩, k.below hb⟩
  · exact hjoin_v b S d 0 l m T 0 l2 w h k ap hv kv hs (.inl rfl) hn h0
set_option maxHeartbeats 2000000 in
theorem hdrJoins_walk (w : World) (hTens : TensAt w) (digits : Int) (bddigits : -9223372036854775808 ≤ digits ∧ digits ≤ 9223372036854775807) (Aa : Option Addr) (ca : Nat) (a : List (Int × Int)) (ra : Rd w Aa (a.flatMap fun x => [.int .i64 x.1, .int .u64 x.2])) (bda : ∀ x ∈ a, (-9223372036854775808 ≤ x.1 ∧ x.1 ≤ 9223372036854775807) ∧ (0 ≤ x.2 ∧ x.2 < 18446744073709551616)) (la : a.length ≤ 9223372036854775807) (Ab : Option Addr) (cb : Nat) (b : List (Int × Int)) (rb : Rd w Ab (b.flatMap fun x => [.int .i64 x.1, .int .u64 x.2])) (bdb : ∀ x ∈ b, (-9223372036854775808 ≤ x.1 ∧ x.1 ≤ 9223372036854775807) ∧ (0 ≤ x.2 ∧ x.2 < 18446744073709551616)) (lb : b.length ≤ 9223372036854775807) (p0 p1 : Int) (bdp0 : 0 ≤ p0 ∧ p0 < 18446744073709551616) (bdp1 : 0 ≤ p1 ∧ p1 < 18446744073709551616) :
    Calls Tryd.prog 7 #[.int .i64 digits, .slice Aa a.length ca, .slice Ab b.length cb, .agg #[.int .u64 p0, .int .u64 p1]] w fun e w' => e = .returned (.bool true) ∧ Below w.heap.size w w' := by
  have HPQ : Hid ((0 ≤ p0 ∧ p0 < 18446744073709551616) ∧ (0 ≤ p1 ∧ p1 < 18446744073709551616)) := ⟨bdp0, bdp1⟩
  have HR : Hid (RdP w Aa a) := ra
  have HO : Hid (okP a) := bda
  have HRB : Hid (RdP w Ab b) := rb
  have HOB : Hid (okP b) := bdb
  have HTN := Lib.hid hTens
  clear ra bda rb bdb bddigits bdp0 bdp1 hTens
  obtain ⟨la', hla⟩ : ∃ len, a.length = len := ⟨_, rfl⟩
  have HLA := Lib.hid hla
  rw [hla] at la ⊢
  obtain ⟨lb', hlb⟩ : ∃ len, b.length = len := ⟨_, rfl⟩
  have HLB := Lib.hid hlb
  rw [hlb] at lb ⊢
  clear hla hlb
  go_enter Tryd.func7, Tryd.ntmps7
  have hb0 : Below w.heap.size w (w.alloc (.cells #[.int .u64 p0, .int .u64 p1] 25)) := (Below.refl _ _).alloc (Nat.le_refl _) _
  have r2 := At.new' w #[.int .u64 p0, .int .u64 p1] 25 rfl
  go_wp2_with fail
  obtain ⟨pr, hpr⟩ : ∃ r, w.heap.size = r := ⟨_, rfl⟩
  obtain ⟨W1, hW1⟩ : ∃ W1, w.alloc (.cells #[.int .u64 p0, .int .u64 p1] 25) = W1 := ⟨_, rfl⟩
  rw [hW1] at hb0 r2 ⊢
  rw [hpr] at r2
  have HPR : Hid (pr < W1.heap.size) := r2.lt
  try rw [hpr]
  clear hW1 hpr
  refine (alive_any _ (HTN.out.below hb0)).mono ?_
  rintro e w1 ⟨rfl, hb⟩
  have hb1 := keep1 hb0 hb
  have HZ1 : Hid (pr < w1.heap.size) := Nat.lt_of_lt_of_le HPR.out hb.size
  replace r2 := r2.below hb
  clear hb0 hb HPR
  go_wp2_with fail
  refine (build_any Aa la' ca a digits w1 (HTN.out.below hb1) HLA.out la (HR.out.below hb1) HO.out).mono ?_
  rintro e w2 (⟨hn, rfl, hb⟩ | ⟨hP, s, m, S, rfl, hB⟩)
  · have hb2 := keep1 hb1 hb
    clear hn hb
    go_wp2_with fail
    refine (build_any Ab lb' cb b digits w2 (HTN.out.below hb2) HLB.out lb (HRB.out.below hb2) HOB.out).mono ?_
    rintro e w3 (⟨hn, rfl, hb⟩ | ⟨hP, s, m, S, rfl, hB⟩)
    · have HB3 := Lib.hid (keep1 hb2 hb)
      clear hb2 hn hb hb1
      go_wp2
      go_ret
      exact ⟨rfl, HB3.out⟩
    · have HB3 := Lib.hid (keep1 hb2 (Two.below hB))
      clear hb2 hP hB hb1
      go_wp2
      go_ret
      exact ⟨rfl, HB3.out⟩
  · have HP := Lib.hid hP
    have HB1 := Lib.hid hb1
    have H2 := Lib.hid hB
    have hb2 := keep1 hb1 (Two.below hB)
    replace r2 := r2.below (Two.below hB)
    clear hP hb1 hB
    go_wp2_with fail
    refine (build_any Ab lb' cb b digits w2 (HTN.out.below hb2) HLB.out lb (HRB.out.below hb2) HOB.out).mono ?_
    rintro e w3 (⟨hn, rfl, hb⟩ | ⟨hP, o, u, So, rfl, hB⟩)
    · have HB3 := Lib.hid (keep1 hb2 hb)
      clear hb2 hn hb H2
      go_wp2
      go_ret
      exact ⟨rfl, HB3.out⟩
    · have HPB := Lib.hid hP
      have H3 := Lib.hid hB
      have HVA := Lib.hid (HP.out.vok HO.out)
      have HVB := Lib.hid (HPB.out.vok HOB.out)
      have HSUM : Hid (sumP a + sumP b ≤ 9223372036854775807) := by have := HP.out.sum; have := HPB.out.sum; show _ ≤ _; omega
      have HVV := Lib.hid (HVA.out.app HVB.out HSUM.out)
      have HAPP : Hid (Apart So S ∧ u ∉ S ∧ (∀ k ∈ S, w1.heap.size ≤ k ∧ k < w3.heap.size)) := by
        have h1 := Two.ws H2.out
        have h2 := Two.ws H3.out
        have h3 := Two.wt H3.out
        have z := (Two.below H3.out).size
        refine ⟨fun k hk hm => ?_, fun hm => ?_, fun k hk => ⟨(h1 k hk).1, by have := (h1 k hk).2; omega⟩⟩
        · have := (h1 k hm).2; have := (h2 k hk).1; omega
        · have := (h1 u hm).2; have := (h3 u (by simp)).1; omega
      have HF3 : Hid (JF w w3 s o u S So digits a b Ab lb' cb) := ⟨(Two.x H2.out).below (Two.below H3.out), Two.x H3.out, Two.y H3.out, keep1 hb2 (Two.below H3.out)⟩
      have HMA : Hid (digits = digits ∧ 1 ≤ digits ∧ digits ≤ 4) := ⟨rfl, HP.out.m.1, HP.out.m.2⟩
      replace r2 := r2.below (Two.below hB)
      have HPRS : Hid (pr ∉ S) := fun hm => by have := (HAPP.out.2.2 pr hm).1; have := HZ1.out; omega
      have la60 : la' ≤ 60 := by have := HP.out.n; have := HLA.out; omega
      have lb60 : lb' ≤ 60 := by have := HPB.out.n; have := HLB.out; omega
      have HLAB : Hid ((a ++ b).length = la' + lb') := by show _ = _; rw [List.length_append, HLA.out, HLB.out]
      clear hP hB hb2 H2 H3 HTN
      have HOE := Lib.hid (OwnV.empty w3 w3.heap.size (Nat.le_refl _))
      have hbe : Below w3.heap.size w3 (w3.alloc (.cells #[] 60)) := (Below.refl _ _).alloc (Nat.le_refl _) _
      have HBE := Lib.hid hbe
      have HRA2 := Lib.hid (RdP.below (HR.out.below HF3.out.bl) hbe)
      have HRB5 := Lib.hid (RdP.below HRB.out HF3.out.bl)
      clear hbe
      go_wp2_with (first | (at_builtin; refine wpList_append_vals rfl _ _ rfl w3.heap.size (some ⟨w3.heap.size, 0, none⟩) 0 0 [] rfl rfl HOE.out Aa la' ca a rfl HLA.out HRA2.out (by omega) w3 HBE.out (by simp) ?_; intro A1 cap1 W1 HO1 hB1; simp only [Nat.zero_add]) | (at_builtin; refine wpList_append_vals rfl _ _ rfl w3.heap.size A1 cap1 la' ([] ++ a) rfl HLA.out HO1.out Ab lb' cb b rfl HLB.out (RdP.below HRB5.out hB1) (by omega) w3 hB1 hB1.size ?_; intro A2 cap2 W2 HO2 hB2) | fail)
      have HRC : Hid (RdP W2 A2 (a ++ b)) := HO2.out.rd
      have HBL : Hid (∀ g, A2 = some g → g.block ∉ S) := fun g hg hm => by have h1 := (HO2.out.base_le g hg).1; have h2 := (HAPP.out.2.2 _ hm).2; omega
      have HF4 := Lib.hid (HF3.out.below hB2)
      replace r2 := r2.below hB2
      have hz2 := hB2.size
      clear HO2 hB1 HO1 HOE HBE HRA2 HRB5 HF3
      have am := At.new W2 #[.slice none 0 0, .slice none 0 0, .int .i64 digits, .int .i64 0, .int .i64 4096, .slice A2 (la' + lb') cap2] 63
      have hba : Below W2.heap.size W2 (W2.alloc (.cells #[.slice none 0 0, .slice none 0 0, .int .i64 digits, .int .i64 0, .int .i64 4096, .slice A2 (la' + lb') cap2] 63)) := (Below.refl _ _).alloc (Nat.le_refl _) _
      obtain ⟨n, hn⟩ : ∃ n, W2.heap.size = n := ⟨_, rfl⟩
      have HN : Hid (n ∉ S ∧ W2.heap.size = n) := ⟨fun hm => by have := (HAPP.out.2.2 _ hm).2; omega, hn⟩
      obtain ⟨W4, hW4⟩ : ∃ W4, W2.alloc (.cells #[.slice none 0 0, .slice none 0 0, .int .i64 digits, .int .i64 0, .int .i64 4096, .slice A2 (la' + lb') cap2] 63) = W4 := ⟨_, rfl⟩
      rw [hW4] at am hba ⊢
      have HF5 := Lib.hid (HF4.out.below hba)
      replace r2 := r2.below hba
      have HRC5 := Lib.hid (HRC.out.below hba)
      have HZ5 : Hid (w3.heap.size ≤ W4.heap.size) := Nat.le_trans hz2 hba.size
      rw [hn] at am
      try rw [hn]
      have HAM := Lib.hid am
      have HR2 := Lib.hid r2
      clear hW4 hn hba hB2 hz2 HF4 HRC am r2
      refine (hjoin_all s S digits a o So b W4 HF5.out.hs HF5.out.ho HAPP.out.1 HVA.out HVB.out HSUM.out (by have := HLA.out; have := HLB.out; omega)).mono ?_
      rintro e w5 ⟨rfl, ⟨S', hg, hH, hF⟩, hO⟩
      have HWS : Hid (Within S w.heap.size W4.heap.size) := fun k hk => ⟨by have := (HAPP.out.2.2 k hk).1; have := HB1.out.size; omega, by have := (HAPP.out.2.2 k hk).2; have := HZ5.out; omega⟩
      have HB5 : Hid (Below w.heap.size w w5) := hF.below' HF5.out.bl HF5.out.bl.size HWS.out
      have HU5 : Hid (BinsAt w5 u (.slice none 0 0) (.slice none 0 0) digits 0 4096 Ab lb' cb) := hF.at HF5.out.hu HAPP.out.2.1
      have HN5 : Hid (BinsAt w5 n (.slice none 0 0) (.slice none 0 0) digits 0 4096 A2 (la' + lb') cap2) := hF.at HAM.out HN.out.1
      have HRC6 : Hid (RdP w5 A2 (a ++ b)) := Frame.rd hF HRC5.out HBL.out
      have hr5 := hF.at HR2.out HPRS.out
      have HS5 : Hid (HdV w5 s S' digits 0 (a ++ b)) := hH
      have HO5 := Lib.hid hO
      have HRB6 := Lib.hid (HRB.out.below HB5.out)
      have f5 := hr5.two
      have l5 := hr5.lt
      clear hg hH hF hO HWS HF5 HRC5 HAM HR2 HN HAPP HPRS
      go_wp2_with fail
      refine (hquant_v s S' digits 0 (a ++ b) p0 p1 w5 HS5.out HVV.out HPQ.out.1.1 HPQ.out.1.2 HPQ.out.2.1 HPQ.out.2.2).mono ?_
      rintro e w6 ⟨rfl, hb⟩
      have HS6 := Lib.hid (HS5.out.below hb)
      have HO6 := Lib.hid (HO5.out.below hb)
      have HU6 := Lib.hid (HU5.out.below hb)
      have HN6 := Lib.hid (HN5.out.below hb)
      have HRC7 := Lib.hid (HRC6.out.below hb)
      have HRB7 := Lib.hid (HRB6.out.below hb)
      have HB6 := Lib.hid (keep1 HB5.out hb)
      replace hr5 := hr5.below hb
      replace f5 := hr5.two
      replace l5 := hr5.lt
      clear hb HS5 HO5 HU5 HN5 HRC6 HRB6 HB5
      go_wp2_with fail
      refine (rquant15_any n (.slice none 0 0) (.slice none 0 0) digits 0 4096 A2 (la' + lb') cap2 (standV (repM (gOf digits))) (a ++ b) p0 p1 w6 HN6.out (standD_ok w6 n _ _ digits 0 4096 A2 (la' + lb') cap2 HN6.out HMA.out.2.1 HMA.out.2.2) HLAB.out (by omega) HRC7.out HVV.out.ok HVV.out.pos HVV.out.sum HPQ.out.1.1 HPQ.out.1.2 HPQ.out.2.1 HPQ.out.2.2).mono ?_
      rintro e w7 ⟨rfl, hb⟩
      have HS7 := Lib.hid (HS6.out.below hb)
      have HO7 := Lib.hid (HO6.out.below hb)
      have HU7 := Lib.hid (HU6.out.below hb)
      have HN7 := Lib.hid (HN6.out.below hb)
      have HRC8 := Lib.hid (HRC7.out.below hb)
      have HRB8 := Lib.hid (HRB7.out.below hb)
      have HB7 := Lib.hid (keep1 HB6.out hb)
      clear hb HS6 HO6 HU6 HN6 HRC7 HRB7 HB6 hr5 f5 l5
      obtain ⟨qv, hqv⟩ : ∃ q, quantD (standV (repM (gOf digits))) (a ++ b) p0 p1 = q := ⟨_, rfl⟩
      obtain ⟨ev, hev⟩ : ∃ q, placeE p0 p1 (sumP (a ++ b)) = q := ⟨_, rfl⟩
      simp only [hqv, hev]
      clear hqv hev
      go_wp2_with fail
      refine (hsame_any s S' digits 0 (a ++ b) n (.slice none 0 0) (.slice none 0 0) 0 4096 A2 (la' + lb') cap2 w7 HS7.out HN7.out HLAB.out (by omega) HRC8.out HVV.out HMA.out.2.1 HMA.out.2.2).mono ?_
      rintro e w8 ⟨rfl, hb⟩
      have HO8 := Lib.hid (HO7.out.below hb)
      have HU8 := Lib.hid (HU7.out.below hb)
      have HRB9 := Lib.hid (HRB8.out.below hb)
      have HB8 := Lib.hid (keep1 HB7.out hb)
      clear hb HS7 HO7 HU7 HN7 HRC8 HRB8 HB7
      go_wp2_with fail
      refine (hsame_any o So digits 0 b u (.slice none 0 0) (.slice none 0 0) 0 4096 Ab lb' cb w8 HO8.out HU8.out HLB.out (by omega) HRB9.out HVB.out HMA.out.2.1 HMA.out.2.2).mono ?_
      rintro e w9 ⟨rfl, hb⟩
      have HB9 := Lib.hid (keep1 HB8.out hb)
      clear hb HO8 HU8 HRB9 HB8
      go_wp2
      go_ret
      exact ⟨rfl, HB9.out⟩
end Go.Proofs.YtnkkdciecjhpoaaDoor
