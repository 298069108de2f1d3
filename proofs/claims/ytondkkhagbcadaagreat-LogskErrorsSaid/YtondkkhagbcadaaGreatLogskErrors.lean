/- The walk of the statement LogskErrors. -/
import Derived.Test.YtondkkhagbcadaaGreatProg
import Derived.Test.YtondkkhagbcadaaGreatOpen
import Derived.Test.YtondkkhagbcadaaGreatLsBuild
import Derived.Test.YtondkkhagbcadaaGreatCase14
namespace Go.Proofs.YtondkkhagbcadaaGreat
open Go.RowKit

theorem cs_no {u v : Int} {k : Bool} {part : Nat → Int} {rep stand : Int → Int} (h : Cs u v 0 k part rep stand) (h' : CsNo u v 0) : False := by
  rcases h with ⟨_, h1, _⟩ | ⟨_, _, un, vn, L, rfl, rfl, ht, _⟩
  · omega
  · rcases h' with ⟨_, hg | ⟨un', vn', e1, e2, _, _, _, hn⟩⟩
    · rw [goodC_iff.2 ⟨by have := ht.u0; omega, by have := ht.uv; omega, by have := ht.v1; omega⟩] at hg
      cases hg
    · obtain rfl : un = un' := by omega
      obtain rfl : vn = vn' := by omega
      have := ht.h
      rw [hn] at this
      cases this
theorem cs_good {u v : Int} {part : Nat → Int} {rep stand : Int → Int} (h : Cs u v 0 false part rep stand) : goodC u v = true := by
  rcases h with ⟨_, h1, _⟩ | ⟨_, _, un, vn, L, rfl, rfl, ht, _⟩
  · omega
  · exact goodC_iff.2 ⟨by have := ht.u0; omega, by have := ht.uv; omega, by have := ht.v1; omega⟩
/-- What New says of a config. -/
theorem lsnew_says (u v z most : Int) (w : World) (h1 : 0 ≤ u) (h2 : u < 18446744073709551616) (h3 : 0 ≤ v) (h4 : v < 18446744073709551616) :
    Calls Tryz.prog 32 #[.agg #[.int .u64 u, .int .u64 v, .int .i64 z, .int .i64 most]] w fun e w' => (∃ (x : Value) (f : Int), e = .returned (.tuple #[x, .int .i64 f]) ∧
      Hid ((f = 0 ∧ goodC u v = true ∧ 0 ≤ z ∧ z ≤ 1 ∧ 1 ≤ most ∧ most ≤ 4096) ∨ ((f = 1 ∨ f = 6) ∧ (goodC u v = false → f = 1) ∧ ∀ part rep stand, Cs u v 0 false part rep stand → ¬ ((z = 0 ∨ z = 1) ∧ 1 ≤ most ∧ most ≤ 4096)))) ∧ Below w.heap.size w w' := by
  rcases cs_cases (u := u) (v := v) (d := 0) h1 h3 (by omega) (by omega) with ⟨k, part, rep, stand, hc⟩ | hc
  · have hk : k = false := by
      rcases hc with ⟨_, h, _⟩ | ⟨h, _⟩
      · omega
      · exact h
    subst hk
    by_cases hm : (z = 0 ∨ z = 1) ∧ 1 ≤ most ∧ most ≤ 4096
    · obtain ⟨s, rfl⟩ : ∃ s, sideZ s = z := by
        rcases hm.1 with h | h
        · exact ⟨true, h.symm⟩
        · exact ⟨false, h.symm⟩
      refine (lsnew_yes u v part rep stand s most w hc hm.2).mono ?_
      rintro e w' ⟨⟨b, S, he, hW, hN⟩, hb⟩
      exact ⟨⟨_, 0, he, .inl ⟨rfl, cs_good hc, by omega, by omega, hm.2⟩⟩, hb⟩
    · refine (lsnew_side u v part rep stand z most w hc hm).mono ?_
      rintro e w' ⟨he, hb⟩
      exact ⟨⟨_, 1, he, .inr ⟨.inl rfl, fun _ => rfl, fun _ _ _ _ => hm⟩⟩, hb⟩
  · refine (lsnew_no u v z most w h1 h2 h3 h4 hc).mono ?_
    rintro e w' ⟨⟨f, he, hf⟩, hb⟩
    exact ⟨⟨_, f, he, .inr ⟨hf.1, hf.2, fun _ _ _ h => absurd hc fun k => cs_no h k⟩⟩, hb⟩
theorem lsjoin_vmatch (b o : Nat) (S T : List Nat) (part part' : Nat → Int) (rep rep' : Int → Int) (u v u' v' : Int) (s : Bool) (most : Int) (l l' : List (Int × Int)) (w : World) (h : LsV w b S part rep u v s most l) (h' : LsV w o T part' rep' u' v' s most l') (hne : ¬ (u = u' ∧ v = v')) :
    Calls Tryz.prog 28 #[.pointer (some ⟨b, 0, none⟩), .pointer (some ⟨o, 0, none⟩)] w fun e w' => e = .returned (.int .i64 8) ∧ Below w.heap.size w w' := by
  obtain ⟨bb, B, rfl, h⟩ := h
  obtain ⟨ob, T', rfl, h'⟩ := h'
  exact lsjoin_match b o _ _ _ _ _ _ u v (sideZ s) most u' v' w h.at' h'.at' hne
theorem lsconf_v (b : Nat) (S : List Nat) (part : Nat → Int) (rep : Int → Int) (u v : Int) (s : Bool) (most : Int) (l : List (Int × Int)) (w : World) (h : LsV w b S part rep u v s most l) :
    Calls Tryz.prog 31 #[.pointer (some ⟨b, 0, none⟩)] w fun e w' => e = .returned (.agg #[.int .u64 u, .int .u64 v, .int .i64 (sideZ s), .int .i64 most]) ∧ Below w.heap.size w w' := by
  obtain ⟨bb, B, rfl, h⟩ := h
  exact lsconf_at b _ _ _ u v (sideZ s) most w h.at'
theorem lsbins_v (b : Nat) (S : List Nat) (part : Nat → Int) (rep : Int → Int) (u v : Int) (s : Bool) (most : Int) (l : List (Int × Int)) (w : World) (h : LsV w b S part rep u v s most l) :
    ∃ bb B, BnV w bb B false part rep s most l ∧ Calls Tryz.prog 24 #[.pointer (some ⟨b, 0, none⟩)] w fun e w' => e = .returned (.pointer (some ⟨bb, 0, none⟩)) ∧ w = w' := by
  obtain ⟨bb, B, rfl, h⟩ := h
  exact ⟨bb, B, h.bn, lsbins_at b _ _ _ _ _ _ _ w h.at'⟩
/-- The sketch, the document's, the case and the other part, while the sketch turns. -/
structure LE (w W : World) (b m rb ro : Nat) (S TB : List Nat) (s : Bool) (part : Nat → Int) (rep : Int → Int) (u v most : Int) (l : List (Int × Int)) (A : Option Addr) (len cap : Nat) (cs cr : Array Value) : Prop where
  hb : LsV W b S part rep u v s most l
  hm : DocAt W m TB u v 0 (sideZ s) most A len cap
  hc : At W rb cs 27
  hr : At W ro cr 24
  bl : Below w.heap.size w W
  ap : Apart TB S
  nb : rb ∉ S
  nr : ro ∉ S
  sw : ∀ j ∈ S, w.heap.size ≤ j
section
variable {w W W' : World} {b m rb ro : Nat} {S TB : List Nat} {s : Bool} {part : Nat → Int} {rep : Int → Int} {u v most : Int} {l l' : List (Int × Int)} {A : Option Addr} {len cap : Nat} {cs cr : Array Value}
theorem LE.below (h : LE w W b m rb ro S TB s part rep u v most l A len cap cs cr) (hb : Below W.heap.size W W') : LE w W' b m rb ro S TB s part rep u v most l A len cap cs cr :=
  ⟨h.hb.below hb, h.hm.below hb, h.hc.below hb, h.hr.below hb, keep1 h.bl hb, h.ap, h.nb, h.nr, h.sw⟩
theorem LE.step (h : LE w W b m rb ro S TB s part rep u v most l A len cap cs cr) (hp : LpvR b S part rep u v s most l' W W') : ∃ S', LE w W' b m rb ro S' TB s part rep u v most l' A len cap cs cr ∧ Frame S W W' := by
  obtain ⟨S', hg, hX, hF⟩ := hp
  have n : ∀ j, j < W.heap.size → j ∉ S → j ∉ S' := fun j hj hn hm => by
    rcases hg j hm with h1 | h1
    · exact hn h1
    · omega
  refine ⟨S', ⟨hX, h.hm.frame hF h.ap, hF.at h.hc h.nb, hF.at h.hr h.nr, hF.below' h.bl h.bl.size fun j hj => ⟨h.sw j hj, h.hb.lt j hj⟩, fun j hj => n j (h.hm.lts j hj) (h.ap j hj), n _ h.hc.lt h.nb, n _ h.hr.lt h.nr, fun j hj => ?_⟩, hF⟩
  rcases hg j hj with h1 | h1
  · exact h.sw j h1
  · have := h.bl.size; omega
end
def CsW (rb : Nat) (cs : Array Value) (W : World) : Prop := At W rb cs 27
theorem CsW.at {rb : Nat} {cs : Array Value} {W : World} (h : CsW rb cs W) : At W rb cs 27 := h
theorem ratio_same (a b u v : Int) (h : a = u ∧ b = v) (w : World) : (binOp .neq 24 (.agg #[.int .u64 a, .int .u64 b]) (.agg #[.int .u64 u, .int .u64 v])).run Tryz.prog w = .ok (.bool false) w := by
  obtain ⟨rfl, rfl⟩ := h
  go_simp
theorem ratio_diff (a b u v : Int) (h : ¬ (a = u ∧ b = v)) (w : World) : (binOp .neq 24 (.agg #[.int .u64 a, .int .u64 b]) (.agg #[.int .u64 u, .int .u64 v])).run Tryz.prog w = .ok (.bool true) w := by
  go_simp
  exact fun e1 e2 => h ⟨e1, e2⟩
set_option maxRecDepth 100000 in
set_option maxHeartbeats 4000000 in
theorem logskErrors_walk (w : World) (cu cv cs cm : Int) (bdcu : 0 ≤ cu ∧ cu < 18446744073709551616) (bdcv : 0 ≤ cv ∧ cv < 18446744073709551616) (bdcs : -9223372036854775808 ≤ cs ∧ cs ≤ 9223372036854775807) (bdcm : -9223372036854775808 ≤ cm ∧ cm ≤ 9223372036854775807) (Ac : Option Addr) (cc : Nat) (c : List (Int × Int)) (rc : Rd w Ac (c.flatMap fun x => [.int .i64 x.1, .int .u64 x.2])) (bdc : ∀ x ∈ c, (-9223372036854775808 ≤ x.1 ∧ x.1 ≤ 9223372036854775807) ∧ (0 ≤ x.2 ∧ x.2 < 18446744073709551616)) (lc : c.length ≤ 9223372036854775807) (other0 other1 : Int) (bdother0 : 0 ≤ other0 ∧ other0 < 18446744073709551616) (bdother1 : 0 ≤ other1 ∧ other1 < 18446744073709551616) (x : Int) (bdx : -9223372036854775808 ≤ x ∧ x ≤ 9223372036854775807) :
    Calls Tryz.prog 9 #[.agg #[.int .u64 cu, .int .u64 cv, .int .i64 cs, .int .i64 cm, .slice Ac c.length cc], .agg #[.int .u64 other0, .int .u64 other1], .int .i64 x] w fun e w' => e = .returned (.bool true) ∧ Below w.heap.size w w' := by
  have HOO := Lib.hid (And.intro bdother0 bdother1)
  have HX := Lib.hid bdx
  clear bdother0 bdother1 bdx
  have HC0 : Hid (okP c) := bdc
  have HRC0 : Hid (RdP w Ac c) := rc
  obtain ⟨n, hn⟩ : ∃ n, c.length = n := ⟨_, rfl⟩
  have HN := Lib.hid hn
  have HUV := Lib.hid (And.intro bdcu bdcv)
  rw [hn]
  have hba : Below w.heap.size w ((w.alloc (.cells #[.int .u64 cu, .int .u64 cv, .int .i64 cs, .int .i64 cm, .slice Ac n cc] 27)).alloc (.cells #[.int .u64 other0, .int .u64 other1] 24)) := (((Below.refl _ _).alloc (by first | omega | (simp; done) | (simp; omega)) _).alloc (by first | omega | (simp; done) | (simp; omega)) _)
  have am := ((At.new' w #[.int .u64 cu, .int .u64 cv, .int .i64 cs, .int .i64 cm, .slice Ac n cc] 27 (b := w.heap.size) (by simp)).alloc (.cells #[.int .u64 other0, .int .u64 other1] 24))
  have aother := (At.new' (w.alloc (.cells #[.int .u64 cu, .int .u64 cv, .int .i64 cs, .int .i64 cm, .slice Ac n cc] 27)) #[.int .u64 other0, .int .u64 other1] 24 (b := w.heap.size + 1) (by simp))
  clear bdcu bdcv bdcs bdcm rc bdc lc hn
  go_enter Tryz.func9, Tryz.ntmps9
  go_wp2_with fail
  obtain ⟨W1, hW1⟩ : ∃ W, ((w.alloc (.cells #[.int .u64 cu, .int .u64 cv, .int .i64 cs, .int .i64 cm, .slice Ac n cc] 27)).alloc (.cells #[.int .u64 other0, .int .u64 other1] 24)) = W := ⟨_, rfl⟩
  rw [hW1] at hba am aother
  simp only [hW1]
  clear hW1
  refine (alive_any W1).mono ?_
  rintro e w2 ⟨rfl, hb⟩
  have HB2 := Lib.hid (keep1 hba hb)
  have HAM := Lib.hid (am.below hb)
  have HRother := Lib.hid (aother.below hb)
  have f2 := HAM.out.five
  have l2 := HAM.out.lt
  clear hba hb am aother
  go_wp2_with fail
  clear f2 l2
  refine (lsreset_nil w2).mono ?_
  rintro e w3 ⟨rfl, rfl⟩
  go_wp2_with fail
  refine (lsends_nil w2).mono ?_
  rintro e w3 ⟨rfl, rfl⟩
  go_wp2_with fail
  refine (lsquant_nil 0 1 w2).mono ?_
  rintro e w3 ⟨rfl, hb⟩
  have HB3 := Lib.hid (keep1 HB2.out hb)
  have HA3 := Lib.hid (HAM.out.below hb)
  have HR3 := Lib.hid (HRother.out.below hb)
  clear hb HB2 HAM HRother
  go_wp2_with fail
  refine (lsput_nil 1 1 w3).mono ?_
  rintro e w4 ⟨rfl, rfl⟩
  go_wp2_with fail
  refine (lsjoin_nil w3).mono ?_
  rintro e w4 ⟨rfl, rfl⟩
  go_wp2_with fail
  refine (lsbins_nil w3).mono ?_
  rintro e w4 ⟨rfl, rfl⟩
  go_wp2_with fail
  refine (lsconf_nil w3).mono ?_
  rintro e w4 ⟨rfl, hb⟩
  have HB4 := Lib.hid (keep1 HB3.out hb)
  have HA4 := Lib.hid (HA3.out.below hb)
  have HR4 := Lib.hid (HR3.out.below hb)
  clear hb HB3 HA3 HR3
  go_wp2_with fail
  refine (lsset_nil 0 0 w4).mono ?_
  rintro e w5 ⟨rfl, rfl⟩
  have f4 := HA4.out.five
  have l4 := HA4.out.lt
  go_wp2_with fail
  refine (lsnew_says cu cv cs cm w4 HUV.out.1.1 HUV.out.1.2 HUV.out.2.1 HUV.out.2.2).mono ?_
  rintro e w5 ⟨⟨x0, f, rfl, HF⟩, hb⟩
  have HB5 := Lib.hid (keep1 HB4.out hb)
  have HA5 := Lib.hid (HA4.out.below hb)
  have HR5 := Lib.hid (HR4.out.below hb)
  clear hb HB4 HA4 HR4 f4 l4
  have f5 := HA5.out.five
  have l5 := HA5.out.lt
  have HGD := Lib.hid (rgoodC_any cu cv w5 HUV.out.1.1 HUV.out.1.2 HUV.out.2.1 HUV.out.2.2)
  rcases HF.out with ⟨rfl, hg, a1, a2, a3, a4⟩ | ⟨hf, hfg, hno⟩
  rotate_left
  · have HNO : Hid (∀ W e w', BuildL cu cv cs cm Ac n cc c W e w' → e = .returned (.tuple #[.pointer none, .pointer none, .bool false]) ∧ Below W.heap.size W w') := fun W e w' h => by
      rcases h with h | ⟨hp, s, part, rep, stand, b, m, S, TB, hs, hc, _⟩
      · exact h
      · exact absurd ⟨by cases s <;> simp [sideZ] at hs <;> omega, hp.m⟩ (hno _ _ _ hc)
    have HBN := Lib.hid fun W (hW : Below w5.heap.size w5 W) => (build_any cu cv cs cm Ac n cc c W HUV.out.1 HUV.out.2 HN.out (HRC0.out.below (keep1 HB5.out hW)) HC0.out).mono (HNO.out W)
    obtain ⟨g, hgg⟩ : ∃ g, goodC cu cv = g := ⟨_, rfl⟩
    rw [hgg] at HGD hfg
    clear HNO HF hno hgg
    cases g with
    | true =>
      have hf0 : (f == 0) = false := beq_eq_false_iff_ne.2 (by omega)
      clear hf hfg
      go_wp2_with fail
      refine HGD.out.mono ?_
      rintro e w6 ⟨rfl, hb⟩
      have HB6 := Lib.hid hb
      have f6 := (HA5.out.below hb).five
      have l6 := (HA5.out.below hb).lt
      clear hb HGD f5 l5
      go_wp2_with fail
      refine (HBN.out w6 HB6.out).mono ?_
      rintro e w7 ⟨rfl, hb⟩
      have HB7 := Lib.hid (keep1 HB5.out (keep1 HB6.out hb))
      clear hb HBN f6 l6
      go_wp2
      go_ret
      exact ⟨rfl, HB7.out⟩
    | false =>
      obtain rfl : f = 1 := hfg rfl
      clear hf hfg
      go_wp2_with fail
      refine HGD.out.mono ?_
      rintro e w6 ⟨rfl, hb⟩
      have HB6 := Lib.hid hb
      have f6 := (HA5.out.below hb).five
      have l6 := (HA5.out.below hb).lt
      clear hb HGD f5 l5
      go_wp2_with fail
      refine (HBN.out w6 HB6.out).mono ?_
      rintro e w7 ⟨rfl, hb⟩
      have HB7 := Lib.hid (keep1 HB5.out (keep1 HB6.out hb))
      clear hb HBN f6 l6
      go_wp2
      go_ret
      exact ⟨rfl, HB7.out⟩
  rw [hg] at HGD
  have d1 : decide (cm < 1) = false := decide_eq_false (by omega)
  have d2 : decide (4096 < cm) = false := decide_eq_false (by omega)
  have d3 : decide (cs < 0) = false := decide_eq_false (by omega)
  have d4 : decide (1 < cs) = false := decide_eq_false (by omega)
  clear hg a1 a2 a3 a4 HF
  go_wp2_with fail
  refine HGD.out.mono ?_
  rintro e w6 ⟨rfl, hb⟩
  have HB6 := Lib.hid (keep1 HB5.out hb)
  have HA6 := Lib.hid (HA5.out.below hb)
  have HR6 := Lib.hid (HR5.out.below hb)
  have f6 := HA6.out.five
  have l6 := HA6.out.lt
  clear hb HGD HB5 HA5 HR5 f5 l5
  go_wp2_with fail
  refine (build_any cu cv cs cm Ac n cc c w6 HUV.out.1 HUV.out.2 HN.out (HRC0.out.below HB6.out) HC0.out).mono ?_
  rintro e w7 (⟨rfl, hb⟩ | ⟨hp, s, part, rep, stand, b, m, S, TB, rfl, hc, _, rfl, hB⟩)
  · have HB7 := Lib.hid (keep1 HB6.out hb)
    clear hb HB6 f6 l6 d1 d2 d3 d4
    go_wp2
    go_ret
    exact ⟨rfl, HB7.out⟩
  have HV := Lib.hid (hp.vok HC0.out)
  have HCC := Lib.hid hc
  have HSM : Hid (0 ≤ sumP c ∧ sumP c ≤ 67553994410557440) := hp.sum
  have H60 : Hid (n ≤ 60) := by have := hp.n; have := HN.out; show _ ≤ _; omega
  have HMO := Lib.hid hp.m
  have HMW : Hid (w.heap.size ≤ m) := ((Two.wt hB) m (DocAt.mem (Two.y hB))).1 |> Nat.le_trans HB6.out.size
  have H7 : Hid (LE w w7 b m w.heap.size (w.heap.size + 1) S TB s part rep cu cv cm c Ac n cc #[.int .u64 cu, .int .u64 cv, .int .i64 (sideZ s), .int .i64 cm, .slice Ac n cc] #[.int .u64 other0, .int .u64 other1]) :=
    ⟨Two.x hB, Two.y hB, HA6.out.below (Two.below hB), HR6.out.below (Two.below hB), keep1 HB6.out (Two.below hB), (Two.ap hB).symm, fun hm => by have := ((Two.ws hB) _ hm).1; have := HA6.out.lt; omega, fun hm => by have := ((Two.ws hB) _ hm).1; have := HR6.out.lt; omega, fun j hj => Nat.le_trans HB6.out.size ((Two.ws hB) j hj).1⟩
  obtain ⟨z, hz⟩ : ∃ z, sideZ s = z := ⟨_, rfl⟩
  have HZ := Lib.hid hz
  clear hp hB hc HB6 HA6 HR6 f6 l6 d1 d2 d3 d4
  have hcs := fun W => conf_same cu cv z cm W
  rw [hz] at H7
  have HRD := Lib.hid fun W (hW : Below w.heap.size w W) => HRC0.out.below hW
  go_wp2
  have hb8 : Below w7.heap.size w7 w7.drew := (Below.refl _ _).drew
  obtain ⟨W8, hW8⟩ : ∃ W, w7.drew = W := ⟨_, rfl⟩
  rw [hW8] at hb8
  have H8 := Lib.hid (H7.out.below hb8)
  have s8 : CsW w.heap.size #[.int .u64 cu, .int .u64 cv, .int .i64 z, .int .i64 cm, .slice Ac n cc] W8 := H8.out.hc
  haveI hne : Nonempty (Held (CsW w.heap.size #[.int .u64 cu, .int .u64 cv, .int .i64 z, .int .i64 cm, .slice Ac n cc])) := ⟨⟨W8, s8⟩⟩
  have hfar := fun x : Held (CsW w.heap.size #[.int .u64 cu, .int .u64 cv, .int .i64 z, .int .i64 cm, .slice Ac n cc]) => x.held.at.five
  refine wp_region_noPanic ?_
  refine wp_region_held_drew (S := HeldS (CsW w.heap.size #[.int .u64 cu, .int .u64 cv, .int .i64 z, .int .i64 cm, .slice Ac n cc])) (by kernel_rfl) (by rw [hW8]; exact HeldS.mk' s8) (fun hHeld => ?_)
  rw [hW8] at hHeld ⊢
  clear hW8 hb8 s8 H7
  refine wpAnyH_run0 [true, true] 29 (by kernel_rfl) (by kernel_rfl) (fun _ _ _ _ h => h) (by kernel_rfl) hHeld ?_
  simp only [runOps_true, runOps_false, runOps_nil]
  repeat (first | go_big_quiet_skip | (go_big_quiet_want; go_big_quiet_op; go_big_quiet_on))
  refine wpQuiet_nil ?_
  refine wpAnyH_ready (rs := [2]) (by kernel_rfl) (by simp) ?_
  refine AllReadyH.cons rfl (fun K hK => ?_) AllReadyH.nil
  go_simp
  go_wp2_with (go_at_call 30; refine (lsput_zero b S part rep cu cv s cm x c W8 H8.out.hb HV.out).mono ?_; rintro e w9 ⟨rfl, hp⟩; obtain ⟨S2, hL, hF⟩ := H8.out.step hp)
  refine hK.out _ _ ?_ (fun hHeld => ?_)
  clear hK K
  · exact HeldS.mk' hL.hc
  have H9 := Lib.hid hL
  clear hp hL hF H8
  refine wpAnyH_run0 [false, false, false, true, true, true, true, true] 23 (by kernel_rfl) (by kernel_rfl) (fun _ _ _ _ h => h) (by kernel_rfl) hHeld ?_
  simp only [runOps_true, runOps_false, runOps_nil]
  repeat (first | go_big_quiet_skip | (go_big_quiet_want; go_big_quiet_op; go_big_quiet_on))
  refine wpQuiet_nil ?_
  have HTO : Hid (∀ W TB', DocAt W m TB' cu cv 0 (sideZ s) cm Ac n cc → Below w.heap.size w W → Calls Tryz.prog 14 #[.pointer (some ⟨m, 0, none⟩)] W fun e w' => e = .returned (.int .u64 (sumP c)) ∧ Below W.heap.size W w') := fun W TB' hD hW => by
    obtain ⟨lows, reps, hBI, _, _⟩ := hD.get HCC.out
    exact btotal_any m lows reps 0 (sideZ s) cm Ac n cc c W hBI HN.out (by have := H60.out; omega) (HRD.out W hW) HV.out.pos HV.out.sum
  obtain ⟨T, hT⟩ : ∃ T, sumP c = T := ⟨_, rfl⟩
  have HTT := Lib.hid hT
  rw [hT] at HTO HSM
  obtain ⟨t, ht⟩ : ∃ t, 9223372036854775808 - T = t := ⟨_, rfl⟩
  have v1 : IntKind.u64.wrap (9223372036854775808 - T) = t := by have := HSM.out; simp only [IntKind.wrap_u64]; omega
  have HTB : Hid ((0 < t ∧ t < 18446744073709551616) ∧ 9223372036854775807 < T + t) := by have := HSM.out; exact ⟨by omega, by omega⟩
  clear hT ht
  refine wpAnyH_ready (rs := [8]) (by kernel_rfl) (by simp) ?_
  refine AllReadyH.cons rfl (fun K hK => ?_) AllReadyH.nil
  go_simp
  go_wp2_with (go_at_call 14; refine (HTO.out w9 TB H9.out.hm H9.out.bl).mono ?_; rintro e w10 ⟨rfl, hb⟩)
  refine hK.out _ _ ?_ (fun hHeld => ?_)
  clear hK K
  · exact HeldS.mk' (H9.out.below hb).hc
  have H10 := Lib.hid (H9.out.below hb)
  clear hb H9
  refine wpAnyH_run0 [false, false, false, false, false, false, false, false, false, true] 21 (by kernel_rfl) (by kernel_rfl) (fun _ _ _ _ h => h) (by kernel_rfl) hHeld ?_
  simp only [runOps_true, runOps_false, runOps_nil]
  repeat (first | go_big_quiet_skip | (go_big_quiet_want; go_big_quiet_op; go_big_quiet_on))
  refine wpQuiet_nil ?_
  clear v1
  refine wpAnyH_ready (rs := [10]) (by kernel_rfl) (by simp) ?_
  refine AllReadyH.cons rfl (fun K hK => ?_) AllReadyH.nil
  go_simp
  go_wp2_with (go_at_call 30; refine (lsput_full b S2 part rep cu cv s cm x t c w10 H10.out.hb HV.out HTB.out.1.1 HTB.out.1.2 (by have := HTT.out; have := HTB.out.2; omega)).mono ?_; rintro e w11 ⟨rfl, hp⟩; obtain ⟨S3, hL, hF⟩ := H10.out.step hp)
  refine hK.out _ _ ?_ (fun hHeld => ?_)
  clear hK K
  · exact HeldS.mk' hL.hc
  have H11 := Lib.hid hL
  clear hp hL hF H10
  refine wpAnyH_run0 [false, false, false, false, false, false, false, false, false, false, false, true, true, true, true, false, true, true, true, true, true, true, true] 9 (by kernel_rfl) (by kernel_rfl) (fun _ _ _ _ h => h) (by kernel_rfl) hHeld ?_
  simp only [runOps_true, runOps_false, runOps_nil]
  repeat (first | go_big_quiet_skip | (go_big_quiet_want; go_big_quiet_op; go_big_quiet_on))
  refine wpQuiet_nil ?_
  have HCF := Lib.hid (lsconf_v b S3 part rep cu cv s cm c w11 H11.out.hb)
  rw [HZ.out] at HCF
  refine wpAnyH_ready (rs := [15]) (by kernel_rfl) (by simp) ?_
  refine AllReadyH.cons rfl (fun K hK => ?_) AllReadyH.nil
  go_simp
  go_wp2_with (go_at_call 31; refine HCF.out.mono ?_; rintro e w12 ⟨rfl, hb⟩)
  refine hK.out _ _ ?_ (fun hHeld => ?_)
  clear hK K
  · exact HeldS.mk' (H11.out.below hb).hc
  have H12 := Lib.hid (H11.out.below hb)
  clear hb H11 HCF
  refine wpAnyH_run0 [false, false, false, false, false, false, false, false, false, false, false, false, false, false, false, false, false, false, false, false, false, false, false, true, true, true, true, true] 3 (by kernel_rfl) (by kernel_rfl) (fun _ _ _ _ h => h) (by kernel_rfl) hHeld ?_
  simp only [runOps_true, runOps_false, runOps_nil]
  repeat (first | go_big_quiet_skip | (go_big_quiet_want; go_big_quiet_op; go_big_quiet_on))
  refine wpQuiet_nil ?_
  clear hfar
  have HSAME : Hid (∀ W S', LsV W b S' part rep cu cv s cm c → DocAt W m TB cu cv 0 (sideZ s) cm Ac n cc → Below w.heap.size w W → Calls Tryz.prog 23 #[.pointer (some ⟨b, 0, none⟩), .pointer (some ⟨m, 0, none⟩)] W fun e w' => e = .returned (.bool true) ∧ Below W.heap.size W w') := fun W S' hL hD hW => by
    obtain ⟨lows, reps, hBI, hPO, _⟩ := hD.get HCC.out
    exact lssame_any b S' part rep cu cv s cm c m lows reps 0 Ac n cc W hL hBI hPO HN.out (by have := H60.out; omega) (HRD.out W hW) HV.out
  refine wpAnyH_ready (rs := [28]) (by kernel_rfl) (by simp) ?_
  refine AllReadyH.cons rfl (fun K hK => ?_) AllReadyH.nil
  go_simp
  go_wp2_with (go_at_call 23; refine (HSAME.out w12 S3 H12.out.hb H12.out.hm H12.out.bl).mono ?_; rintro e w13 ⟨rfl, hb⟩)
  refine hK.out _ _ ?_ (fun hHeld => ?_)
  clear hK K
  · exact HeldS.mk' (H12.out.below hb).hc
  have H13 := Lib.hid (H12.out.below hb)
  clear hb H12
  refine wpAnyH_run0 [false, false, false, false, false, false, false, false, false, false, false, false, false, false, false, false, false, false, false, false, false, false, false, false, false, false, false, false, false, true, true] 0 (by kernel_rfl) (by kernel_rfl) (fun _ _ _ _ h => h) (by kernel_rfl) hHeld ?_
  simp only [runOps_true, runOps_false, runOps_nil]
  repeat (first | go_big_quiet_skip | (go_big_quiet_want; go_big_quiet_op; go_big_quiet_on))
  refine wpQuiet_nil ?_
  refine wpAnyH_done (by kernel_rfl) ?_ _
  refine NoPanic.normal ?_
  clear hne hHeld
  -- the other config
  have f13 := H13.out.hc.five
  have l13 := H13.out.hc.lt
  have g13 := H13.out.hr.two
  have m13 := H13.out.hr.lt
  go_wp2_with fail
  refine (lsnew_any other0 other1 z cm w13 HOO.out.1.1 HOO.out.1.2 HOO.out.2.1 HOO.out.2.2).mono ?_
  rintro e w14 ⟨hR, hb⟩
  have H14 := Lib.hid (H13.out.below hb)
  have f14 := H14.out.hc.five
  have l14 := H14.out.hc.lt
  have g14 := H14.out.hr.two
  have m14 := H14.out.hr.lt
  clear hb H13 f13 l13 g13 m13
  have HREST : Hid (∀ W, LE w W b m w.heap.size (w.heap.size + 1) S3 TB s part rep cu cv cm c Ac n cc #[.int .u64 cu, .int .u64 cv, .int .i64 z, .int .i64 cm, .slice Ac n cc] #[.int .u64 other0, .int .u64 other1] →
      Calls Tryz.prog 23 #[.pointer (some ⟨b, 0, none⟩), .pointer (some ⟨m, 0, none⟩)] W fun e w' => e = .returned (.bool true) ∧ Below W.heap.size W w') := fun W h => HSAME.out W S3 h.hb h.hm h.bl
  have HRST : Hid (∀ W, LsV W b S3 part rep cu cv s cm c → Calls Tryz.prog 29 #[.pointer (some ⟨b, 0, none⟩)] W fun e w' => e = .returned (.tuple #[]) ∧ LpvR b S3 part rep cu cv s cm [] W w') := fun W h => lsreset_v b S3 part rep stand cu cv s cm c W h HCC.out
  have HSAM2 : Hid (∀ W S', LsV W b S' part rep cu cv s cm [] → DocAt W m TB cu cv 0 (sideZ s) cm none 0 0 → Calls Tryz.prog 23 #[.pointer (some ⟨b, 0, none⟩), .pointer (some ⟨m, 0, none⟩)] W fun e w' => e = .returned (.bool true) ∧ Below W.heap.size W w') := fun W S' hL hD => by
    obtain ⟨lows, reps, hBI, hPO, _⟩ := hD.get HCC.out
    exact lssame_any b S' part rep cu cv s cm [] m lows reps 0 none 0 0 W hL hBI hPO rfl (by omega) (Rd.nil _ _) VOk.nil
  clear HSAME HTO HTT HTB HSM HRD
  have HCASE : Hid ((∃ (o : Value) (f : Int), e = .returned (.tuple #[o, .int .i64 f]) ∧ (f = 1 ∨ f = 6)) ∨ (∃ part2 rep2 s2 o S4, e = .returned (.tuple #[.pointer (some ⟨o, 0, none⟩), .int .i64 0]) ∧ z = sideZ s2 ∧ LsV w14 o S4 part2 rep2 other0 other1 s2 cm [])) := by
    rcases hR with ⟨part2, rep2, stand2, s2, o, S4, _, hz2, _, he, _, hN⟩ | ⟨f, he, hf, _⟩
    · exact .inr ⟨part2, rep2, s2, o, S4, he, hz2, hN⟩
    · exact .inl ⟨_, f, he, hf⟩
  clear hR
  rcases HCASE.out with ⟨o, f, rfl, hf⟩ | ⟨part2, rep2, s2, o, S4, rfl, hz2, hN⟩
  · have hf0 : (f == 0) = false := beq_eq_false_iff_ne.2 (by omega)
    clear hf HCASE
    go_wp2_with fail
    refine (HREST.out w14 H14.out).mono ?_
    rintro e wa ⟨rfl, hb⟩
    have Ha := Lib.hid (H14.out.below hb)
    clear hb H14 HREST f14 l14 g14 m14
    go_wp2_with fail
    refine (lsjoin_none b wa).mono ?_
    rintro e wb ⟨rfl, rfl⟩
    go_wp2_with fail
    refine (HRST.out wa Ha.out.hb).mono ?_
    rintro e wc ⟨rfl, hp⟩
    obtain ⟨S5, hL, hF⟩ := Ha.out.step hp
    have Hc := Lib.hid hL
    obtain ⟨lows, reps, hBI, _, _⟩ := hL.hm.get HCC.out
    have hM : At wc m #[lows, reps, .int .i64 0, .int .i64 (sideZ s), .int .i64 cm, .slice Ac n cc] 41 := hBI
    have fM := hM.six
    have lM := hM.lt
    have HV5 : Hid (DocAt (wc.setCell ⟨m, 5, none⟩ (.slice none 0 0)) m TB cu cv 0 (sideZ s) cm none 0 0) := Hc.out.hm.vals none 0 0
    have HL5 : Hid (LsV (wc.setCell ⟨m, 5, none⟩ (.slice none 0 0)) b S5 part rep cu cv s cm []) := Hc.out.hb.frame (Frame.set [m] wc m 5 _ (by simp)) fun j hj hn => by
      simp only [List.mem_singleton] at hn
      subst hn
      exact Hc.out.ap j (DocAt.mem Hc.out.hm) hj
    have HBc : Hid (Below w.heap.size w (wc.setCell ⟨m, 5, none⟩ (.slice none 0 0))) := Hc.out.bl.setCell HMW.out _
    have HSW := Lib.hid Hc.out.sw
    clear hp hL hF hBI hM Hc Ha HRST
    go_wp2_with fail
    refine (HSAM2.out _ S5 HL5.out HV5.out).mono ?_
    rintro e wd ⟨rfl, hb⟩
    have HLd := Lib.hid (HL5.out.below hb)
    have HBd := Lib.hid (keep1 HBc.out hb)
    clear hb HL5 HV5 HBc HSAM2 fM lM
    go_wp2_with fail
    refine (lsput_v b S5 part rep cu cv s cm x 2 [] wd HLd.out VOk.nil HX.out (by omega) (by rw [sumP_nil]; omega)).mono ?_
    rintro e we ⟨rfl, S6, _, hX6, hF6⟩
    have HBe : Hid (Below w.heap.size w we) := hF6.below' HBd.out HBd.out.size fun j hj => ⟨HSW.out j hj, HLd.out.lt j hj⟩
    obtain ⟨bb, B, hBn, hBins⟩ := lsbins_v b S6 part rep cu cv s cm _ we hX6
    have HBN := Lib.hid hBn
    have HBI := Lib.hid hBins
    have HVX : Hid (VOk ([] ++ [(x, 2)])) := VOk.nil.snoc HX.out (by omega) (by rw [sumP_nil]; omega)
    clear hX6 hF6 hBn hBins HLd HBd HSW
    go_wp2_with fail
    refine HBI.out.mono ?_
    rintro e wf ⟨rfl, rfl⟩
    clear HBI
    go_wp2_with fail
    refine (btot_v bb B false part rep s cm _ we HBN.out HVX.out).mono ?_
    rintro e wg ⟨rfl, hb⟩
    rw [show sumP ([] ++ [(x, (2 : Int))]) = 2 by simp [sumP]]
    have HBg := Lib.hid (keep1 HBe.out hb)
    clear hb HBN HVX HBe
    go_wp2
    go_ret
    exact ⟨rfl, HBg.out⟩
  have HN := Lib.hid hN
  have HS2 : Hid (s = s2) := by have := HZ.out; show _ = _; cases s <;> cases s2 <;> simp [sideZ] at this hz2 ⊢ <;> omega
  clear hN hz2 HCASE
  by_cases hdo : other0 = cu ∧ other1 = cv
  · have hrs := fun W => ratio_same other0 other1 cu cv hdo W
    clear hdo
    go_wp2_with fail
    refine (HREST.out w14 H14.out).mono ?_
    rintro e wa ⟨rfl, hb⟩
    have Ha := Lib.hid (H14.out.below hb)
    clear hb H14 HREST f14 l14 g14 m14
    go_wp2_with fail
    refine (lsjoin_none b wa).mono ?_
    rintro e wb ⟨rfl, rfl⟩
    go_wp2_with fail
    refine (HRST.out wa Ha.out.hb).mono ?_
    rintro e wc ⟨rfl, hp⟩
    obtain ⟨S5, hL, hF⟩ := Ha.out.step hp
    have Hc := Lib.hid hL
    obtain ⟨lows, reps, hBI, _, _⟩ := hL.hm.get HCC.out
    have hM : At wc m #[lows, reps, .int .i64 0, .int .i64 (sideZ s), .int .i64 cm, .slice Ac n cc] 41 := hBI
    have fM := hM.six
    have lM := hM.lt
    have HV5 : Hid (DocAt (wc.setCell ⟨m, 5, none⟩ (.slice none 0 0)) m TB cu cv 0 (sideZ s) cm none 0 0) := Hc.out.hm.vals none 0 0
    have HL5 : Hid (LsV (wc.setCell ⟨m, 5, none⟩ (.slice none 0 0)) b S5 part rep cu cv s cm []) := Hc.out.hb.frame (Frame.set [m] wc m 5 _ (by simp)) fun j hj hn => by
      simp only [List.mem_singleton] at hn
      subst hn
      exact Hc.out.ap j (DocAt.mem Hc.out.hm) hj
    have HBc : Hid (Below w.heap.size w (wc.setCell ⟨m, 5, none⟩ (.slice none 0 0))) := Hc.out.bl.setCell HMW.out _
    have HSW := Lib.hid Hc.out.sw
    clear hp hL hF hBI hM Hc Ha HRST
    go_wp2_with fail
    refine (HSAM2.out _ S5 HL5.out HV5.out).mono ?_
    rintro e wd ⟨rfl, hb⟩
    have HLd := Lib.hid (HL5.out.below hb)
    have HBd := Lib.hid (keep1 HBc.out hb)
    clear hb HL5 HV5 HBc HSAM2 fM lM
    go_wp2_with fail
    refine (lsput_v b S5 part rep cu cv s cm x 2 [] wd HLd.out VOk.nil HX.out (by omega) (by rw [sumP_nil]; omega)).mono ?_
    rintro e we ⟨rfl, S6, _, hX6, hF6⟩
    have HBe : Hid (Below w.heap.size w we) := hF6.below' HBd.out HBd.out.size fun j hj => ⟨HSW.out j hj, HLd.out.lt j hj⟩
    obtain ⟨bb, B, hBn, hBins⟩ := lsbins_v b S6 part rep cu cv s cm _ we hX6
    have HBN := Lib.hid hBn
    have HBI := Lib.hid hBins
    have HVX : Hid (VOk ([] ++ [(x, 2)])) := VOk.nil.snoc HX.out (by omega) (by rw [sumP_nil]; omega)
    clear hX6 hF6 hBn hBins HLd HBd HSW
    go_wp2_with fail
    refine HBI.out.mono ?_
    rintro e wf ⟨rfl, rfl⟩
    clear HBI
    go_wp2_with fail
    refine (btot_v bb B false part rep s cm _ we HBN.out HVX.out).mono ?_
    rintro e wg ⟨rfl, hb⟩
    rw [show sumP ([] ++ [(x, (2 : Int))]) = 2 by simp [sumP]]
    have HBg := Lib.hid (keep1 HBe.out hb)
    clear hb HBN HVX HBe
    go_wp2
    go_ret
    exact ⟨rfl, HBg.out⟩
  · have hrd := fun W => ratio_diff other0 other1 cu cv hdo W
    obtain rfl := HS2.out
    have HJ1 := Lib.hid fun W (hL : LsV W b S3 part rep cu cv s cm c) (hO : LsV W o S4 part2 rep2 other0 other1 s cm []) => lsjoin_vmatch b o S3 S4 part part2 rep rep2 cu cv other0 other1 s cm c [] W hL hO (fun k => hdo ⟨k.1.symm, k.2.symm⟩)
    have HJ2 := Lib.hid fun W (hL : LsV W b S3 part rep cu cv s cm c) (hO : LsV W o S4 part2 rep2 other0 other1 s cm []) => lsjoin_vmatch o b S4 S3 part2 part rep2 rep other0 other1 cu cv s cm [] c W hO hL (fun k => hdo ⟨k.1, k.2⟩)
    clear hdo
    go_wp2_with fail
    refine (HJ1.out w14 H14.out.hb HN.out).mono ?_
    rintro e w15 ⟨rfl, hb⟩
    have H15 := Lib.hid (H14.out.below hb)
    have HN5 := Lib.hid (HN.out.below hb)
    clear hb H14 HN HJ1 f14 l14 g14 m14
    go_wp2_with fail
    refine (HJ2.out w15 H15.out.hb HN5.out).mono ?_
    rintro e w16 ⟨rfl, hb⟩
    have H16 := Lib.hid (H15.out.below hb)
    clear hb H15 HN5 HJ2
    go_wp2_with fail
    refine (HREST.out w16 H16.out).mono ?_
    rintro e wa ⟨rfl, hb⟩
    have Ha := Lib.hid (H16.out.below hb)
    clear hb H16 HREST 
    go_wp2_with fail
    refine (lsjoin_none b wa).mono ?_
    rintro e wb ⟨rfl, rfl⟩
    go_wp2_with fail
    refine (HRST.out wa Ha.out.hb).mono ?_
    rintro e wc ⟨rfl, hp⟩
    obtain ⟨S5, hL, hF⟩ := Ha.out.step hp
    have Hc := Lib.hid hL
    obtain ⟨lows, reps, hBI, _, _⟩ := hL.hm.get HCC.out
    have hM : At wc m #[lows, reps, .int .i64 0, .int .i64 (sideZ s), .int .i64 cm, .slice Ac n cc] 41 := hBI
    have fM := hM.six
    have lM := hM.lt
    have HV5 : Hid (DocAt (wc.setCell ⟨m, 5, none⟩ (.slice none 0 0)) m TB cu cv 0 (sideZ s) cm none 0 0) := Hc.out.hm.vals none 0 0
    have HL5 : Hid (LsV (wc.setCell ⟨m, 5, none⟩ (.slice none 0 0)) b S5 part rep cu cv s cm []) := Hc.out.hb.frame (Frame.set [m] wc m 5 _ (by simp)) fun j hj hn => by
      simp only [List.mem_singleton] at hn
      subst hn
      exact Hc.out.ap j (DocAt.mem Hc.out.hm) hj
    have HBc : Hid (Below w.heap.size w (wc.setCell ⟨m, 5, none⟩ (.slice none 0 0))) := Hc.out.bl.setCell HMW.out _
    have HSW := Lib.hid Hc.out.sw
    clear hp hL hF hBI hM Hc Ha HRST
    go_wp2_with fail
    refine (HSAM2.out _ S5 HL5.out HV5.out).mono ?_
    rintro e wd ⟨rfl, hb⟩
    have HLd := Lib.hid (HL5.out.below hb)
    have HBd := Lib.hid (keep1 HBc.out hb)
    clear hb HL5 HV5 HBc HSAM2 fM lM
    go_wp2_with fail
    refine (lsput_v b S5 part rep cu cv s cm x 2 [] wd HLd.out VOk.nil HX.out (by omega) (by rw [sumP_nil]; omega)).mono ?_
    rintro e we ⟨rfl, S6, _, hX6, hF6⟩
    have HBe : Hid (Below w.heap.size w we) := hF6.below' HBd.out HBd.out.size fun j hj => ⟨HSW.out j hj, HLd.out.lt j hj⟩
    obtain ⟨bb, B, hBn, hBins⟩ := lsbins_v b S6 part rep cu cv s cm _ we hX6
    have HBN := Lib.hid hBn
    have HBI := Lib.hid hBins
    have HVX : Hid (VOk ([] ++ [(x, 2)])) := VOk.nil.snoc HX.out (by omega) (by rw [sumP_nil]; omega)
    clear hX6 hF6 hBn hBins HLd HBd HSW
    go_wp2_with fail
    refine HBI.out.mono ?_
    rintro e wf ⟨rfl, rfl⟩
    clear HBI
    go_wp2_with fail
    refine (btot_v bb B false part rep s cm _ we HBN.out HVX.out).mono ?_
    rintro e wg ⟨rfl, hb⟩
    rw [show sumP ([] ++ [(x, (2 : Int))]) = 2 by simp [sumP]]
    have HBg := Lib.hid (keep1 HBe.out hb)
    clear hb HBN HVX HBe
    go_wp2
    go_ret
    exact ⟨rfl, HBg.out⟩
end Go.Proofs.YtondkkhagbcadaaGreat
