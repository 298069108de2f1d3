/- The walk of the statement LogskRises. -/
import Derived.Test.YtondkkhagbcadaaGreatProg
import Derived.Test.YtondkkhagbcadaaGreatOpen
import Derived.Test.YtondkkhagbcadaaGreatLsBuild
import Derived.Test.YtondkkhagbcadaaGreatCase14
import Derived.Test.YtondkkhagbcadaaGreatTabP
namespace Go.Proofs.YtondkkhagbcadaaGreat
open Go.RowKit

theorem IsExact.mono {l : List (Int × Int)} {t u x y : Int} (hp : ∀ v ∈ l, 0 < v.2) (h : IsExact l t x) (k : IsExact l u y) (htu : t ≤ u) : x ≤ y := by
  by_cases hlt : y < x
  · exfalso
    have h1 := k.hi
    have h2 := h.lo
    rw [← upV_split] at h1
    have := filter_sum_mono (p := fun v => decide (v.1 ≤ y)) (q := fun v => decide (v.1 < x)) hp fun v _ hv => by
      simp only [decide_eq_true_eq] at hv ⊢; omega
    unfold upV at h1
    unfold lessV at h2
    omega
  · omega
theorem quantL_ok {part : Nat → Int} {stand : Int → Int} {s : Bool} {most : Int} {l : List (Int × Int)} {lo hi a d : Int} (h : (quantL part stand s most l lo hi a d).2 = 0) :
    placeE a d (sumP l) = 0 ∧ ∃ x, exactV l (placeT a d (sumP l)) = some x ∧ (quantL part stand s most l lo hi a d).1 = min (max (stand x) lo) hi := by
  unfold quantL at h ⊢
  split at h
  · rename_i hE
    refine ⟨hE, ?_⟩
    rw [if_pos hE]
    split at h
    · exact absurd h (by decide)
    · rename_i x hx
      unfold docFind13 at hx
      split at hx
      · cases hx
      · rename_i y hy
        split at hx
        · cases hx
        · cases hx
          exact ⟨y, hy, rfl⟩
  · rename_i hE
    exact absurd h hE
/-- A greater part has no lesser answer; all lie between the ends. -/
theorem rise_law {u v : Int} {part : Nat → Int} {rep stand : Int → Int} {s : Bool} {most : Int} {l : List (Int × Int)} {a d b e : Int} (hc : Cs u v 0 false part rep stand) (hv : VOk l) (hn : l ≠ [])
    (h1 : (quantL part stand s most l (eLow l) (eHigh l) a d).2 = 0) (h2 : (quantL part stand s most l (eLow l) (eHigh l) b e).2 = 0) :
    (placeT b e (sumP l) < placeT a d (sumP l) ∨ (quantL part stand s most l (eLow l) (eHigh l) a d).1 ≤ (quantL part stand s most l (eLow l) (eHigh l) b e).1) ∧ eLow l ≤ (quantL part stand s most l (eLow l) (eHigh l) a d).1 ∧ (quantL part stand s most l (eLow l) (eHigh l) a d).1 ≤ eHigh l := by
  obtain ⟨_, x, hx, ex⟩ := quantL_ok h1
  obtain ⟨_, y, hy, ey⟩ := quantL_ok h2
  have ix := exactV_is hx
  have iy := exactV_is hy
  obtain ⟨vx, mx, rfl⟩ := ix.mem
  obtain ⟨vy, my, rfl⟩ := iy.mem
  have rx := (hv.ok vx mx).1
  have ry := (hv.ok vy my).1
  have bx := eLow_le mx
  rw [ex, ey]
  refine ⟨?_, by omega, by omega⟩
  by_cases ht : placeT b e (sumP l) < placeT a d (sumP l)
  · exact .inl ht
  · right
    have hxy := IsExact.mono hv.pos ix iy (by omega)
    have := hc.mono rx.1 hxy ry.2
    omega
set_option maxRecDepth 100000 in
set_option maxHeartbeats 4000000 in
theorem logskRises_walk (w : World) (cu cv cs cm : Int) (bdcu : 0 ≤ cu ∧ cu < 18446744073709551616) (bdcv : 0 ≤ cv ∧ cv < 18446744073709551616) (bdcs : -9223372036854775808 ≤ cs ∧ cs ≤ 9223372036854775807) (bdcm : -9223372036854775808 ≤ cm ∧ cm ≤ 9223372036854775807) (Ac : Option Addr) (cc : Nat) (c : List (Int × Int)) (rc : Rd w Ac (c.flatMap fun x => [.int .i64 x.1, .int .u64 x.2])) (bdc : ∀ x ∈ c, (-9223372036854775808 ≤ x.1 ∧ x.1 ≤ 9223372036854775807) ∧ (0 ≤ x.2 ∧ x.2 < 18446744073709551616)) (lc : c.length ≤ 9223372036854775807) (p0 p1 : Int) (bdp0 : 0 ≤ p0 ∧ p0 < 18446744073709551616) (bdp1 : 0 ≤ p1 ∧ p1 < 18446744073709551616) (q0 q1 : Int) (bdq0 : 0 ≤ q0 ∧ q0 < 18446744073709551616) (bdq1 : 0 ≤ q1 ∧ q1 < 18446744073709551616) :
    Calls Tryz.prog 4 #[.agg #[.int .u64 cu, .int .u64 cv, .int .i64 cs, .int .i64 cm, .slice Ac c.length cc], .agg #[.int .u64 p0, .int .u64 p1], .agg #[.int .u64 q0, .int .u64 q1]] w fun e w' => e = .returned (.bool true) ∧ Below w.heap.size w w' := by
  have HPP := Lib.hid (And.intro bdp0 bdp1)
  have HQQ := Lib.hid (And.intro bdq0 bdq1)
  clear bdp0 bdp1 bdq0 bdq1
  have HC0 : Hid (okP c) := bdc
  have HRC0 : Hid (RdP w Ac c) := rc
  obtain ⟨n, hn⟩ : ∃ n, c.length = n := ⟨_, rfl⟩
  have HN := Lib.hid hn
  have HUV := Lib.hid (And.intro bdcu bdcv)
  rw [hn]
  have hba : Below w.heap.size w (((w.alloc (.cells #[.int .u64 cu, .int .u64 cv, .int .i64 cs, .int .i64 cm, .slice Ac n cc] 27)).alloc (.cells #[.int .u64 p0, .int .u64 p1] 24)).alloc (.cells #[.int .u64 q0, .int .u64 q1] 24)) := ((((Below.refl _ _).alloc (by first | omega | (simp; done) | (simp; omega)) _).alloc (by first | omega | (simp; done) | (simp; omega)) _).alloc (by first | omega | (simp; done) | (simp; omega)) _)
  have am := (((At.new' w #[.int .u64 cu, .int .u64 cv, .int .i64 cs, .int .i64 cm, .slice Ac n cc] 27 (b := w.heap.size) (by simp)).alloc (.cells #[.int .u64 p0, .int .u64 p1] 24)).alloc (.cells #[.int .u64 q0, .int .u64 q1] 24))
  have ap := ((At.new' (w.alloc (.cells #[.int .u64 cu, .int .u64 cv, .int .i64 cs, .int .i64 cm, .slice Ac n cc] 27)) #[.int .u64 p0, .int .u64 p1] 24 (b := w.heap.size + 1) (by simp)).alloc (.cells #[.int .u64 q0, .int .u64 q1] 24))
  have aq := (At.new' ((w.alloc (.cells #[.int .u64 cu, .int .u64 cv, .int .i64 cs, .int .i64 cm, .slice Ac n cc] 27)).alloc (.cells #[.int .u64 p0, .int .u64 p1] 24)) #[.int .u64 q0, .int .u64 q1] 24 (b := w.heap.size + 2) (by simp))
  clear bdcu bdcv bdcs bdcm rc bdc lc hn
  go_enter Tryz.func4, Tryz.ntmps4
  go_wp2_with fail
  obtain ⟨W1, hW1⟩ : ∃ W, (((w.alloc (.cells #[.int .u64 cu, .int .u64 cv, .int .i64 cs, .int .i64 cm, .slice Ac n cc] 27)).alloc (.cells #[.int .u64 p0, .int .u64 p1] 24)).alloc (.cells #[.int .u64 q0, .int .u64 q1] 24)) = W := ⟨_, rfl⟩
  rw [hW1] at hba am ap aq
  simp only [hW1]
  clear hW1
  refine (alive_any W1).mono ?_
  rintro e w2 ⟨rfl, hb⟩
  have HB2 := Lib.hid (keep1 hba hb)
  have HAM := Lib.hid (am.below hb)
  have HRp := Lib.hid (ap.below hb)
  have HRq := Lib.hid (aq.below hb)
  have f2 := HAM.out.five
  have l2 := HAM.out.lt
  clear hba hb am ap aq
  go_wp2_with fail
  refine (build_any cu cv cs cm Ac n cc c w2 HUV.out.1 HUV.out.2 HN.out (HRC0.out.below HB2.out) HC0.out).mono ?_
  rintro e w3 (⟨rfl, hb⟩ | ⟨hp, s, part, rep, stand, b, m, S, TB, rfl, hc, _, rfl, hB⟩)
  · have HB3 := Lib.hid (keep1 HB2.out hb)
    clear hb HB2 f2 l2 HAM HRp HRq
    go_wp2
    go_ret
    exact ⟨rfl, HB3.out⟩
  have hv := hp.vok HC0.out
  have HB3 := Lib.hid (keep1 HB2.out (Two.below hB))
  have HA3 := Lib.hid fun W (hW : Below w3.heap.size w3 W) => (HAM.out.below (Two.below hB)).below hW
  have HP3 := Lib.hid fun W (hW : Below w3.heap.size w3 W) => (HRp.out.below (Two.below hB)).below hW
  have HQ3 := Lib.hid fun W (hW : Below w3.heap.size w3 W) => (HRq.out.below (Two.below hB)).below hW
  have hX := Two.x hB
  have hR3 := HRC0.out.below HB3.out
  have h60 : n ≤ 60 := by have := hp.n; have := HN.out; omega
  obtain ⟨lows, reps, hBI, _, _⟩ := DocAt.get (Two.y hB) hc
  have hs0 := hv.sum0
  have hs := hv.sum
  have HTO := Lib.hid fun W (hW : Below w3.heap.size w3 W) => btotal_any m lows reps 0 (sideZ s) cm Ac n cc c W (hBI.below hW) HN.out (by omega) (hR3.below hW) hv.pos hs
  have HPL := Lib.hid fun W => rplace_any p0 p1 (sumP c) W HPP.out.1.1 HPP.out.1.2 HPP.out.2.1 HPP.out.2.2 hs0 (by omega)
  have HQL := Lib.hid fun W => rplace_any q0 q1 (sumP c) W HQQ.out.1.1 HQQ.out.1.2 HQQ.out.2.1 HQQ.out.2.2 hs0 (by omega)
  have HGP := Lib.hid fun W => rgood_any p0 p1 W HPP.out.1.1 HPP.out.1.2 HPP.out.2.1 HPP.out.2.2
  have HGQ := Lib.hid fun W => rgood_any q0 q1 W HQQ.out.1.1 HQQ.out.1.2 HQQ.out.2.1 HQQ.out.2.2
  have HQU := Lib.hid fun W (hW : Below w3.heap.size w3 W) => lsquant_k b S part rep stand cu cv s cm c _ _ p0 p1 W (hX.below hW) hc.ps hv HPP.out.1.1 HPP.out.1.2 HPP.out.2.1 HPP.out.2.2
  have HQV := Lib.hid fun W (hW : Below w3.heap.size w3 W) => lsquant_k b S part rep stand cu cv s cm c _ _ q0 q1 W (hX.below hW) hc.ps hv HQQ.out.1.1 HQQ.out.1.2 HQQ.out.2.1 HQQ.out.2.2
  have HEN := Lib.hid fun W (hW : Below w3.heap.size w3 W) => lsends_v b S part rep cu cv s cm c W (hX.below hW) hv
  have HLAW : Hid (n ≠ 0 → (quantL part stand s cm c (eLow c) (eHigh c) p0 p1).2 = 0 → (quantL part stand s cm c (eLow c) (eHigh c) q0 q1).2 = 0 → (placeT q0 q1 (sumP c) < placeT p0 p1 (sumP c) ∨ (quantL part stand s cm c (eLow c) (eHigh c) p0 p1).1 ≤ (quantL part stand s cm c (eLow c) (eHigh c) q0 q1).1) ∧ eLow c ≤ (quantL part stand s cm c (eLow c) (eHigh c) p0 p1).1 ∧ (quantL part stand s cm c (eLow c) (eHigh c) p0 p1).1 ≤ eHigh c) :=
    fun hn h1 h2 => rise_law hc hv (fun e => hn (by rw [← HN.out, e]; rfl)) h1 h2
  obtain ⟨x, hx⟩ : ∃ x, quantL part stand s cm c (eLow c) (eHigh c) p0 p1 = x := ⟨_, rfl⟩
  obtain ⟨y, hy⟩ : ∃ x, quantL part stand s cm c (eLow c) (eHigh c) q0 q1 = x := ⟨_, rfl⟩
  rw [hx, hy] at HLAW
  rw [hx] at HQU
  rw [hy] at HQV
  obtain ⟨⟨x1, x2⟩, hxx⟩ : ∃ r, x = r := ⟨_, rfl⟩
  obtain ⟨⟨y1, y2⟩, hyy⟩ : ∃ r, y = r := ⟨_, rfl⟩
  rw [hxx, hyy] at HLAW
  rw [hxx] at HQU
  rw [hyy] at HQV
  dsimp only at HLAW HQU HQV
  obtain ⟨el, hel⟩ : ∃ z, eLow c = z := ⟨_, rfl⟩
  obtain ⟨eh, heh⟩ : ∃ z, eHigh c = z := ⟨_, rfl⟩
  obtain ⟨ei, hei⟩ : ∃ z, eIs c = z := ⟨_, rfl⟩
  rw [hel, heh] at HLAW
  rw [hel, heh, hei] at HEN
  obtain ⟨tp, htp⟩ : ∃ z, placeT p0 p1 (sumP c) = z := ⟨_, rfl⟩
  obtain ⟨tq, htq⟩ : ∃ z, placeT q0 q1 (sumP c) = z := ⟨_, rfl⟩
  obtain ⟨ep, hep⟩ : ∃ z, placeE p0 p1 (sumP c) = z := ⟨_, rfl⟩
  obtain ⟨eq, heq⟩ : ∃ z, placeE q0 q1 (sumP c) = z := ⟨_, rfl⟩
  rw [htp, htq] at HLAW
  rw [htp, hep] at HPL
  rw [htq, heq] at HQL
  obtain ⟨T, hT⟩ : ∃ z, sumP c = z := ⟨_, rfl⟩
  rw [hT] at HTO HPL HQL
  obtain ⟨gp, hgp⟩ : ∃ g, goodF p0 p1 = g := ⟨_, rfl⟩
  obtain ⟨gq, hgq⟩ : ∃ g, goodF q0 q1 = g := ⟨_, rfl⟩
  rw [hgp] at HGP
  rw [hgq] at HGQ
  clear hp hv hX hR3 h60 hBI hB hc hx hy hxx hyy hel heh hei htp htq hep heq hT hgp hgq hs0 hs HB2 HAM HRp HRq f2 l2 HC0 HRC0 HN HUV
  have g3 := (HP3.out w3 (Below.refl _ _)).two
  have m3 := (HP3.out w3 (Below.refl _ _)).lt
  go_wp2_with fail
  refine (HGP.out w3).mono ?_
  rintro e w4 ⟨rfl, hb⟩
  have HB4 := Lib.hid hb
  clear hb g3 m3 HGP
  cases gp with
  | false =>
    have HF := Lib.hid (keep1 HB3.out HB4.out)
    go_wp2
    go_ret
    exact ⟨rfl, HF.out⟩
  | true =>
    have g4 := (HQ3.out w4 HB4.out).two
    have m4 := (HQ3.out w4 HB4.out).lt
    go_wp2_with fail
    refine (HGQ.out w4).mono ?_
    rintro e w5 ⟨rfl, hb⟩
    have HB5 := Lib.hid (keep1 HB4.out hb)
    clear hb g4 m4 HGQ HB4
    cases gq with
    | false =>
      have HF := Lib.hid (keep1 HB3.out HB5.out)
      go_wp2
      go_ret
      exact ⟨rfl, HF.out⟩
    | true =>
      have f5 := (HA3.out w5 HB5.out).five
      have l5 := (HA3.out w5 HB5.out).lt
      by_cases hn0 : n = 0
      · subst hn0
        have HF := Lib.hid (keep1 HB3.out HB5.out)
        go_wp2
        go_ret
        exact ⟨rfl, HF.out⟩
      have hn1 : ((n : Int) == 0) = false := beq_eq_false_iff_ne.2 (by omega)
      have hn2 : (n == 0) = false := beq_eq_false_iff_ne.2 hn0
      have HLW := Lib.hid (HLAW.out hn0)
      have s5 := HP3.out w5 HB5.out
      have HT5 := Lib.hid fun W (hb : Below w5.heap.size w5 W) => HTO.out W (keep1 HB5.out hb)
      clear hn0 HLAW
      go_wp2
      have hfar1 := fun x : Far w5 => (x.at s5).two
      refine wp_region_far (by kernel_rfl) (by kernel_rfl) ?_
      repeat (first | go_big_quiet_skip | (go_big_quiet_want; go_big_quiet_op; first | go_big_quiet_on | (apply Exists.intro; refine ⟨fun _ => ?_, ?_⟩; (focus (first | (with_reducible refine far_of (HT5.out _ (Far.below _))) | (with_reducible refine far_of (HPL.out _)))); go_big_quiet_on)))
      refine wpQuiet_nil ?_
      rintro _ ⟨xq, rfl⟩
      clear hfar1
      have HB6 : Hid (Below w3.heap.size w3 xq.far) := keep1 HB5.out xq.below
      obtain ⟨W6, hW6⟩ : ∃ W, xq.far = W := ⟨_, rfl⟩
      rw [hW6] at HB6 ⊢
      clear hW6 s5 HT5 HPL f5 l5 hn1 hn2 HB5
      have s6 := HQ3.out W6 HB6.out
      have HT6 := Lib.hid fun W (hb : Below W6.heap.size W6 W) => HTO.out W (keep1 HB6.out hb)
      go_wp2
      have hfar1 := fun x : Far W6 => (x.at s6).two
      refine wp_region_far (by kernel_rfl) (by kernel_rfl) ?_
      repeat (first | go_big_quiet_skip | (go_big_quiet_want; go_big_quiet_op; first | go_big_quiet_on | (apply Exists.intro; refine ⟨fun _ => ?_, ?_⟩; (focus (first | (with_reducible refine far_of (HT6.out _ (Far.below _))) | (with_reducible refine far_of (HQL.out _)))); go_big_quiet_on)))
      refine wpQuiet_nil ?_
      rintro _ ⟨xq, rfl⟩
      clear hfar1
      have HB7 : Hid (Below w3.heap.size w3 xq.far) := keep1 HB6.out xq.below
      obtain ⟨W7, hW7⟩ : ∃ W, xq.far = W := ⟨_, rfl⟩
      rw [hW7] at HB7 ⊢
      clear hW7 s6 HT6 HQL HB6 HTO
      have g7 := (HP3.out W7 HB7.out).two
      have m7 := (HP3.out W7 HB7.out).lt
      go_wp2_with fail
      refine (HQU.out W7 HB7.out).mono ?_
      rintro e w8 ⟨rfl, hb⟩
      have HB8 := Lib.hid (keep1 HB7.out hb)
      have g8 := (HQ3.out w8 HB8.out).two
      have m8 := (HQ3.out w8 HB8.out).lt
      clear hb HB7 HQU g7 m7
      go_wp2_with fail
      refine (HQV.out w8 HB8.out).mono ?_
      rintro e w9 ⟨rfl, hb⟩
      have HB9 := Lib.hid (keep1 HB8.out hb)
      clear hb HB8 HQV g8 m8
      by_cases hx0 : x2 = 0
      rotate_left
      · have h1 : (x2 != 0) = true := bne_iff_ne.2 hx0
        have HF := Lib.hid (keep1 HB3.out HB9.out)
        clear hx0 HLW
        go_wp2
        go_ret
        exact ⟨rfl, HF.out⟩
      by_cases hy0 : y2 = 0
      rotate_left
      · have h1 : (y2 != 0) = true := bne_iff_ne.2 hy0
        have HF := Lib.hid (keep1 HB3.out HB9.out)
        subst hx0
        clear hy0 HLW
        go_wp2
        go_ret
        exact ⟨rfl, HF.out⟩
      obtain ⟨k1, k2, k3⟩ := HLW.out hx0 hy0
      have d2 : decide (el ≤ x1) = true := decide_eq_true k2
      have d2' : decide (x1 ≥ el) = true := decide_eq_true k2
      have d3 : decide (x1 ≤ eh) = true := decide_eq_true k3
      subst hx0 hy0
      by_cases hgt : tq < tp
      · have d1 : decide (tq < tp) = true := decide_eq_true hgt
        clear hgt k1 k2 k3 HLW
        go_wp2_with fail
        refine (HEN.out w9 HB9.out).mono ?_
        rintro e wa ⟨rfl, hb⟩
        have HF := Lib.hid (keep1 HB3.out (keep1 HB9.out hb))
        clear hb HEN HB9
        go_wp2
        go_ret
        exact ⟨rfl, HF.out⟩
      · have d1 : decide (tq < tp) = false := decide_eq_false hgt
        have hxy : x1 ≤ y1 := by
          rcases k1 with h | h
          · exact absurd h hgt
          · exact h
        have d4 : decide (x1 ≤ y1) = true := decide_eq_true hxy
        clear hgt k1 k2 k3 hxy HLW
        go_wp2_with fail
        refine (HEN.out w9 HB9.out).mono ?_
        rintro e wa ⟨rfl, hb⟩
        have HF := Lib.hid (keep1 HB3.out (keep1 HB9.out hb))
        clear hb HEN HB9
        go_wp2
        go_ret
        exact ⟨rfl, HF.out⟩
end Go.Proofs.YtondkkhagbcadaaGreat
