/- The walk of the statement LogskClose. -/
import Derived.Test.YtondkkhagbcadaaGreatProg
import Derived.Test.YtondkkhagbcadaaGreatOpen
import Derived.Test.YtondkkhagbcadaaGreatLsBuild
import Derived.Test.YtondkkhagbcadaaGreatCase14
import Derived.Test.YtondkkhagbcadaaGreatTabAll
import Derived.Maps.OwnSet
import Derived.Maps.OwnOps
namespace Go.Proofs.YtondkkhagbcadaaGreat
open Go.RowKit

open Go.Maps in
theorem size_put_pos {H : Type} {D : DataW H} (h : IsMap D) (k : Lit) (d : DataW H) : 0 < Maps.size (D.put k d) := by
  obtain ⟨es, rfl⟩ := h
  show 0 < (DataW.insert (k, d) _).length
  rw [length_insert]
  omega
open Go.Maps in
theorem own_below {H : Type} {P : Program} {K : TypeId} {R : Value → Option (DataW H × List MemPlace)} {b n : Nat} {D : DataW H} {w w' : World} (h : w.ownsMap P K R b n D) (hb : Below w.heap.size w w') : w'.ownsMap P K R b n D :=
  h.kept (row := none) ⟨hb.os, hb.tape, hb.output, hb.size, fun k hk _ => hb.block k hk⟩ (by simp)
open Go.Maps in
theorem lawInt : Keyed Tryz.prog 3 := int_keyed Tryz.underlying3
/-- A value further out, of the same sign. -/
def outerV (z x v : Int) : Bool := (if z = 1 then decide (v.natAbs < x.natAbs) && decide (v ≠ 0) else decide (x.natAbs < v.natAbs)) && (decide (v < 0) == decide (x < 0))
theorem rowV_all {P : Int → Prop} {part : Nat → Int} {l : List (Int × Int)} {below : Bool} (hP : ∀ v ∈ l, sgn below v.1 = true → P (part v.1.natAbs)) : ∀ x ∈ rowV part below l, P x.1 := by
  intro x hx
  have key : ∀ (k ps : List (Int × Int)), (∀ y ∈ ps, P y.1) → (∀ y ∈ k, P y.1) → ∀ y ∈ addAll ps k, P y.1 := by
    intro k
    induction k with
    | nil => intro ps hp _ y hy; exact hp y hy
    | cons z k ih =>
      intro ps hp hk
      refine ih (rowAdd ps z.1 z.2) (fun y hy => ?_) fun y hy => hk y (by simp [hy])
      unfold rowAdd at hy
      rcases List.mem_append.1 hy with hy | hy
      · rcases List.mem_append.1 hy with hy | hy
        · exact hp y (List.mem_filter.1 hy).1
        · split at hy
          · rw [List.mem_singleton] at hy; subst hy; exact hk z (by simp)
          · simp at hy
      · exact hp y (List.mem_filter.1 hy).1
  refine key _ [] (fun y hy => by simp at hy) (fun y hy => ?_) x hx
  unfold selV at hy
  obtain ⟨v, hv, rfl⟩ := List.mem_map.1 hy
  obtain ⟨v1, v2⟩ := List.mem_filter.1 hv
  exact hP v v1 v2
/-- Where a value is lost, there is one further out. -/
theorem lost_out {u v : Int} {part : Nat → Int} {rep stand : Int → Int} {s : Bool} {most x : Int} {l : List (Int × Int)} (hc : Cs u v 0 false part rep stand) (hv : VOk l) (hm : 1 ≤ most) (hx0 : x ≠ 0) (hmem : ∃ y ∈ l, y.1 = x)
    (hcnt : cnt (keptP s most (rowV part (decide (x < 0)) l)) (part x.natAbs) = 0) : ∃ y ∈ l, outerV (sideZ s) x y.1 = true := by
  have hs := hv.sum
  obtain ⟨y, hy, rfl⟩ := hmem
  have ry := (hv.ok y hy).1
  have hsg : sgn (decide (y.1 < 0)) y.1 = true := by
    unfold sgn
    rw [decide_eq_true hx0]
    simp
  obtain ⟨r, hr, er⟩ := rowV_mem (part := part) hv.pos (by omega) hy hsg
  have gd := rowV_gd (part := part) (below := decide (y.1 < 0)) hv.pos (by omega)
  have hpos := (cnt_mem gd).1 ⟨r, hr, er⟩
  rw [cnt_kept] at hcnt
  have hgap : ¬ gap s (endP s (rowV part (decide (y.1 < 0)) l)) (part y.1.natAbs) < most := fun h => by
    rw [if_pos h] at hcnt
    omega
  obtain ⟨e, he, ee⟩ := endP_mem (s := s) (List.ne_nil_of_mem hr)
  rw [← ee] at hgap
  obtain ⟨t, ht, hts, hte⟩ := rowV_all (P := fun i => ∃ t ∈ l, sgn (decide (y.1 < 0)) t.1 = true ∧ part t.1.natAbs = i) (fun v hv1 hs1 => ⟨v, hv1, hs1, rfl⟩) e he
  have rt := (hv.ok t ht).1
  have ht0 : t.1 ≠ 0 := fun e => by unfold sgn at hts; rw [e] at hts; simp at hts
  have hsame : decide (t.1 < 0) = decide (y.1 < 0) := by
    unfold sgn at hts
    rw [decide_eq_true ht0] at hts
    simpa using hts
  have hmono := hc.ps.mono
  rw [← hte] at hgap
  refine ⟨t, ht, ?_⟩
  unfold outerV
  rw [hsame, beq_self_eq_true, Bool.and_true]
  cases s with
  | true =>
    rw [if_neg (show ¬ sideZ true = 1 by decide)]
    refine decide_eq_true ?_
    by_cases h : y.1.natAbs < t.1.natAbs
    · exact h
    · exfalso
      have := hmono t.1.natAbs y.1.natAbs (by omega) (by omega) (by omega)
      unfold gap at hgap
      simp only [if_true] at hgap
      omega
  | false =>
    rw [if_pos (show sideZ false = 1 from rfl), decide_eq_true ht0, Bool.and_true]
    refine decide_eq_true ?_
    by_cases h : t.1.natAbs < y.1.natAbs
    · exact h
    · exfalso
      have := hmono y.1.natAbs t.1.natAbs (by omega) (by omega) (by omega)
      unfold gap at hgap
      simp only [Bool.false_eq_true, if_false] at hgap
      omega
/-- What Quantile answers, where there are values and the part can be. -/
theorem quant_says {u v : Int} {part : Nat → Int} {rep stand : Int → Int} {s : Bool} {most a d : Int} {l : List (Int × Int)} (hc : Cs u v 0 false part rep stand) (hv : VOk l) (hm : 1 ≤ most) (hn : l ≠ []) (ha : 0 ≤ a) (hg : goodF a d = true) :
    placeE a d (sumP l) = 0 ∧ ∃ x, exactV l (placeT a d (sumP l)) = some x ∧ (∃ y ∈ l, y.1 = x) ∧
      ((quantL part stand s most l (eLow l) (eHigh l) a d = (min (max (stand x) (eLow l)) (eHigh l), 0)) ∨ (quantL part stand s most l (eLow l) (eHigh l) a d = (0, 9) ∧ x ≠ 0 ∧ ∃ y ∈ l, outerV (sideZ s) x y.1 = true)) := by
  have hs := hv.sum
  have h0 : 0 < sumP l := by have := hv.sum0; have : sumP l ≠ 0 := fun e => hn (hv.empty.1 e); omega
  have hip := placeT_is ha h0 (by omega) hg
  have hE : placeE a d (sumP l) = 0 := by unfold placeE; rw [if_pos hg, if_neg (by omega)]
  obtain ⟨x, hx, hix⟩ := exactV_some hv.pos hip.one hip.le
  refine ⟨hE, x, hx, hix.mem, ?_⟩
  unfold quantL
  rw [if_pos hE]
  unfold docFind13
  rw [hx]
  dsimp only
  by_cases h : x ≠ 0 ∧ cnt (keptP s most (rowV part (decide (x < 0)) l)) (part x.natAbs) = 0
  · rw [if_pos h]
    exact .inr ⟨rfl, h.1, lost_out hc hv hm h.1 hix.mem h.2⟩
  · rw [if_neg h]
    exact .inl rfl
theorem out_step {z x : Int} {l : List (Int × Int)} {k : Nat} (hk : k < l.length) (h : outerV z x (l[k]'hk).1 = false) : (∃ y ∈ l.take (k + 1), outerV z x y.1 = true) → ∃ y ∈ l.take k, outerV z x y.1 = true := by
  rintro ⟨y, hy, ho⟩
  rw [List.take_succ_eq_append_getElem hk] at hy
  rcases List.mem_append.1 hy with hy | hy
  · exact ⟨y, hy, ho⟩
  · rw [List.mem_singleton.1 hy, h] at ho
    cases ho
open Go.Maps in
set_option maxRecDepth 100000 in
set_option maxHeartbeats 4000000 in
theorem logskClose_walk (w : World) (cu cv cs cm : Int) (bdcu : 0 ≤ cu ∧ cu < 18446744073709551616) (bdcv : 0 ≤ cv ∧ cv < 18446744073709551616) (bdcs : -9223372036854775808 ≤ cs ∧ cs ≤ 9223372036854775807) (bdcm : -9223372036854775808 ≤ cm ∧ cm ≤ 9223372036854775807) (Ac : Option Addr) (cc : Nat) (c : List (Int × Int)) (rc : Rd w Ac (c.flatMap fun x => [.int .i64 x.1, .int .u64 x.2])) (bdc : ∀ x ∈ c, (-9223372036854775808 ≤ x.1 ∧ x.1 ≤ 9223372036854775807) ∧ (0 ≤ x.2 ∧ x.2 < 18446744073709551616)) (lc : c.length ≤ 9223372036854775807) (p0 p1 : Int) (bdp0 : 0 ≤ p0 ∧ p0 < 18446744073709551616) (bdp1 : 0 ≤ p1 ∧ p1 < 18446744073709551616) :
    Calls Tryz.prog 3 #[.agg #[.int .u64 cu, .int .u64 cv, .int .i64 cs, .int .i64 cm, .slice Ac c.length cc], .agg #[.int .u64 p0, .int .u64 p1]] w fun e w' => e = .returned (.bool true) ∧ Below w.heap.size w w' := by
  have HPQ := Lib.hid (And.intro bdp0 bdp1)
  clear bdp0 bdp1
  have hmm := @run_makeMap Tryz.prog
  have HC0 : Hid (okP c) := bdc
  have HRC0 : Hid (RdP w Ac c) := rc
  obtain ⟨n, hn⟩ : ∃ n, c.length = n := ⟨_, rfl⟩
  have HN := Lib.hid hn
  have HUV := Lib.hid (And.intro bdcu bdcv)
  rw [hn]
  have hba : Below w.heap.size w ((w.alloc (.cells #[.int .u64 cu, .int .u64 cv, .int .i64 cs, .int .i64 cm, .slice Ac n cc] 27)).alloc (.cells #[.int .u64 p0, .int .u64 p1] 24)) := (((Below.refl _ _).alloc (by first | omega | (simp; done) | (simp; omega)) _).alloc (by first | omega | (simp; done) | (simp; omega)) _)
  have am := ((At.new' w #[.int .u64 cu, .int .u64 cv, .int .i64 cs, .int .i64 cm, .slice Ac n cc] 27 (b := w.heap.size) (by simp)).alloc (.cells #[.int .u64 p0, .int .u64 p1] 24))
  have ap := (At.new' (w.alloc (.cells #[.int .u64 cu, .int .u64 cv, .int .i64 cs, .int .i64 cm, .slice Ac n cc] 27)) #[.int .u64 p0, .int .u64 p1] 24 (b := w.heap.size + 1) (by simp))
  clear bdcu bdcv bdcs bdcm rc bdc lc hn
  go_enter Tryz.func3, Tryz.ntmps3
  go_wp2_with fail
  obtain ⟨W1, hW1⟩ : ∃ W, ((w.alloc (.cells #[.int .u64 cu, .int .u64 cv, .int .i64 cs, .int .i64 cm, .slice Ac n cc] 27)).alloc (.cells #[.int .u64 p0, .int .u64 p1] 24)) = W := ⟨_, rfl⟩
  rw [hW1] at hba am ap
  simp only [hW1]
  clear hW1
  refine (alive_any W1).mono ?_
  rintro e w2 ⟨rfl, hb⟩
  have HB2 := Lib.hid (keep1 hba hb)
  have HAM := Lib.hid (am.below hb)
  have HRp := Lib.hid (ap.below hb)
  have f2 := HAM.out.five
  have l2 := HAM.out.lt
  clear hba hb am ap
  go_wp2_with fail
  refine (build_any cu cv cs cm Ac n cc c w2 HUV.out.1 HUV.out.2 HN.out (HRC0.out.below HB2.out) HC0.out).mono ?_
  rintro e w3 (⟨rfl, hb⟩ | ⟨hp, s, part, rep, stand, b, m, S, TB, rfl, hc, h100, rfl, hB⟩)
  · have HB3 := Lib.hid (keep1 HB2.out hb)
    clear hb HB2 f2 l2 HAM HRp
    go_wp2
    go_ret
    exact ⟨rfl, HB3.out⟩
  have hv := hp.vok HC0.out
  have HV := Lib.hid hv
  have HCS := Lib.hid hc
  have HMO := Lib.hid hp.m
  have HB3 := Lib.hid (keep1 HB2.out (Two.below hB))
  have HA3 := Lib.hid fun W (hW : Below w3.heap.size w3 W) => (HAM.out.below (Two.below hB)).below hW
  have HP3 := Lib.hid fun W (hW : Below w3.heap.size w3 W) => (HRp.out.below (Two.below hB)).below hW
  have hX := Two.x hB
  have HR3 := Lib.hid fun W (hW : Below w3.heap.size w3 W) => (HRC0.out.below HB3.out).below hW
  have h60 : n ≤ 60 := by have := hp.n; have := HN.out; omega
  have H60 := Lib.hid h60
  obtain ⟨lows, reps, hBI, hPO, _⟩ := DocAt.get (Two.y hB) hc
  have HM := Lib.hid fun W (hW : Below w3.heap.size w3 W) => At.six (hBI.below hW)
  have HML := Lib.hid fun W (hW : Below w3.heap.size w3 W) => At.lt (hBI.below hW)
  have HPO := Lib.hid hPO
  have hs0 := hv.sum0
  have hs := hv.sum
  have HTO := Lib.hid fun W (hW : Below w3.heap.size w3 W) => btotal_any m lows reps 0 (sideZ s) cm Ac n cc c W (hBI.below hW) HN.out (by omega) (HR3.out W hW) hv.pos hs
  have HPL := Lib.hid fun W => rplace_any p0 p1 (sumP c) W HPQ.out.1.1 HPQ.out.1.2 HPQ.out.2.1 HPQ.out.2.2 hs0 (by omega)
  have HGP := Lib.hid fun W => rgood_any p0 p1 W HPQ.out.1.1 HPQ.out.1.2 HPQ.out.2.1 HPQ.out.2.2
  have HEX := Lib.hid fun W (hW : Below w3.heap.size w3 W) => exact_any Ac n cc c (placeT p0 p1 (sumP c)) W HN.out (by omega) (HR3.out W hW) hv.pos hs
  have HQU := Lib.hid fun W (hW : Below w3.heap.size w3 W) => lsquant_k b S part rep stand cu cv s cm c _ _ p0 p1 W (hX.below hW) hc.ps hv HPQ.out.1.1 HPQ.out.1.2 HPQ.out.2.1 HPQ.out.2.2
  have HSAY : Hid (n ≠ 0 → goodF p0 p1 = true → placeE p0 p1 (sumP c) = 0 ∧ ∃ x, exactV c (placeT p0 p1 (sumP c)) = some x ∧ (∃ y ∈ c, y.1 = x) ∧
      ((quantL part stand s cm c (eLow c) (eHigh c) p0 p1 = (min (max (stand x) (eLow c)) (eHigh c), 0)) ∨ (quantL part stand s cm c (eLow c) (eHigh c) p0 p1 = (0, 9) ∧ x ≠ 0 ∧ ∃ y ∈ c, outerV (sideZ s) x y.1 = true))) :=
    fun hn hg => quant_says hc hv hp.m.1 (fun e => hn (by rw [← HN.out, e]; rfl)) HPQ.out.1.1 hg
  clear hp hv hX h60 hBI hPO hB hc hs0 hs HB2 HAM HRp f2 l2
  have g3 := (HP3.out w3 (Below.refl _ _)).two
  have m3 := (HP3.out w3 (Below.refl _ _)).lt
  obtain ⟨gp, hgp⟩ : ∃ g, goodF p0 p1 = g := ⟨_, rfl⟩
  rw [hgp] at HGP HSAY
  clear hgp
  go_wp2_with fail
  refine (HGP.out w3).mono ?_
  rintro e w4 ⟨rfl, hb⟩
  have HB4 := Lib.hid hb
  clear hb g3 m3 HGP
  cases gp with
  | false =>
    have HF := Lib.hid (keep1 HB3.out HB4.out)
    go_wp2
    go_ret
    exact ⟨rfl, HF.out⟩
  | true =>
    have f4 := (HA3.out w4 HB4.out).five
    have l4 := (HA3.out w4 HB4.out).lt
    by_cases hn0 : n = 0
    · subst hn0
      have HF := Lib.hid (keep1 HB3.out HB4.out)
      go_wp2
      go_ret
      exact ⟨rfl, HF.out⟩
    have hn1 : ((n : Int) == 0) = false := beq_eq_false_iff_ne.2 (by omega)
    have hn2 : (n == 0) = false := beq_eq_false_iff_ne.2 hn0
    obtain ⟨hE, x, hx, hxm, hq⟩ := HSAY.out hn0 rfl
    rw [hE] at HPL
    rw [hx] at HEX
    dsimp only [Option.getD_some, Option.isSome_some] at HEX
    have HQQ := Lib.hid hq
    have HXM := Lib.hid hxm
    have HXR : Hid (-9223372036854775808 ≤ x ∧ x ≤ 9223372036854775807) := by
      obtain ⟨y, hy, e⟩ := hxm
      rw [← e]; exact (HV.out.ok y hy).1
    obtain ⟨T, hT⟩ : ∃ z, sumP c = z := ⟨_, rfl⟩
    rw [hT] at HTO HPL HEX
    obtain ⟨tp, htp⟩ : ∃ z, placeT p0 p1 T = z := ⟨_, rfl⟩
    rw [htp] at HPL HEX
    obtain ⟨z, hz⟩ : ∃ z, sideZ s = z := ⟨_, rfl⟩
    have HZZ := Lib.hid hz
    rw [hz] at HA3 HM
    clear hn0 hE hx hxm hq hT htp hz HSAY
    have s4 := HP3.out w4 HB4.out
    have HT4 := Lib.hid fun W (hb : Below w4.heap.size w4 W) => HTO.out W (keep1 HB4.out hb)
    go_wp2
    have hfar1 := fun x : Far w4 => (x.at s4).two
    refine wp_region_far (by kernel_rfl) (by kernel_rfl) ?_
    repeat (first | go_big_quiet_skip | (go_big_quiet_want; go_big_quiet_op; first | go_big_quiet_on | (apply Exists.intro; refine ⟨fun _ => ?_, ?_⟩; (focus (first | (with_reducible refine far_of (HT4.out _ (Far.below _))) | (with_reducible refine far_of (HPL.out _)))); go_big_quiet_on)))
    refine wpQuiet_nil ?_
    rintro _ ⟨xq, rfl⟩
    clear hfar1
    have HB5 : Hid (Below w3.heap.size w3 xq.far) := keep1 HB4.out xq.below
    obtain ⟨W5, hW5⟩ : ∃ W, xq.far = W := ⟨_, rfl⟩
    rw [hW5] at HB5 ⊢
    clear hW5 s4 HT4 HPL HTO f4 l4 hn1 hn2 HB4
    have f5 := HM.out W5 HB5.out
    have l5 := HML.out W5 HB5.out
    go_wp2_with fail
    refine (HEX.out W5 HB5.out).mono ?_
    rintro e w6 ⟨rfl, hb⟩
    have HB6 := Lib.hid (keep1 HB5.out hb)
    have g6 := (HP3.out w6 HB6.out).two
    have m6 := (HP3.out w6 HB6.out).lt
    clear hb HEX HB5 f5 l5
    go_wp2_with fail
    refine (HQU.out w6 HB6.out).mono ?_
    rintro e w7 ⟨rfl, hb⟩
    have HB7 := Lib.hid (keep1 HB6.out hb)
    clear hb HQU HB6 g6 m6
    rcases HQQ.out with hq | ⟨hq, hx0, hout⟩
    · rw [hq]
      have HCL : Hid ((gapZ (min (max (stand x) (eLow c)) (eHigh c)) x : Int) * cv ≤ x.natAbs * cu) := by
        obtain ⟨y, hy, e⟩ := HXM.out
        have b := eLow_le hy
        rw [e] at b
        exact HCS.out.close HXR.out.1 HXR.out.2 b.1 b.2
      have HRR : Hid (-9223372036854775808 ≤ min (max (stand x) (eLow c)) (eHigh c) ∧ min (max (stand x) (eLow c)) (eHigh c) ≤ 9223372036854775807) := by
        obtain ⟨y, hy, e⟩ := HXM.out
        have hne : c ≠ [] := List.ne_nil_of_mem hy
        obtain ⟨⟨v1, mv, ev⟩, ⟨v2, mv', ev'⟩⟩ := eLow_mem hne
        have r1 := (HV.out.ok v1 mv).1
        have r2 := (HV.out.ok v2 mv').1
        rw [ev] at r1
        rw [ev'] at r2
        show _ ∧ _
        constructor <;> omega
      obtain ⟨r, hr⟩ : ∃ r, min (max (stand x) (eLow c)) (eHigh c) = r := ⟨_, rfl⟩
      rw [hr] at HCL HRR ⊢
      have HWI := Lib.hid fun W => rwithin_any r x cu cv W HRR.out.1 HRR.out.2 HXR.out.1 HXR.out.2 HUV.out.1.1 HUV.out.1.2 HUV.out.2.1 HUV.out.2.2 HCL.out
      have f7 := (HA3.out w7 HB7.out).five
      have l7 := (HA3.out w7 HB7.out).lt
      clear hq hr HCL HRR
      go_wp2_with fail
      refine (HWI.out w7).mono ?_
      rintro e w8 ⟨rfl, hb⟩
      have HF := Lib.hid (keep1 HB3.out (keep1 HB7.out hb))
      clear hb HWI f7 l7
      go_wp2
      go_ret
      exact ⟨rfl, HF.out⟩
    rw [hq]
    have HOUT := Lib.hid hout
    rw [HZZ.out] at HOUT
    have HX0 := Lib.hid hx0
    clear hq hx0 hout HQQ HXM
    have hba : Below w7.heap.size w7 (w7.alloc (.map #[] 0)) := (Below.refl _ _).alloc (Nat.le_refl _) _
    have f7 := HM.out _ (keep1 HB7.out hba)
    have l7 := HML.out _ (keep1 HB7.out hba)
    have hown0 := World.ownsMap_made w7 Tryz.prog 3 (plainElem (H := Unit) Tryz.prog 4)
    have HOWN := Lib.hid hown0
    have HBA := Lib.hid hba
    clear hba hown0
    go_wp2
    clear f7 l7
    have HPR := Lib.hid HCS.out.ps.rng
    have HSX := Lib.hid fun W => rsize_any x W HXR.out.1 HXR.out.2
    obtain ⟨xa, hxa⟩ : ∃ a : Int, (x.natAbs : Int) = a := ⟨_, rfl⟩
    have HXA := Lib.hid hxa
    rw [hxa] at HSX
    clear hxa
    go_loopw [16, 17, 74] (fun _ _ i wr => ∃ k : Nat, k ≤ n ∧ i = .int .i64 k ∧ ∃ D : DataW Unit, Hid (wr.ownsMap Tryz.prog 3 (plainElem (H := Unit) Tryz.prog 4) w7.heap.size k D) ∧ Hid (Below w7.heap.size w7 wr) ∧ Hid ((∃ y ∈ c.take k, outerV z x y.1 = true) → 0 < Maps.size D)) (fun _ _ i _ => n - (intOf i).toNat)
    case atStart => exact ⟨0, by omega, rfl, _, HOWN, HBA, fun ⟨y, hy, _⟩ => by simp at hy⟩
    case round =>
      obtain ⟨k, hk, rfl, D, HO, HBR, HSZ⟩ := hrel
      have h60 := H60.out
      clear HOWN HBA
      by_cases hlt : k < n
      · have HKL : Hid (k < c.length) := by have := HN.out; show _ < _; omega
        obtain ⟨g, o, rfl, hg, c1, c2⟩ := (HR3.out wr (keep1 HB7.out HBR.out)).at k HKL.out
        have HOX := Lib.hid (HC0.out.at k HKL.out)
        have HSTP : Hid (outerV z x (c[k]'HKL.out).1 = false → (∃ y ∈ c.take (k + 1), outerV z x y.1 = true) → 0 < Maps.size D) := fun hf h => HSZ.out (out_step HKL.out hf h)
        obtain ⟨⟨v, y⟩, hvy⟩ : ∃ x, c[k]'HKL.out = x := ⟨_, rfl⟩
        rw [hvy] at c1 c2 HOX HSTP
        dsimp only at c1 c2 HOX HSTP
        clear hvy
        have HSV := Lib.hid fun W => rsize_any v W HOX.out.1.1 HOX.out.1.2
        obtain ⟨va, hva⟩ : ∃ a : Int, (v.natAbs : Int) = a := ⟨_, rfl⟩
        have HVA := Lib.hid hva
        rw [hva] at HSV
        clear hva
        have hba : Below wr.heap.size wr (wr.alloc (.cells #[.int .i64 v, .int .u64 y] 48)) := (Below.refl _ _).alloc (Nat.le_refl _) _
        have a1 := At.new wr #[.int .i64 v, .int .u64 y] 48
        have HBR1 := Lib.hid (keep1 HBR.out hba)
        have HO1 := Lib.hid (own_below HO.out hba)
        have s1 := HA3.out _ (keep1 HB7.out HBR1.out)
        have f1 := s1.five
        have l1 := s1.lt
        have g1 := a1.two
        have m1 := a1.lt
        clear hba a1 s1
        go_wp2_with fail
        obtain ⟨W1, hW1⟩ : ∃ W, wr.alloc (.cells #[.int .i64 v, .int .u64 y] 48) = W := ⟨_, rfl⟩
        obtain ⟨g2, hg2⟩ : ∃ g2, wr.heap.size = g2 := ⟨_, rfl⟩
        rw [hW1] at HBR1 HO1 f1 l1 g1 m1
        rw [hg2] at g1 m1
        simp only [hW1, hg2]
        clear hW1 hg2 c1 c2 hg HO HBR HSZ
        refine (HSV.out W1).mono ?_
        rintro e w' ⟨rfl, rfl⟩
        go_wp2_with fail
        refine (HSX.out W1).mono ?_
        rintro e w' ⟨rfl, rfl⟩
        by_cases hz1 : z = 1
        · have hzz : (z == 1) = true := beq_iff_eq.2 hz1
          go_wp2_with fail
          refine (HSV.out W1).mono ?_
          rintro e w' ⟨rfl, rfl⟩
          go_wp2_with fail
          refine (HSX.out W1).mono ?_
          rintro e w' ⟨rfl, rfl⟩
          by_cases ho : va < xa
          · have hd1 : decide (va < xa) = true := decide_eq_true ho
            by_cases hv0 : v = 0
            · have hd2 : (v != 0) = false := by rw [hv0]; rfl
              have HNX := Lib.hid (HSTP.out (by unfold outerV; rw [if_pos hz1, decide_eq_false (show ¬ v ≠ 0 from fun h => h hv0), Bool.and_false, Bool.false_and]))
              clear ho hv0 hz1 HSTP
              go_wp2
              go_roundw
              case rel => exact ⟨k + 1, by omega, by simp, D, HO1.out.mono (by omega), HBR1, HNX⟩
              case measure => simp [intOf]; omega
            · have hd2 : (v != 0) = true := bne_iff_ne.2 hv0
              by_cases hsg : decide (v < 0) = decide (x < 0)
              · have hd3 : (decide (v < 0) == decide (x < 0)) = true := by rw [hsg]; exact beq_self_eq_true _
                clear ho hsg hz1 HSTP
                go_wp2_with fail
                refine (HSV.out W1).mono ?_
                rintro e w' ⟨rfl, rfl⟩
                have HPT := Lib.hid (HPO.out W1 (keep1 HB7.out HBR1.out) v.natAbs (by omega) (by have := HOX.out.1; omega))
                have HPV := Lib.hid (HPR.out v.natAbs (by omega) (by have := HOX.out.1; omega))
                rw [HVA.out] at HPT
                obtain ⟨pv, hpv⟩ : ∃ q, part v.natAbs = q := ⟨_, rfl⟩
                rw [hpv] at HPT HPV
                clear hpv hv0 f1 l1 g1 m1
                go_wp2_with fail
                refine HPT.out.mono ?_
                rintro e w3' ⟨rfl, hb⟩
                have HO2 := Lib.hid (own_below HO1.out hb)
                have HBR2 := Lib.hid (keep1 HBR1.out hb)
                have hkey : keyOf Tryz.prog 3 (.int .i64 pv) = some (.int .i64 pv) := keyOf_int_mk Tryz.underlying3 (WalkArith.wf_i64 (by have := HPV.out; omega))
                clear hb HPT HPV HO1 HBR1
                go_wp2_with (first | (at_mapUpdate; refine wpList_mapUpdate_own _ rfl _ _ _ 46 rfl 3 4 lawInt Tryz.underlying46 _ w7.heap.size k _ rfl HO2.out (by have := H60.out; unfold maxLen; omega) _ _ _ rfl rfl hkey _ [] (plainElem_bool Tryz.underlying4 _) ?_; intro w4' hown4 hgrow4; have HO4 := Lib.hid hown4; have HBR4 := Lib.hid (HBR2.out.grown hgrow4 HBR2.out.size (fun j hj => by cases hj; exact Nat.le_refl _)); have HPS := Lib.hid (size_put_pos HO2.out.isMap (.int .i64 pv) (.lit (.bool true))); clear hown4 hgrow4) | fail)
                go_roundw
                case rel => exact ⟨k + 1, by omega, by simp, _, HO4, HBR4, fun _ => HPS.out⟩
                case measure => simp [intOf]; omega
              · have hd3 : (decide (v < 0) == decide (x < 0)) = false := beq_eq_false_iff_ne.2 hsg
                have HNX := Lib.hid (HSTP.out (by unfold outerV; rw [hd3, Bool.and_false]))
                clear ho hv0 hsg hz1 HSTP
                go_wp2
                go_roundw
                case rel => exact ⟨k + 1, by omega, by simp, D, HO1.out.mono (by omega), HBR1, HNX⟩
                case measure => simp [intOf]; omega
          · have hd1 : decide (va < xa) = false := decide_eq_false ho
            have HNX := Lib.hid (HSTP.out (by unfold outerV; rw [if_pos hz1, decide_eq_false (by have := HVA.out; have := HXA.out; omega), Bool.false_and, Bool.false_and]))
            clear ho hz1 HSTP
            go_wp2
            go_roundw
            case rel => exact ⟨k + 1, by omega, by simp, D, HO1.out.mono (by omega), HBR1, HNX⟩
            case measure => simp [intOf]; omega
        · have hzz : (z == 1) = false := beq_eq_false_iff_ne.2 hz1
          by_cases ho : xa < va
          · have hd1 : decide (xa < va) = true := decide_eq_true ho
            have hv0 : ¬ v = 0 := by have := HVA.out; have := HXA.out; omega
            by_cases hsg : decide (v < 0) = decide (x < 0)
            · have hd3 : (decide (v < 0) == decide (x < 0)) = true := by rw [hsg]; exact beq_self_eq_true _
              clear ho hsg hz1 HSTP
              go_wp2_with fail
              refine (HSV.out W1).mono ?_
              rintro e w' ⟨rfl, rfl⟩
              have HPT := Lib.hid (HPO.out W1 (keep1 HB7.out HBR1.out) v.natAbs (by omega) (by have := HOX.out.1; omega))
              have HPV := Lib.hid (HPR.out v.natAbs (by omega) (by have := HOX.out.1; omega))
              rw [HVA.out] at HPT
              obtain ⟨pv, hpv⟩ : ∃ q, part v.natAbs = q := ⟨_, rfl⟩
              rw [hpv] at HPT HPV
              clear hpv hv0 f1 l1 g1 m1
              go_wp2_with fail
              refine HPT.out.mono ?_
              rintro e w3' ⟨rfl, hb⟩
              have HO2 := Lib.hid (own_below HO1.out hb)
              have HBR2 := Lib.hid (keep1 HBR1.out hb)
              have hkey : keyOf Tryz.prog 3 (.int .i64 pv) = some (.int .i64 pv) := keyOf_int_mk Tryz.underlying3 (WalkArith.wf_i64 (by have := HPV.out; omega))
              clear hb HPT HPV HO1 HBR1
              go_wp2_with (first | (at_mapUpdate; refine wpList_mapUpdate_own _ rfl _ _ _ 46 rfl 3 4 lawInt Tryz.underlying46 _ w7.heap.size k _ rfl HO2.out (by have := H60.out; unfold maxLen; omega) _ _ _ rfl rfl hkey _ [] (plainElem_bool Tryz.underlying4 _) ?_; intro w4' hown4 hgrow4; have HO4 := Lib.hid hown4; have HBR4 := Lib.hid (HBR2.out.grown hgrow4 HBR2.out.size (fun j hj => by cases hj; exact Nat.le_refl _)); have HPS := Lib.hid (size_put_pos HO2.out.isMap (.int .i64 pv) (.lit (.bool true))); clear hown4 hgrow4) | fail)
              go_roundw
              case rel => exact ⟨k + 1, by omega, by simp, _, HO4, HBR4, fun _ => HPS.out⟩
              case measure => simp [intOf]; omega
            · have hd3 : (decide (v < 0) == decide (x < 0)) = false := beq_eq_false_iff_ne.2 hsg
              have HNX := Lib.hid (HSTP.out (by unfold outerV; rw [hd3, Bool.and_false]))
              clear ho hv0 hsg hz1 HSTP
              go_wp2
              go_roundw
              case rel => exact ⟨k + 1, by omega, by simp, D, HO1.out.mono (by omega), HBR1, HNX⟩
              case measure => simp [intOf]; omega
          · have hd1 : decide (xa < va) = false := decide_eq_false ho
            have HNX := Lib.hid (HSTP.out (by unfold outerV; rw [if_neg hz1, decide_eq_false (by have := HVA.out; have := HXA.out; omega), Bool.false_and]))
            clear ho hz1 HSTP
            go_wp2
            go_roundw
            case rel => exact ⟨k + 1, by omega, by simp, D, HO1.out.mono (by omega), HBR1, HNX⟩
            case measure => simp [intOf]; omega
      · obtain rfl : k = n := by omega
        have HPOS : Hid (0 < Maps.size D) := HSZ.out (by rw [List.take_of_length_le (by have := HN.out; omega)]; exact HOUT.out)
        have hlen := HO.out.len Tryz.underlying46 3
        obtain ⟨sz, hsz⟩ : ∃ z, Maps.size D = z := ⟨_, rfl⟩
        rw [hsz] at hlen HPOS
        have hd : decide ((0 : Int) < sz) = true := decide_eq_true (by have := HPOS.out; omega)
        have hd' : decide (0 < sz) = true := decide_eq_true HPOS.out
        have hx0 : (x != 0) = true := bne_iff_ne.2 HX0.out
        have HF := Lib.hid (keep1 HB3.out (keep1 HB7.out HBR.out))
        clear hsz HO HBR HSZ HPOS
        go_wp2
        go_ret
        exact ⟨rfl, HF.out⟩
end Go.Proofs.YtondkkhagbcadaaGreat
