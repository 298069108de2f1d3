/- The walk of the statement LogskDoes. -/
import Derived.Test.YtondkkhagbcadaaGreatProg
import Derived.Test.YtondkkhagbcadaaGreatOpen
import Derived.Test.YtondkkhagbcadaaGreatLsBuild
import Derived.Test.YtondkkhagbcadaaGreatCase14
namespace Go.Proofs.YtondkkhagbcadaaGreat
open Go.RowKit

set_option maxRecDepth 100000 in
set_option maxHeartbeats 4000000 in
theorem logskDoes_walk (w : World) (cu cv cs cm : Int) (bdcu : 0 ≤ cu ∧ cu < 18446744073709551616) (bdcv : 0 ≤ cv ∧ cv < 18446744073709551616) (bdcs : -9223372036854775808 ≤ cs ∧ cs ≤ 9223372036854775807) (bdcm : -9223372036854775808 ≤ cm ∧ cm ≤ 9223372036854775807) (Ac : Option Addr) (cc : Nat) (c : List (Int × Int)) (rc : Rd w Ac (c.flatMap fun x => [.int .i64 x.1, .int .u64 x.2])) (bdc : ∀ x ∈ c, (-9223372036854775808 ≤ x.1 ∧ x.1 ≤ 9223372036854775807) ∧ (0 ≤ x.2 ∧ x.2 < 18446744073709551616)) (lc : c.length ≤ 9223372036854775807) (p0 p1 : Int) (bdp0 : 0 ≤ p0 ∧ p0 < 18446744073709551616) (bdp1 : 0 ≤ p1 ∧ p1 < 18446744073709551616) :
    Calls Tryz.prog 6 #[.agg #[.int .u64 cu, .int .u64 cv, .int .i64 cs, .int .i64 cm, .slice Ac c.length cc], .agg #[.int .u64 p0, .int .u64 p1]] w fun e w' => e = .returned (.bool true) ∧ Below w.heap.size w w' := by
  have HPQ := Lib.hid (And.intro bdp0 bdp1)
  clear bdp0 bdp1
  have HC0 : Hid (okP c) := bdc
  have HRC0 : Hid (RdP w Ac c) := rc
  obtain ⟨n, hn⟩ : ∃ n, c.length = n := ⟨_, rfl⟩
  have HN := Lib.hid hn
  have HUV := Lib.hid (And.intro bdcu bdcv)
  rw [hn]
  have hba : Below w.heap.size w ((w.alloc (.cells #[.int .u64 cu, .int .u64 cv, .int .i64 cs, .int .i64 cm, .slice Ac n cc] 27)).alloc (.cells #[.int .u64 p0, .int .u64 p1] 24)) := (((Below.refl _ _).alloc (by first | omega | (simp; done) | (simp; omega)) _).alloc (by first | omega | (simp; done) | (simp; omega)) _)
  have am := ((At.new' w #[.int .u64 cu, .int .u64 cv, .int .i64 cs, .int .i64 cm, .slice Ac n cc] 27 (b := w.heap.size) (by simp)).alloc (.cells #[.int .u64 p0, .int .u64 p1] 24))
  have ap := (At.new' (w.alloc (.cells #[.int .u64 cu, .int .u64 cv, .int .i64 cs, .int .i64 cm, .slice Ac n cc] 27)) #[.int .u64 p0, .int .u64 p1] 24 (b := w.heap.size + 1) (by simp))
  clear bdcu bdcv bdcs bdcm rc bdc lc hn
  go_enter Tryz.func6, Tryz.ntmps6
  go_wp2_with fail
  obtain ⟨W1, hW1⟩ : ∃ W, ((w.alloc (.cells #[.int .u64 cu, .int .u64 cv, .int .i64 cs, .int .i64 cm, .slice Ac n cc] 27)).alloc (.cells #[.int .u64 p0, .int .u64 p1] 24)) = W := ⟨_, rfl⟩
  rw [hW1] at hba am ap
  simp only [hW1]
  clear hW1
  refine (alive_any W1).mono ?_
  rintro e w2 ⟨rfl, hb⟩
  have HB2 := Lib.hid (keep1 hba hb)
  have HAM := Lib.hid (am.below hb)
  have HRp := Lib.hid (ap.below hb)
  have f2 := HAM.out.five
  have l2 := HAM.out.lt
  clear hba hb am ap
  go_wp2_with fail
  refine (build_any cu cv cs cm Ac n cc c w2 HUV.out.1 HUV.out.2 HN.out (HRC0.out.below HB2.out) HC0.out).mono ?_
  rintro e w3 (⟨rfl, hb⟩ | ⟨hp, s, part, rep, stand, b, m, S, TB, rfl, hc, _, rfl, hB⟩)
  · have HB3 := Lib.hid (keep1 HB2.out hb)
    clear hb HB2 f2 l2 HAM HRp
    go_wp2
    go_ret
    exact ⟨rfl, HB3.out⟩
  have hv := hp.vok HC0.out
  have HB3 := Lib.hid (keep1 HB2.out (Two.below hB))
  have hX := Two.x hB
  have hR3 := HRC0.out.below HB3.out
  have h60 : n ≤ 60 := by have := hp.n; have := HN.out; omega
  obtain ⟨lows, reps, hBI, hPO, hST⟩ := DocAt.get (Two.y hB) hc
  have hpr : ∀ a, 0 < a → a ≤ 9223372036854775808 → -9223372036854775808 ≤ part a ∧ part a ≤ 9223372036854775807 := fun a h0 h1 => by have := hc.ps.rng a h0 h1; omega
  have HQ1 := Lib.hid (lsquant_k b S part rep stand cu cv s cm c _ _ p0 p1 w3 hX hc.ps hv HPQ.out.1.1 HPQ.out.1.2 HPQ.out.2.1 HPQ.out.2.2)
  have HQ2 := Lib.hid fun W (hW : Below w3.heap.size w3 W) => rquant_any m lows reps 0 s cm Ac n cc part stand c p0 p1 W (hBI.below hW) (hPO.below hW) (hST.below hW) HN.out (by omega) (hR3.below hW) hv hpr hp.m HPQ.out.1.1 HPQ.out.1.2 HPQ.out.2.1 HPQ.out.2.2
  have HSA := Lib.hid fun W (hW : Below w3.heap.size w3 W) => lssame_any b S part rep cu cv s cm c m lows reps 0 Ac n cc W (hX.below hW) (hBI.below hW) (hPO.below hW) HN.out (by omega) (hR3.below hW) hv
  have HRP := Lib.hid fun W (hW : Below w3.heap.size w3 W) => (HRp.out.below (Two.below hB)).below hW
  have f3 := (HRP.out w3 (Below.refl _ _)).two
  have l3 := (HRP.out w3 (Below.refl _ _)).lt
  obtain ⟨q, hq⟩ : ∃ q, quantL part stand s cm c (eLow c) (eHigh c) p0 p1 = q := ⟨_, rfl⟩
  rw [hq] at HQ1 HQ2
  obtain ⟨⟨q1, q2⟩, hqq⟩ : ∃ r, q = r := ⟨_, rfl⟩
  rw [hqq] at HQ1 HQ2
  dsimp only at HQ1 HQ2
  have e1 : (q1 == q1) = true := beq_self_eq_true q1
  have e2 : (q2 == q2) = true := beq_self_eq_true q2
  clear hp hv hX hR3 h60 hBI hPO hST hpr hB hc hq hqq HB2 HAM HRp f2 l2 HC0 HRC0 HN HUV HPQ
  go_wp2_with fail
  refine HQ1.out.mono ?_
  rintro e w4 ⟨rfl, hb⟩
  have HB4 := Lib.hid hb
  have f4 := (HRP.out w4 hb).two
  have l4 := (HRP.out w4 hb).lt
  clear hb HQ1 f3 l3
  go_wp2_with fail
  refine (HQ2.out w4 HB4.out).mono ?_
  rintro e w5 ⟨rfl, hb⟩
  have HB5 := Lib.hid (keep1 HB4.out hb)
  clear hb HQ2 HB4 f4 l4 HRP
  go_wp2_with fail
  refine (HSA.out w5 HB5.out).mono ?_
  rintro e w6 ⟨rfl, hb⟩
  have HB6 := Lib.hid (keep1 HB3.out (keep1 HB5.out hb))
  clear hb HSA HB5 HB3
  go_wp2
  go_ret
  exact ⟨rfl, HB6.out⟩
end Go.Proofs.YtondkkhagbcadaaGreat
