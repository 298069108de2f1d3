/- The walk of the statement BinsFinds. -/
import Derived.Test.YtplfiheejecjiaaGreatDoorProg
import Derived.Test.YtplfiheejecjiaaGreatDoorOpen
import Derived.Test.YtplfiheejecjiaaGreatDoorSame13
import Derived.Test.YtplfiheejecjiaaGreatDoorCase
namespace Go.Proofs.YtplfiheejecjiaaGreatDoor
open Go.RowKit

set_option maxHeartbeats 2000000 in
theorem binsFinds_walk (w : World) (hTens : TensAt w) (cu cv cd cs cm : Int) (bdcu : 0 ≤ cu ∧ cu < 18446744073709551616) (bdcv : 0 ≤ cv ∧ cv < 18446744073709551616) (bdcd : -9223372036854775808 ≤ cd ∧ cd ≤ 9223372036854775807) (bdcs : -9223372036854775808 ≤ cs ∧ cs ≤ 9223372036854775807) (bdcm : -9223372036854775808 ≤ cm ∧ cm ≤ 9223372036854775807) (Ac : Option Addr) (cc : Nat) (c : List (Int × Int)) (rc : Rd w Ac (c.flatMap fun x => [.int .i64 x.1, .int .u64 x.2])) (bdc : ∀ x ∈ c, (-9223372036854775808 ≤ x.1 ∧ x.1 ≤ 9223372036854775807) ∧ (0 ≤ x.2 ∧ x.2 < 18446744073709551616)) (lc : c.length ≤ 9223372036854775807) (t : Int) (bdt : 0 ≤ t ∧ t < 18446744073709551616) :
    Calls Tryz.prog 3 #[.agg #[.int .u64 cu, .int .u64 cv, .int .i64 cd, .int .i64 cs, .int .i64 cm, .slice Ac c.length cc], .int .u64 t] w fun e w' => e = .returned (.bool true) ∧ Below w.heap.size w w' := by
  have HTN := Lib.hid hTens
  have HC0 : Hid (okP c) := bdc
  have HRC0 : Hid (RdP w Ac c) := rc
  obtain ⟨n, hn⟩ : ∃ n, c.length = n := ⟨_, rfl⟩
  have HN := Lib.hid hn
  have HUV := Lib.hid (And.intro bdcu bdcv)
  rw [hn]
  have hba : Below w.heap.size w (w.alloc (.cells #[.int .u64 cu, .int .u64 cv, .int .i64 cd, .int .i64 cs, .int .i64 cm, .slice Ac n cc] 27)) := (Below.refl _ _).alloc (Nat.le_refl _) _
  have am : At (w.alloc (.cells #[.int .u64 cu, .int .u64 cv, .int .i64 cd, .int .i64 cs, .int .i64 cm, .slice Ac n cc] 27)) w.heap.size #[.int .u64 cu, .int .u64 cv, .int .i64 cd, .int .i64 cs, .int .i64 cm, .slice Ac n cc] 27 := At.new' _ _ _ rfl
  clear hTens bdcu bdcv bdcd bdcs bdcm rc bdc lc hn
  go_enter Tryz.func3, Tryz.ntmps3
  go_wp2_with fail
  obtain ⟨W1, hW1⟩ : ∃ W, w.alloc (.cells #[.int .u64 cu, .int .u64 cv, .int .i64 cd, .int .i64 cs, .int .i64 cm, .slice Ac n cc] 27) = W := ⟨_, rfl⟩
  obtain ⟨rb, hrb⟩ : ∃ r, w.heap.size = r := ⟨_, rfl⟩
  rw [hW1] at hba am
  rw [hrb] at am
  simp only [hW1, hrb]
  clear hW1 hrb
  refine (alive_any W1 (HTN.out.below hba)).mono ?_
  rintro e w2 ⟨rfl, hb⟩
  have HB2 := Lib.hid (keep1 hba hb)
  have a2 := am.below hb
  have HAM := Lib.hid a2
  have f2 := a2.six
  have l2 := a2.lt
  clear hba hb am a2
  go_wp2_with fail
  refine (build_any cu cv cd cs cm Ac n cc c w2 (HTN.out.below HB2.out) HUV.out.1 HUV.out.2 HN.out (HRC0.out.below HB2.out) HC0.out).mono ?_
  rintro e w3 (⟨rfl, hb⟩ | ⟨hp, k, s, part, rep, stand, b, m, S, TB, rfl, hc, rfl, hB⟩)
  · have HB3 := Lib.hid (keep1 HB2.out hb)
    clear hb HB2 f2 l2 HAM
    go_wp2
    go_ret
    exact ⟨rfl, HB3.out⟩
  · have hv := hp.vok HC0.out
    have HB3 := Lib.hid (keep1 HB2.out (Two.below hB))
    obtain ⟨lows, reps, hBI, hPO, hST⟩ := DocAt.get (Two.y hB) hc
    have hX := Two.x hB
    have hR3 := HRC0.out.below HB3.out
    have HF1 := Lib.hid (bfind_v b S k part rep stand s cm t c w3 hX hc.ps hv bdt)
    have HF2 := Lib.hid fun W (hW : Below w3.heap.size w3 W) => bdfind_any m lows reps cd s cm Ac n cc part stand c t W (hBI.below hW) (hPO.below hW) (hST.below hW) HN.out (by have := hp.n; have := HN.out; omega) (hR3.below hW) HC0.out hv.pos hv.sum (fun a h0 h1 => by have := hX.rng a h0 h1; omega) hp.m
    obtain ⟨o, ho⟩ : ∃ o, docFind13 part stand s cm c t = o := ⟨_, rfl⟩
    rw [ho] at HF1 HF2
    unfold optI at HF1 HF2
    obtain ⟨x, hx⟩ : ∃ x, o.getD 0 = x := ⟨_, rfl⟩
    obtain ⟨y, hy⟩ : ∃ y, o.isSome = y := ⟨_, rfl⟩
    rw [hx, hy] at HF1 HF2
    clear HB2 f2 l2 HAM hp hv hX hR3 hB hBI hPO hST hc ho hx hy HRC0 HC0 HUV HN HTN
    go_wp2_with fail
    refine HF1.out.mono ?_
    rintro e w4 ⟨rfl, hb⟩
    have HB4 := Lib.hid hb
    clear hb HF1
    go_wp2_with fail
    refine (HF2.out w4 HB4.out).mono ?_
    rintro e w5 ⟨rfl, hb⟩
    have HB5 := Lib.hid (keep1 HB3.out (keep1 HB4.out hb))
    clear hb HB4 HB3 HF2
    cases y
    all_goals
      go_wp2
      go_ret
      exact ⟨rfl, HB5.out⟩
end Go.Proofs.YtplfiheejecjiaaGreatDoor
