/- The walk of the statement CoreExact. -/
import Derived.Test.YtlbnlmhcpephbaaGreatDoorProg
import Derived.Test.YtlbnlmhcpephbaaGreatDoorKe1
import Derived.Test.YtlbnlmhcpephbaaGreatDoorKe25
import Derived.Test.YtlbnlmhcpephbaaGreatDoorKe26
namespace Go.Proofs.YtlbnlmhcpephbaaGreatDoor
open Go.RowKit
set_option maxRecDepth 100000 in
set_option maxHeartbeats 4000000 in
theorem coreExact_walk (w : World) (hTens : TensAt w) (c : Cfg) (hok : c.Ok) (hwo : U64 c.wo) (Al : Option Addr) (len cl : Nat) (ls : List Lf) (hl : ls.length = len) (hl' : len ≤ 9223372036854775807) (hR : RdL w Al ls) (Ap : Option Addr) (m cp : Nat) (ps : List Int) (hm : ps.length = m) (hm' : m ≤ 9223372036854775807) (hP : RdI w Ap ps) (hpb : ∀ p ∈ ps, -9223372036854775808 ≤ p ∧ p ≤ 9223372036854775807) :
    Calls Tryz.prog 6 #[c.val, .slice Al len cl, .slice Ap m cp] w fun e w' => e = .returned (.bool true) ∧ Below w.heap.size w w' := by
  obtain ⟨Sk, K⟩ := kind_all c hok hwo
  have HT := Lib.hid hTens
  have HR := Lib.hid hR
  have HP := Lib.hid hP
  have GR := Lib.hid fun W h => great_any c Al len cl ls W hl hl' h
  have TR := Lib.hid fun W hT h hp hP => tree_any K.toKindC Al len cl ls Ap m cp ps W hT hl h hp hm hm' hP hpb
  have KT := Lib.hid (And.intro @K.tot (And.intro @K.ends @K.frame))
  have s1 := At.new w c.row 28
  have b1 := bn w (.cells c.row 28)
  obtain ⟨kd, pn, pd, sd, mo, dg, li, de, fa, wi, wo⟩ := c
  dsimp only [Cfg.val, Cfg.row] at s1 b1 GR TR ⊢
  clear K hTens hok hwo hR hP hl hl' hm hm' hpb
  go_enter Tryz.func6, Tryz.ntmps6
  go_wp2_with fail
  generalize w.alloc _ = W1 at *
  obtain ⟨cb, hcb⟩ : ∃ r, w.heap.size = r := ⟨_, rfl⟩
  rw [hcb] at s1
  simp only [hcb]
  clear hcb
  refine (talive_w (HT.out.below b1)).mono ?_
  rintro e w2 ⟨rfl, hb⟩
  have b2 := keep1 b1 hb
  replace s1 := s1.below hb
  have f2 := s1.el
  have l2 := s1.lt
  clear b1 hb
  go_wp2_with fail
  refine (GR.out w2 (HR.out.below b2)).mono ?_
  rintro e w3 ⟨bv, rfl, hpl, hb⟩
  have b3 := keep1 b2 hb
  replace s1 := s1.below hb
  have f3 := s1.el
  have l3 := s1.lt
  have PL := Lib.hid hpl
  clear b2 hb hpl f2 l2 GR
  cases bv with
  | true =>
    go_wp2
    go_ret
    exact ⟨rfl, b3⟩
  | false =>
  have TR := Lib.hid (TR.out w3 (HT.out.below b3) (HR.out.below b3) (PL.out rfl) (HP.out.below b3))
  clear PL HR HP HT
  go_wp2_with fail
  refine TR.out.mono ?_
  rintro e w4 (⟨hb, v0, v1, rfl⟩ | ⟨b, S, Aa, ca, n, l, rfl, hJ⟩)
  · have hF := keep1 b3 hb
    clear b3 hb f3 l3 TR s1
    go_wp2
    go_ret
    exact ⟨rfl, hF⟩
  have J := Lib.hid hJ
  have B4 := Lib.hid (keep1 b3 hJ.bl)
  have n360 : n ≤ 1000 := by have := hJ.lok.len; have := hJ.len; omega
  have V : VOk l := hJ.lok.vok
  have UP : Hid (∀ W, Below w4.heap.size w4 W → Calls Tryz.prog 11 #[.slice Aa n ca, .int .i64 9223372036854775807] W fun e w' => e = .returned (.int .u64 (sumP l)) ∧ Below W.heap.size W w') := fun W hW => by
    have := up_any Aa n ca l 9223372036854775807 W J.out.len (by omega) (J.out.own.rd.below hW) V.pos V.sum
    rw [upV_sum V.ok] at this
    exact this
  have VE := Lib.hid fun W (hW : Below w4.heap.size w4 W) => vends_told Aa n ca l W J.out.len (by omega) (J.out.own.rd.below hW)
  have SE := Lib.hid (KT.out.2.1 b S l w4 J.out.sk J.out.lok)
  have ST := Lib.hid fun W (hW : Below w4.heap.size w4 W) => KT.out.1 b S l W (KT.out.2.2 J.out.sk (Frame.of_below (S := []) hW) fun _ _ => by simp) J.out.lok
  clear hJ b3 f3 l3 TR s1 V
  go_wp2_with fail
  refine SE.out.mono ?_
  rintro e w5 ⟨⟨lo, hi, rfl, hE⟩, hb⟩
  rw [hE.is J.out.lok]
  have HB := Lib.hid hb
  generalize eLow l = lw at *
  generalize eHigh l = hg at *
  generalize eIs l = is at *
  clear hb SE hE
  go_wp2_with fail
  refine (VE.out w5 HB.out).mono ?_
  rintro e w6 ⟨rfl, hb⟩
  replace HB := Lib.hid (keep1 HB.out hb)
  clear hb VE
  go_wp2_with fail
  refine (ST.out w6 HB.out).mono ?_
  rintro e w7 ⟨rfl, hb⟩
  replace HB := Lib.hid (keep1 HB.out hb)
  clear hb ST
  go_wp2_with fail
  refine (UP.out w7 HB.out).mono ?_
  rintro e w8 ⟨rfl, hb⟩
  have HF := Lib.hid (keep1 B4.out (keep1 HB.out hb))
  generalize sumP l = T at *
  clear hb UP HB J B4 KT
  go_wp2
  go_ret
  exact ⟨by simp, HF.out⟩
end Go.Proofs.YtlbnlmhcpephbaaGreatDoor
