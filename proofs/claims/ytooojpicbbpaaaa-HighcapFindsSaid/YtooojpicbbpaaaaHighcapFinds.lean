/- The walk of the statement HighcapFinds. -/
import Derived.Test.YtooojpicbbpaaaaProg
import Derived.Test.YtooojpicbbpaaaaOpen
import Derived.Test.YtooojpicbbpaaaaBuild10
import Derived.Test.YtooojpicbbpaaaaFindHigh
namespace Go.Proofs.Ytooojpicbbpaaaa
open Go.RowKit

set_option maxHeartbeats 2000000 in
theorem highcapFinds_walk (w : World) (most : Int) (bdmost : -9223372036854775808 ≤ most ∧ most ≤ 9223372036854775807) (Alist : Option Addr) (clist : Nat) (list : List (Int × Int)) (rlist : Rd w Alist (list.flatMap fun x => [.int .i64 x.1, .int .u64 x.2])) (bdlist : ∀ x ∈ list, (-9223372036854775808 ≤ x.1 ∧ x.1 ≤ 9223372036854775807) ∧ (0 ≤ x.2 ∧ x.2 < 18446744073709551616)) (llist : list.length ≤ 9223372036854775807) (t : Int) (bdt : 0 ≤ t ∧ t < 18446744073709551616) (index : Int) (bdindex : -9223372036854775808 ≤ index ∧ index ≤ 9223372036854775807) :
    Calls Try.prog 6 #[.int .i64 most, .slice Alist list.length clist, .int .u64 t, .int .i64 index] w fun e w' => e = .returned (.bool true) ∧ Below w.heap.size w w' := by
  have HM := Lib.hid bdmost
  have HR : Hid (RdP w Alist list) := rlist
  have HO : Hid (okP list) := bdlist
  clear rlist bdlist bdmost
  obtain ⟨len, hlen⟩ : ∃ len, list.length = len := ⟨_, rfl⟩
  have HLN := Lib.hid hlen
  rw [hlen] at llist ⊢
  clear hlen
  have HT := Lib.hid bdt
  have HIX := Lib.hid bdindex
  clear bdt bdindex
  go_enter Try.func6, Try.ntmps6
  go_wp2_with fail
  refine (alive_any _).mono ?_
  rintro e w1 ⟨rfl, hb1⟩
  go_wp2_with fail
  refine (great_any Alist len clist list most w1 HLN.out llist (HR.out.below hb1) HO.out).mono ?_
  rintro e w2 ⟨⟨bv, rfl, hbv⟩, hb⟩
  have hb2 := keep1 hb1 hb
  clear hb1 hb
  cases bv with
  | true =>
    clear hbv
    go_wp2
    go_ret
    exact ⟨rfl, hb2⟩
  | false =>
    have HSG : Hid (SmallG most list) := says_small hbv
    have HSM := Lib.hid HSG.out.s
    clear HSG
    clear hbv
    go_wp2_with fail
    refine (build_any Alist len clist list most w2 HLN.out (HR.out.below hb2) HO.out HSM.out).mono ?_
    rintro e w3 ⟨b, m, S, T, rfl, hB⟩
    have H := Lib.hid hB
    have HB2 := Lib.hid hb2
    have z2 := hb2.size
    clear hB hb2
    have HALL := Lib.hid (HSM.out.all)
    have HOK := Lib.hid (allOf_ok HO.out)
    have HLEN : Hid ((allOf list).length ≤ 1048576) := Nat.le_trans HSM.out.len (by omega)
    have HSUM := Lib.hid HSM.out.sum
    have HE1 : Hid (lowFind (sumP list - sumP (keptP sd most (allOf list))) (keptP sd most (allOf list)) t = docFind most (allOf list) t) := by
      have := lowFind_doc (most := most) HALL.out.1 (by rw [HALL.out.2.1]; have := HSUM.out; omega) HT.out.1
      rw [HALL.out.2.1] at this
      exact this
    have HE2 := lowBelow_doc (most := most) (q := index) HALL.out.1 HSM.out.m.1
    rw [HALL.out.2.1] at HE2
    replace HE2 := Lib.hid HE2
    have HN0 := Lib.hid (upto_le index HALL.out.1)
    go_wp2_with fail
    refine (lfind_any b S most _ t _ w3 (Two.x H.out) HT.out).mono ?_
    rintro e w4 ⟨rfl, hb4⟩
    rw [HE1.out]
    have H4 := Lib.hid (Both.abide H.out hb4)
    obtain ⟨fi, hfi⟩ : ∃ fi, (docFind most (allOf list) t).getD 0 = fi := ⟨_, rfl⟩
    obtain ⟨fb, hfb⟩ : ∃ fb, (docFind most (allOf list) t).isSome = fb := ⟨_, rfl⟩
    have HOP : Hid (optI (docFind most (allOf list) t) = .tuple #[.int .i64 fi, .bool fb]) := by show _ = _; unfold optI; rw [hfi, hfb]
    rw [HOP.out]
    have HNIL : Hid (len = 0 → fi = 0 ∧ fb = false) := fun h => by
      have e0 : list = [] := List.eq_nil_of_length_eq_zero (by rw [HLN.out]; exact h)
      rw [e0] at hfi hfb
      exact ⟨hfi.symm, hfb.symm⟩
    clear hb4 hfi hfb H
    obtain ⟨A2, cap2, d4, hrd, _⟩ := docL_at (Two.y H4.out)
    have HRD := Lib.hid hrd
    clear hrd
    obtain ⟨n, hn⟩ : ∃ n, (allOf list).length = n := ⟨_, rfl⟩
    have HNN := Lib.hid hn
    rw [hn] at d4
    clear hn
    obtain ⟨lo, hi, hlb⟩ : ∃ lo hi, lowBelow most (sumP list - sumP (keptP sd most (allOf list))) (keptP sd most (allOf list)) index = (lo, hi) := ⟨_, _, rfl⟩
    have HLB : Hid (lo ≤ upto (allOf list) index ∧ upto (allOf list) index ≤ hi ∧ (lo = hi ∨ 0 < sumP list - sumP (keptP sd most (allOf list)))) := by
      have := HE2.out
      rw [hlb] at this
      exact this
    have HLBE := Lib.hid hlb
    clear hlb
    by_cases h0 : 0 < len
    · have h0' : (0 : Int) < len := by omega
      go_wp2_with fail
      refine (dlfind_any m T most t (allOf list) w4 (Two.y H4.out) HLEN.out HALL.out.1 HOK.out HSM.out.m HT.out).mono ?_
      rintro e w5 ⟨rfl, hb5⟩
      rw [HOP.out]
      have H5 := Lib.hid (Both.abide H4.out hb5)
      replace d4 := d4.below hb5
      replace HRD := Lib.hid (HRD.out.below hb5)
      clear hb5 H4
      have HBE := Lib.hid (lbelow_any b S most _ index _ w5 (Two.x H5.out) HIX.out)
      rw [HLBE.out] at HBE
      go_wp2_with fail
      refine HBE.out.mono ?_
      rintro e w6 ⟨rfl, hb6⟩
      have H6 := Lib.hid (Both.abide H5.out hb6)
      replace d4 := d4.below hb6
      replace HRD := Lib.hid (HRD.out.below hb6)
      clear hb6 H5 HBE
      have f6 := d4.two
      have l6 := d4.lt
      go_wp2_with fail
      refine (rbelow_any A2 n cap2 (allOf list) index w6 HNN.out (by have := HLEN.out; have := HNN.out; omega) HRD.out HOK.out).mono ?_
      rintro e w7 ⟨rfl, hb7⟩
      rw [show sumP ((allOf list).filter fun x => decide (x.1 ≤ index)) = upto (allOf list) index from rfl, Int.emod_eq_of_lt HN0.out.1 (by have h1 := HN0.out.2; rw [HALL.out.2.1] at h1; have := HSUM.out; omega)]
      obtain ⟨u, hu⟩ : ∃ u, upto (allOf list) index = u := ⟨_, rfl⟩
      have n1 : ¬ u < lo := by have := HLB.out.1; rw [hu] at this; omega
      have n2 : ¬ hi < u := by have := HLB.out.2.1; rw [hu] at this; omega
      have HC := Lib.hid HLB.out.2.2
      rw [hu]
      clear hu
      have H7 := Lib.hid (Both.abide H6.out hb7)
      replace d4 := d4.below hb7
      replace HRD := Lib.hid (HRD.out.below hb7)
      clear hb7 H6 f6 l6
      have f7 := d4.two
      have l7 := d4.lt
      have HFD := Lib.hid (rfind_any A2 n cap2 (allOf list) 1 w7 HNN.out (by have := HLEN.out; have := HNN.out; omega) HRD.out HOK.out (by omega))
      obtain ⟨gi, hgi⟩ : ∃ gi, (findP 1 0 (allOf list)).getD 0 = gi := ⟨_, rfl⟩
      obtain ⟨gb, hgb⟩ : ∃ gb, (findP 1 0 (allOf list)).isSome = gb := ⟨_, rfl⟩
      have HGB : Hid (allOf list ≠ [] → gb = true) := fun h => by
        rw [← hgb]
        exact find_one HALL.out.1 (by rw [HALL.out.2.1]; have := HSUM.out; omega) h
      rw [show optI (findP 1 0 (allOf list)) = .tuple #[.int .i64 gi, .bool gb] by unfold optI; rw [hgi, hgb]] at HFD
      clear hgi hgb
      by_cases heq : lo = hi
      · subst heq
        clear HC
        go_wp2_with fail
        refine HFD.out.mono ?_
        rintro e w8 ⟨rfl, hb8⟩
        go_wp2
        go_ret
        exact ⟨rfl, HB2.out.trans ((Two.fin H7.out hb8).mono (by omega))⟩
      · have hl0 : 0 < sumP list - sumP (keptP sd most (allOf list)) := by
          rcases HC.out with h | h
          · exact absurd h heq
          · exact h
        have heq' : (lo == hi) = false := beq_eq_false_iff_ne.2 heq
        have hgb : gb = true := HGB.out fun e => by
          have h1 := HALL.out.2.1
          have h2 := hl0
          rw [e, sumP_nil] at h1
          rw [e, kept_nil, sumP_nil] at h2
          omega
        subst hgb
        have HL0 := Lib.hid hl0
        clear heq HC hl0
        go_wp2_with fail
        refine HFD.out.mono ?_
        rintro e w8 ⟨rfl, hb8⟩
        have H8 := Lib.hid (Both.abide H7.out hb8)
        clear hb8
        go_wp2_with fail
        refine (dllost_any m T most (allOf list) w8 (Two.y H8.out) HLEN.out HALL.out.1 HOK.out (by rw [HALL.out.2.1]; have := HSUM.out; omega) HSM.out.m).mono ?_
        rintro e w9 ⟨rfl, hb9⟩
        rw [HALL.out.2.1]
        have hl0 := HL0.out
        generalize sumP list - sumP (keptP sd most (allOf list)) = lv at hl0 ⊢
        go_wp2
        go_ret
        exact ⟨rfl, HB2.out.trans ((Two.fin H8.out hb9).mono (by omega))⟩
    · obtain ⟨rfl, rfl⟩ := HNIL.out (by omega)
      obtain ⟨w5, hw5⟩ : ∃ w5, w4 = w5 := ⟨_, rfl⟩
      subst hw5
      have H5 := H4
      have h0' : ¬ (0 : Int) < len := by omega
      clear H4
      have HBE := Lib.hid (lbelow_any b S most _ index _ w4 (Two.x H5.out) HIX.out)
      rw [HLBE.out] at HBE
      go_wp2_with fail
      refine HBE.out.mono ?_
      rintro e w6 ⟨rfl, hb6⟩
      have H6 := Lib.hid (Both.abide H5.out hb6)
      replace d4 := d4.below hb6
      replace HRD := Lib.hid (HRD.out.below hb6)
      clear hb6 H5 HBE
      have f6 := d4.two
      have l6 := d4.lt
      go_wp2_with fail
      refine (rbelow_any A2 n cap2 (allOf list) index w6 HNN.out (by have := HLEN.out; have := HNN.out; omega) HRD.out HOK.out).mono ?_
      rintro e w7 ⟨rfl, hb7⟩
      rw [show sumP ((allOf list).filter fun x => decide (x.1 ≤ index)) = upto (allOf list) index from rfl, Int.emod_eq_of_lt HN0.out.1 (by have h1 := HN0.out.2; rw [HALL.out.2.1] at h1; have := HSUM.out; omega)]
      obtain ⟨u, hu⟩ : ∃ u, upto (allOf list) index = u := ⟨_, rfl⟩
      have n1 : ¬ u < lo := by have := HLB.out.1; rw [hu] at this; omega
      have n2 : ¬ hi < u := by have := HLB.out.2.1; rw [hu] at this; omega
      have HC := Lib.hid HLB.out.2.2
      rw [hu]
      clear hu
      have H7 := Lib.hid (Both.abide H6.out hb7)
      replace d4 := d4.below hb7
      replace HRD := Lib.hid (HRD.out.below hb7)
      clear hb7 H6 f6 l6
      have f7 := d4.two
      have l7 := d4.lt
      have HFD := Lib.hid (rfind_any A2 n cap2 (allOf list) 1 w7 HNN.out (by have := HLEN.out; have := HNN.out; omega) HRD.out HOK.out (by omega))
      obtain ⟨gi, hgi⟩ : ∃ gi, (findP 1 0 (allOf list)).getD 0 = gi := ⟨_, rfl⟩
      obtain ⟨gb, hgb⟩ : ∃ gb, (findP 1 0 (allOf list)).isSome = gb := ⟨_, rfl⟩
      have HGB : Hid (allOf list ≠ [] → gb = true) := fun h => by
        rw [← hgb]
        exact find_one HALL.out.1 (by rw [HALL.out.2.1]; have := HSUM.out; omega) h
      rw [show optI (findP 1 0 (allOf list)) = .tuple #[.int .i64 gi, .bool gb] by unfold optI; rw [hgi, hgb]] at HFD
      clear hgi hgb
      by_cases heq : lo = hi
      · subst heq
        clear HC
        go_wp2_with fail
        refine HFD.out.mono ?_
        rintro e w8 ⟨rfl, hb8⟩
        go_wp2
        go_ret
        exact ⟨rfl, HB2.out.trans ((Two.fin H7.out hb8).mono (by omega))⟩
      · have hl0 : 0 < sumP list - sumP (keptP sd most (allOf list)) := by
          rcases HC.out with h | h
          · exact absurd h heq
          · exact h
        have heq' : (lo == hi) = false := beq_eq_false_iff_ne.2 heq
        have hgb : gb = true := HGB.out fun e => by
          have h1 := HALL.out.2.1
          have h2 := hl0
          rw [e, sumP_nil] at h1
          rw [e, kept_nil, sumP_nil] at h2
          omega
        subst hgb
        have HL0 := Lib.hid hl0
        clear heq HC hl0
        go_wp2_with fail
        refine HFD.out.mono ?_
        rintro e w8 ⟨rfl, hb8⟩
        have H8 := Lib.hid (Both.abide H7.out hb8)
        clear hb8
        go_wp2_with fail
        refine (dllost_any m T most (allOf list) w8 (Two.y H8.out) HLEN.out HALL.out.1 HOK.out (by rw [HALL.out.2.1]; have := HSUM.out; omega) HSM.out.m).mono ?_
        rintro e w9 ⟨rfl, hb9⟩
        rw [HALL.out.2.1]
        have hl0 := HL0.out
        generalize sumP list - sumP (keptP sd most (allOf list)) = lv at hl0 ⊢
        go_wp2
        go_ret
        exact ⟨rfl, HB2.out.trans ((Two.fin H8.out hb9).mono (by omega))⟩
end Go.Proofs.Ytooojpicbbpaaaa

