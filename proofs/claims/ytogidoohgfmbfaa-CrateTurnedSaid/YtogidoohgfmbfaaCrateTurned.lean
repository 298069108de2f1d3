/- The walk of the statement CrateTurned. -/
import Derived.Test.YtogidoohgfmbfaaProg
import Derived.Test.YtogidoohgfmbfaaOpen
import Derived.Test.YtogidoohgfmbfaaAlive07
import Derived.Test.YtogidoohgfmbfaaTurn
namespace Go.Proofs.Ytogidoohgfmbfaa
open Go.RowKit

set_option maxHeartbeats 2000000 in
theorem crateTurned_walk (w : World) (Alist : Option Addr) (clist : Nat) (list : List (Int × Int)) (rlist : Rd w Alist (list.flatMap fun x => [.int .i64 x.1, .int .u64 x.2])) (bdlist : ∀ x ∈ list, (-9223372036854775808 ≤ x.1 ∧ x.1 ≤ 9223372036854775807) ∧ (0 ≤ x.2 ∧ x.2 < 18446744073709551616)) (llist : list.length ≤ 9223372036854775807) (at_ : Int) (bdat_ : -9223372036854775808 ≤ at_ ∧ at_ ≤ 9223372036854775807) :
    Calls Try.prog 3 #[.slice Alist list.length clist, .int .i64 at_] w fun e w' => e = .returned (.bool true) ∧ Below w.heap.size w w' := by
  obtain ⟨h3, h4⟩ := bdat_
  have HR : Hid (RdP w Alist list) := rlist
  have HO : Hid (okP list) := bdlist
  clear rlist bdlist
  obtain ⟨len, hlen⟩ : ∃ len, list.length = len := ⟨_, rfl⟩
  rw [hlen] at llist ⊢
  by_cases hl : 100 < len
  · have hl' : (100 : Int) < len := by omega
    go_enter Try.func3, Try.ntmps3
    go_wp2_with fail
    refine (alive_any _).mono ?_
    rintro e w1 ⟨rfl, hb⟩
    go_wp2
    go_ret
    exact ⟨rfl, hb⟩
  have hl' : ¬ (100 : Int) < len := by omega
  by_cases hat0 : at_ < 0
  · go_enter Try.func3, Try.ntmps3
    go_wp2_with fail
    refine (alive_any _).mono ?_
    rintro e w1 ⟨rfl, hb⟩
    go_wp2
    go_ret
    exact ⟨rfl, hb⟩
  by_cases hat1 : (len : Int) < at_
  · go_enter Try.func3, Try.ntmps3
    go_wp2_with fail
    refine (alive_any _).mono ?_
    rintro e w1 ⟨rfl, hb⟩
    go_wp2
    go_ret
    exact ⟨rfl, hb⟩
  obtain ⟨at', rfl⟩ : ∃ n : Nat, at_ = n := ⟨at_.toNat, by omega⟩
  have hat2 : at' ≤ len := by omega
  clear hat0 h3 h4
  go_enter Try.func3, Try.ntmps3
  go_wp2_with fail
  refine (alive_any _).mono ?_
  rintro e w1 ⟨rfl, hb1⟩
  go_wp2_with fail
  refine (cnew _).mono ?_
  rintro e w2 ⟨b, rfl, hbe, hC, hb⟩
  have hb2 := keep1 hb1 hb
  have z2 : w.heap.size ≤ b := by rw [hbe]; exact hb1.size
  clear hbe
  go_wp2_with fail
  refine (cnew _).mono ?_
  rintro e w3 ⟨d, rfl, hde, hD, hb3⟩
  obtain ⟨B, hBe⟩ : ∃ B, w.heap.size = B := ⟨_, rfl⟩
  have h2 : Two B w w3 [b] [d] (Crate w3 b [b] []) (Crate w3 d [d] []) := by
    have hlt := hC.lt b (by simp)
    have hlt2 := hD.lt d (by simp)
    have z3 := hb3.size
    have z4 := hb2.size
    subst hBe
    refine ⟨hC.below hb3, hD, fun k hk => ?_, fun k hk => ?_, fun k hk => ?_, keep1 hb2 hb3, by omega⟩
    · rw [List.mem_singleton] at hk; subst hk; omega
    · rw [List.mem_singleton] at hk; subst hk; omega
    · rw [List.mem_singleton] at hk ⊢; omega
  clear hC hD hb hb1 hb2 hb3 hde z2
  go_wp2
  go_loopw [8, 30] (fun _ i wr => ∃ k : Nat, ∃ S, ∃ ps, k ≤ len ∧ i = .int .i64 k ∧ Hid (Two B w wr S [d] (Crate wr b S ps) (Crate wr d [d] [])) ∧ Hid (Holds ps (list.take k))) (fun _ i _ => len - (intOf i).toNat)
  case atStart => exact ⟨0, [b], [], by omega, rfl, h2, Holds.nil⟩
  case round =>
    obtain ⟨k, S, ps, hk, rfl, H, HH⟩ := hrel
    by_cases hlt : k < len
    · obtain ⟨g, o, rfl, hg, c1, c2⟩ := (HR.out.below (hBe ▸ H.out.below)).at k (by omega)
      obtain ⟨⟨b1, b2⟩, b3, b4⟩ := HO.out.at k (by omega)
      have HS := Lib.hid (List.take_succ_eq_append_getElem (show k < list.length by omega))
      obtain ⟨⟨x, y⟩, hx⟩ : ∃ x, list[k]'(by omega) = x := ⟨_, rfl⟩
      rw [hx] at c1 c2 b1 b2 b3 b4 HS
      clear hx
      dsimp only at c1 c2 b1 b2 b3 b4
      have zH := H.out.size
      have HZ := fun h : Below wr.heap.size wr (wr.alloc (.cells #[.int .i64 x, .int .u64 y] 28)) => Lib.hid (H.out.belowW h (fun k => k.below h) (fun k => k.below h))
      replace HZ := HZ ((Below.refl _ _).alloc (Nat.le_refl _) _)
      by_cases h0 : y = 0
      · subst h0
        have HH2 := Lib.hid (HH.out.zero x)
        rw [← HS.out] at HH2
        go_wp2
        go_roundw
        case rel => exact ⟨k + 1, S, ps, by omega, by simp, HZ, HH2⟩
        case measure => simp [intOf]; omega
      · have h0' : 0 < y := by omega
        go_wp2_with fail
        refine (cstep _ x y HZ.out.x b3 b4 b1 b2).mono ?_
        rintro e w4 ⟨rfl, S3, hg3, hC3, hF3⟩
        have H3 := Lib.hid (HZ.out.stepX hg3 hC3 hC3.lt hF3 (HZ.out.y.frame hF3 HZ.out.ap.symm))
        by_cases hr : rowRoom ps x y
        · rw [rowCode_room h0' hr]
          rw [rowStep_room h0' hr] at H3
          have HH2 := Lib.hid (HH.out.add h0' hr)
          rw [← HS.out] at HH2
          clear HZ hF3 hg3 hC3 H HH hr
          go_wp2
          go_roundw
          case rel => exact ⟨k + 1, S3, rowAdd ps x y, by omega, by simp, H3, HH2⟩
          case measure => simp [intOf]; omega
        · rw [rowCode_full h0' hr]
          clear hr
          go_wp2
          go_ret
          exact ⟨rfl, hBe ▸ H3.out.below⟩
    · obtain rfl : k = len := by omega
      have HH1 := HH.out
      rw [List.take_of_length_le (by omega)] at HH1
      replace HH1 := Lib.hid HH1
      clear HH
      have Hn := Lib.hid H.out.x.near
      have Hs := Lib.hid H.out.x.sum
      go_wp2
      go_loopw [9, 10, 49] (fun _ _ i wr' => ∃ k' : Nat, ∃ T, ∃ qs, k' ≤ k ∧ i = .int .i64 k' ∧ Hid (Two B w wr' S T (Crate wr' b S ps) (Crate wr' d T qs)) ∧ Hid (Holds qs ((turned list at').take k'))) (fun _ _ i _ => k - (intOf i).toNat)
      case atStart => exact ⟨0, [d], [], by omega, rfl, H, Holds.nil⟩
      case round =>
        obtain ⟨k', T, qs, hk', rfl, H2, HH2⟩ := hrel
        by_cases hlt2 : k' < k
        · obtain ⟨j, hj⟩ : ∃ j : Nat, j = if k' < at' then at' - 1 - k' else k - 1 - k' + at' := ⟨_, rfl⟩
          have hjk : j < k := by rw [hj]; split <;> omega
          have ht0 := turned_at (l := list) (a := at') (k := k') (j := j) (by omega) (by omega) (by rw [hlen]; exact hj)
          rw [List.getElem?_eq_getElem (show j < list.length by omega)] at ht0
          obtain ⟨ht1, ht2⟩ := List.getElem?_eq_some_iff.1 ht0
          obtain ⟨g, o, rfl, hg, c1, c2⟩ := (HR.out.below (hBe ▸ H2.out.below)).at j (by omega)
          obtain ⟨⟨b1, b2⟩, b3, b4⟩ := HO.out.at j (by omega)
          have HS := Lib.hid (List.take_succ_eq_append_getElem ht1)
          obtain ⟨⟨x, y⟩, hx⟩ : ∃ x, list[j]'(by omega) = x := ⟨_, rfl⟩
          rw [ht2, hx] at HS
          rw [hx] at c1 c2 b1 b2 b3 b4 ht2
          have HT2 := Lib.hid ht2
          clear hx ht2 ht0
          dsimp only at c1 c2 b1 b2 b3 b4
          have w1 : IntKind.i64.wrap ((k : Int) - 1) = k - 1 := by simp only [IntKind.wrap_i64]; omega
          have w2 : IntKind.i64.wrap ((k : Int) - 1 - k') = k - 1 - k' := by simp only [IntKind.wrap_i64]; omega
          have w3 : IntKind.i64.wrap ((k : Int) - 1 - k' + at') = k - 1 - k' + at' := by simp only [IntKind.wrap_i64]; omega
          have w4 : ((k : Int) - 1 - k' + at').tmod k = j := by
            rw [Int.tmod_eq_emod_of_nonneg (by omega)]
            by_cases h : k' < at'
            · rw [if_pos h] at hj
              rw [show (k : Int) - 1 - k' + at' = (at' - 1 - k') + k by omega, Int.add_emod_right, Int.emod_eq_of_lt (by omega) (by omega)]
              omega
            · rw [if_neg h] at hj
              rw [Int.emod_eq_of_lt (by omega) (by omega)]
              omega
          have w5 : ((k : Int) == 0) = false := beq_eq_false_iff_ne.2 (by omega)
          have w6 : ¬ ((k : Int) = 0) := by omega
          have w7 : (0 : Int) ≤ j := by omega
          have w8 : (j : Int) < k := by omega
          have w9 : IntKind.i64.wrap (j : Int) = j := by simp only [IntKind.wrap_i64]; omega
          have zH := H2.out.size
          have HZ := fun h : Below wr.heap.size wr (wr.alloc (.cells #[.int .i64 x, .int .u64 y] 28)) => Lib.hid (H2.out.belowW h (fun k => k.below h) (fun k => k.below h))
          replace HZ := HZ ((Below.refl _ _).alloc (Nat.le_refl _) _)
          clear hj
          by_cases h0 : y = 0
          · subst h0
            have HH3 := Lib.hid (HH2.out.zero x)
            rw [← HS.out] at HH3
            go_wp2
            go_roundw
            case rel => exact ⟨k' + 1, T, qs, by omega, by simp, HZ, HH3⟩
            case measure => simp [intOf]; omega
          · have h0' : 0 < y := by omega
            have hroom := HH1.out.room Hn.out Hs.out (okP_turned HO.out at') (cnt_turned list at') (sumP_turned list at') HH2.out ht1 HT2.out h0'
            have HH3 := Lib.hid (HH2.out.add h0' hroom)
            rw [← HS.out] at HH3
            have HC := Lib.hid (rowCode_room h0' hroom)
            have HT := Lib.hid (rowStep_room h0' hroom)
            clear hroom
            go_wp2_with fail
            refine (cstep _ x y HZ.out.y b3 b4 b1 b2).mono ?_
            rintro e w4 ⟨rfl, T3, hg3, hC3, hF3⟩
            have H3 := Lib.hid (HZ.out.stepY hg3 hC3 hC3.lt hF3 (HZ.out.x.frame hF3 HZ.out.ap))
            rw [HC.out]
            rw [HT.out] at H3
            clear HZ hF3 hg3 hC3 H2 HH2 HC HT
            go_wp2
            go_roundw
            case rel => exact ⟨k' + 1, T3, rowAdd qs x y, by omega, by simp, H3, HH3⟩
            case measure => simp [intOf]; omega
        · obtain rfl : k' = k := by omega
          have HH3 := HH2.out
          rw [List.take_of_length_le (by rw [turned_length]; omega)] at HH3
          have heq : ps = qs := Gd.ext HH1.out.gd HH3.gd fun i => by rw [HH1.out.cnt, HH3.cnt, cnt_turned]
          subst heq
          clear HH2 HH3 HH1 H
          have hln := H2.out.x.len
          go_wp2_with fail
          refine (crpairs_any _ _ ps H2.out.x.src (by omega)).mono ?_
          rintro e w5 ⟨A1, cap1, rfl, HA1, hb⟩
          replace H2 := Lib.hid (H2.out.belowW hb (fun k => k.below hb) (fun k => k.below hb))
          clear hb
          go_wp2_with fail
          refine (crpairs_any _ _ ps H2.out.y.src (by omega)).mono ?_
          rintro e w6 ⟨A2, cap2, rfl, HA2, hb⟩
          replace H2 := Lib.hid (H2.out.belowW hb (fun k => k.below hb) (fun k => k.below hb))
          replace HA1 := Lib.hid (HA1.below hb).rd
          replace HA2 := Lib.hid HA2.rd
          clear hb
          go_wp2_with fail
          refine (same_any A1 A2 ps.length cap1 ps.length cap2 ps ps _ rfl rfl (by omega) (by omega) HA1.out HA2.out).mono ?_
          rintro e w7 ⟨rfl, hb⟩
          rw [decide_eq_true rfl]
          replace H2 := Lib.hid (H2.out.belowW hb (fun k => k.below hb) (fun k => k.below hb))
          clear hb HA1 HA2
          go_wp2_with fail
          refine (ctotal _ H2.out.x).mono ?_
          rintro e w8 ⟨rfl, rfl⟩
          go_wp2_with fail
          refine (ctotal _ H2.out.y).mono ?_
          rintro e w9 ⟨rfl, rfl⟩
          go_wp2
          go_ret
          exact ⟨by simp, hBe ▸ H2.out.below⟩
end Go.Proofs.Ytogidoohgfmbfaa

