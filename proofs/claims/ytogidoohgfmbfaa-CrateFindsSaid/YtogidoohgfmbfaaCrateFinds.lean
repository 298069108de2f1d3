/- The walk of the statement CrateFinds. -/
import Derived.Test.YtogidoohgfmbfaaProg
import Derived.Test.YtogidoohgfmbfaaOpen
import Derived.Test.YtogidoohgfmbfaaAlive07
import Derived.Test.YtogidoohgfmbfaaStep07
namespace Go.Proofs.Ytogidoohgfmbfaa
open Go.RowKit

set_option maxHeartbeats 2000000 in
theorem crateFinds_walk (w : World) (Alist : Option Addr) (clist : Nat) (list : List (Int × Int)) (rlist : Rd w Alist (list.flatMap fun x => [.int .i64 x.1, .int .u64 x.2])) (bdlist : ∀ x ∈ list, (-9223372036854775808 ≤ x.1 ∧ x.1 ≤ 9223372036854775807) ∧ (0 ≤ x.2 ∧ x.2 < 18446744073709551616)) (llist : list.length ≤ 9223372036854775807) (t : Int) (bdt : 0 ≤ t ∧ t < 18446744073709551616) (index : Int) (bdindex : -9223372036854775808 ≤ index ∧ index ≤ 9223372036854775807) :
    Calls Try.prog 5 #[.slice Alist list.length clist, .int .u64 t, .int .i64 index] w fun e w' => e = .returned (.bool true) ∧ Below w.heap.size w w' := by
  obtain ⟨h3, h4⟩ := bdt
  obtain ⟨h5, h6⟩ := bdindex
  have HR : Hid (RdP w Alist list) := rlist
  have HO : Hid (okP list) := bdlist
  clear rlist bdlist
  obtain ⟨len, hlen⟩ : ∃ len, list.length = len := ⟨_, rfl⟩
  rw [hlen] at llist ⊢
  by_cases hl : 100 < len
  · have hl' : (100 : Int) < len := by omega
    go_enter Try.func5, Try.ntmps5
    go_wp2_with fail
    refine (alive_any _).mono ?_
    rintro e w1 ⟨rfl, hb⟩
    go_wp2
    go_ret
    exact ⟨rfl, hb⟩
  have hl' : ¬ (100 : Int) < len := by omega
  go_enter Try.func5, Try.ntmps5
  go_wp2_with fail
  refine (alive_any _).mono ?_
  rintro e w1 ⟨rfl, hb1⟩
  go_wp2_with fail
  refine (cnew _).mono ?_
  rintro e w2 ⟨b, rfl, hbe, hC, hb⟩
  obtain ⟨B, hBe⟩ : ∃ B, w.heap.size = B := ⟨_, rfl⟩
  have h2 : Two B w (w2.alloc (.cells #[.slice none 0 0] 40)) [b] [w2.heap.size] (Crate (w2.alloc (.cells #[.slice none 0 0] 40)) b [b] []) (Doc (w2.alloc (.cells #[.slice none 0 0] 40)) w2.heap.size [w2.heap.size] []) := by
    have z1 := hb1.size
    have z2 := hb.size
    have hlt := hC.lt b (by simp)
    subst hBe
    refine ⟨hC.below ((Below.refl _ _).alloc (Nat.le_refl _) _), Doc.new w2, fun k hk => ?_, fun k hk => ?_, fun k hk => ?_, (keep1 hb1 hb).alloc (by omega) _, by simp; omega⟩
    · rw [List.mem_singleton] at hk; subst hk; simp; omega
    · rw [List.mem_singleton] at hk; subst hk; simp; omega
    · rw [List.mem_singleton] at hk ⊢; omega
  clear hC hb hbe
  go_wp2
  generalize w2.alloc (.cells #[.slice none 0 0] 40) = W2 at h2 ⊢
  generalize w2.heap.size = m at h2 ⊢
  rw [hBe] at hb1
  go_loopw [10, 26] (fun _ i wr => ∃ k : Nat, ∃ S T, k ≤ len ∧ i = .int .i64 k ∧ Hid (Two B w wr S T (Crate wr b S (rowsOf (list.take k))) (Doc wr m T (rowsOf (list.take k))))) (fun _ i _ => len - (intOf i).toNat)
  case atStart => exact ⟨0, [b], [m], by omega, rfl, h2⟩
  case round =>
    obtain ⟨k, S, T, hk, rfl, H⟩ := hrel
    by_cases hlt : k < len
    · obtain ⟨g, o, rfl, hg, c1, c2⟩ := (HR.out.below (hBe ▸ H.out.below)).at k (by omega)
      obtain ⟨⟨b1, b2⟩, b3, b4⟩ := HO.out.at k (by omega)
      have HS := Lib.hid (rowsOf_take list k (by omega))
      obtain ⟨⟨x, y⟩, hx⟩ : ∃ x, list[k]'(by omega) = x := ⟨_, rfl⟩
      rw [hx] at c1 c2 b1 b2 b3 b4 HS
      clear hx
      dsimp only at c1 c2 b1 b2 b3 b4 HS
      have zH := H.out.size
      have H1 : Hid (Two B w (wr.alloc (.cells #[.int .i64 x, .int .u64 y] 28)) S T (Crate (wr.alloc (.cells #[.int .i64 x, .int .u64 y] 28)) b S (rowsOf (list.take k))) (Doc (wr.alloc (.cells #[.int .i64 x, .int .u64 y] 28)) m T (rowsOf (list.take k)))) :=
        H.out.belowW ((Below.refl _ _).alloc (Nat.le_refl _) _) (fun h => h.below ((Below.refl _ _).alloc (Nat.le_refl _) _)) (fun h => h.below ((Below.refl _ _).alloc (Nat.le_refl _) _))
      have sP : At (wr.alloc (.cells #[.int .i64 x, .int .u64 y] 28)) wr.heap.size #[.int .i64 x, .int .u64 y] 28 := At.new _ _ _
      have hPS : wr.heap.size ∉ S := fun h => by have := (H.out.ws _ h).2; omega
      go_wp2_with fail
      refine (cstep _ x y H1.out.x b3 b4 b1 b2).mono ?_
      rintro e w3 ⟨rfl, S3, hg3, hC3, hF3⟩
      have H3 := Lib.hid (H1.out.stepX hg3 hC3 hC3.lt hF3 (H1.out.y.frame hF3 H1.out.ap.symm))
      have fP := (hF3.at sP hPS).two
      clear H1 hF3 hg3 sP hPS hC3
      go_wp2_with fail
      have hlen3 := H.out.x.len
      refine (dstep _ x y H3.out.y H.out.x.okP H.out.x.gd (by omega) H.out.x.sum b3 b4 b1 b2).mono ?_
      rintro e w4 ⟨rfl, T4, hg4, hD4, hF4⟩
      have H4 := Lib.hid (H3.out.stepY hg4 hD4 hD4.lt hF4 (H3.out.x.frame hF4 H3.out.ap))
      rw [← HS.out] at H4
      clear H3 hF4 hg4 hD4 fP H HS
      go_wp2
      go_roundw
      case rel => exact ⟨k + 1, S3, T4, by omega, by simp, H4⟩
      case measure => simp [intOf]; omega
    · obtain rfl : k = len := by omega
      have H1 := H.out
      rw [List.take_of_length_le (by omega)] at H1
      replace H1 := Lib.hid H1
      clear H HR HO
      obtain ⟨ps, hps⟩ : ∃ ps, rowsOf list = ps := ⟨_, rfl⟩
      rw [hps] at H1
      have hgd := Lib.hid H1.out.x.gd
      have hok := Lib.hid H1.out.x.okP
      have hsum := H1.out.x.sum
      have hln := H1.out.x.len
      go_wp2_with fail
      refine (crfind_any wr _ ps t H1.out.x.src h3 h4).mono ?_
      rintro e w5 ⟨rfl, hb⟩
      rw [findV_eq hgd.out.pos h3 h4 hsum]
      replace H1 := Lib.hid (H1.out.belowW hb (fun h => h.below hb) (fun h => h.below hb))
      clear hb
      obtain ⟨A, cap, cD, hRd⟩ := H1.out.y.at
      unfold optI
      go_wp2_with fail
      refine (rfind_any A ps.length cap ps t _ rfl (by omega) hRd hok.out ⟨h3, h4⟩).mono ?_
      rintro e w6 ⟨rfl, hb⟩
      replace H1 := Lib.hid (H1.out.belowW hb (fun h => h.below hb) (fun h => h.below hb))
      clear hb cD hRd
      unfold optI
      go_wp2_with fail
      refine (crbelow_any _ _ ps index H1.out.x.src).mono ?_
      rintro e w7 ⟨rfl, hb⟩
      replace H1 := Lib.hid (H1.out.belowW hb (fun h => h.below hb) (fun h => h.below hb))
      rw [belowC_upto hgd.out hsum]
      clear hb
      obtain ⟨A, cap, cD, hRd⟩ := H1.out.y.at
      have hu := upto_le index hgd.out
      go_wp2_with fail
      refine (rbelow_any A ps.length cap ps index _ rfl (by omega) hRd hok.out).mono ?_
      rintro e w8 ⟨rfl, hb⟩
      rw [show sumP (ps.filter fun x => decide (x.1 ≤ index)) = upto ps index from rfl, Int.emod_eq_of_lt hu.1 (by omega)]
      replace H1 := Lib.hid (H1.out.belowW hb (fun h => h.below hb) (fun h => h.below hb))
      clear hb cD hRd
      cases hf : findP t 0 ps with
      | none =>
        dsimp only [Option.getD_none, Option.isSome_none]
        go_wp2
        go_ret
        exact ⟨rfl, hBe ▸ H1.out.below⟩
      | some i =>
        dsimp only [Option.getD_some, Option.isSome_some]
        have ht : 0 < t := by
          rcases (show t = 0 ∨ 0 < t by omega) with rfl | h
          · rw [findP_zero] at hf; cases hf
          · exact h
        obtain ⟨q1, q2, x, hx, hxi⟩ := findP_some hgd.out (by omega) ht (by omega) hf
        obtain ⟨⟨i1, i2⟩, _⟩ := hok.out x hx
        rw [hxi] at i1 i2
        have hu2 := upto_le i hgd.out
        have hc0 := cnt_nonneg hgd.out.pos i
        have hcu := cnt_le_upto hgd.out.pos i
        clear hf hx hxi
        go_wp2_with fail
        refine (crbelow_any _ _ ps i H1.out.x.src).mono ?_
        rintro e w7 ⟨rfl, hb⟩
        replace H1 := Lib.hid (H1.out.belowW hb (fun h => h.below hb) (fun h => h.below hb))
        rw [belowC_upto hgd.out hsum]
        clear hb
        have hge : t ≤ upto ps i := by omega
        go_wp2_with fail
        refine (crbelow_any _ _ ps i H1.out.x.src).mono ?_
        rintro e w7 ⟨rfl, hb⟩
        replace H1 := Lib.hid (H1.out.belowW hb (fun h => h.below hb) (fun h => h.below hb))
        rw [belowC_upto hgd.out hsum]
        clear hb
        go_wp2_with fail
        refine (cat _ i H1.out.x i1 i2).mono ?_
        rintro e w8 ⟨rfl, hb⟩
        have hfin := hBe ▸ H1.out.fin hb
        have hw : IntKind.u64.wrap (upto ps i - cnt ps i) = upto ps i - cnt ps i := by simp only [IntKind.wrap_u64]; omega
        have hlt2 : upto ps i - cnt ps i < t := by omega
        go_wp2
        go_ret
        exact ⟨by simp, hfin⟩
end Go.Proofs.Ytogidoohgfmbfaa

