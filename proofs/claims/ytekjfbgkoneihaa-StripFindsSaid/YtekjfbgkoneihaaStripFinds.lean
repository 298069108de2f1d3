/- The walk of the statement StripFinds. -/
import Derived.Test.YtekjfbgkoneihaaProg
import Derived.Test.YtekjfbgkoneihaaOpen
import Derived.Test.YtekjfbgkoneihaaAlive08
import Derived.Test.YtekjfbgkoneihaaLoops
namespace Go.Proofs.Ytekjfbgkoneihaa
open Go.RowKit

set_option maxHeartbeats 2000000 in
theorem stripFinds_walk (w : World) (most : Int) (bdmost : -9223372036854775808 ≤ most ∧ most ≤ 9223372036854775807) (Ascript : Option Addr) (cscript : Nat) (script : List (Int × Int × Int)) (rscript : Rd w Ascript (script.flatMap fun x => [.int .i64 x.1, .int .i64 x.2.1, .int .u64 x.2.2])) (bdscript : ∀ x ∈ script, (-9223372036854775808 ≤ x.1 ∧ x.1 ≤ 9223372036854775807) ∧ (-9223372036854775808 ≤ x.2.1 ∧ x.2.1 ≤ 9223372036854775807) ∧ (0 ≤ x.2.2 ∧ x.2.2 < 18446744073709551616)) (lscript : script.length ≤ 9223372036854775807) (t : Int) (bdt : 0 ≤ t ∧ t < 18446744073709551616) (index : Int) (bdindex : -9223372036854775808 ≤ index ∧ index ≤ 9223372036854775807) :
    Calls Try.prog 4 #[.int .i64 most, .slice Ascript script.length cscript, .int .u64 t, .int .i64 index] w fun e w' => e = .returned (.bool true) ∧ Below w.heap.size w w' := by
  obtain ⟨h1, h2⟩ := bdmost
  obtain ⟨h3, h4⟩ := bdt
  have HIX := Lib.hid bdindex
  have HR : Hid (RdC w Ascript script) := rscript
  have HO : Hid (okC script) := bdscript
  clear rscript bdscript bdindex
  obtain ⟨len, hlen⟩ : ∃ len, script.length = len := ⟨_, rfl⟩
  rw [hlen] at lscript ⊢
  go_enter Try.func4, Try.ntmps4
  go_wp2_with fail
  refine (alive_any _).mono ?_
  rintro e w1 ⟨rfl, hb1⟩
  by_cases hl : 100 < len
  · have hl' : (100 : Int) < len := by omega
    go_wp2
    go_ret
    exact ⟨rfl, hb1⟩
  have hl' : ¬ (100 : Int) < len := by omega
  by_cases hm1 : most < 1
  · go_wp2
    go_ret
    exact ⟨rfl, hb1⟩
  by_cases hm2 : 4096 < most
  · go_wp2
    go_ret
    exact ⟨rfl, hb1⟩
  go_wp2_with fail
  refine (snew_any most w1 (by omega) (by omega)).mono ?_
  rintro e w2 ⟨⟨b, rfl, hbe, hC⟩, hb⟩
  obtain ⟨B, hBe⟩ : ∃ B, w1.heap.size = B := ⟨_, rfl⟩
  have hT : Two B w1 w2 [b] [] (Strip w2 b [b] most []) True := by
    have hlt := hC.lt b (by simp)
    have z1 := hb.size
    subst hBe
    refine ⟨hC, trivial, fun k hk => ?_, fun k hk => by simp at hk, fun k hk hn => by simp at hn, hb, z1⟩
    rw [List.mem_singleton] at hk; subst hk; omega
  clear hC hb hbe hl hm1 hm2 h1 h2
  go_wp2
  go_loopw [12, 38] (fun _ i wr => ∃ k : Nat, ∃ S, k ≤ len ∧ i = .int .i64 k ∧ Hid (Two B w1 wr S [] (Strip wr b S most (rowsS most (script.take k))) True)) (fun _ i _ => len - (intOf i).toNat)
  case atStart => exact ⟨0, [b], by omega, rfl, hT⟩
  case round =>
    obtain ⟨k, S, hk, rfl, H⟩ := hrel
    by_cases hlt : k < len
    · obtain ⟨g, o, rfl, hg, c1, c2, c3⟩ := ((HR.out.below hb1).below (hBe ▸ H.out.below)).at k (by omega)
      obtain ⟨⟨a1, a2⟩, ⟨b1, b2⟩, b3, b4⟩ := HO.out.at k (by omega)
      have HS := Lib.hid (rowsS_take most script k (by omega))
      obtain ⟨⟨kd, x, y⟩, hx⟩ : ∃ x, script[k]'(by omega) = x := ⟨_, rfl⟩
      rw [hx] at c1 c2 c3 a1 a2 b1 b2 b3 b4 HS
      clear hx
      dsimp only at c1 c2 c3 a1 a2 b1 b2 b3 b4 HS
      have zH := H.out.size
      have HZ := fun h : Below wr.heap.size wr (wr.alloc (.cells #[.int .i64 kd, .int .i64 x, .int .u64 y] 30)) => Lib.hid (H.out.belowW h (fun k => k.below h) (fun k => k))
      replace HZ := HZ ((Below.refl _ _).alloc (Nat.le_refl _) _)
      go_wp2_with fail
      refine (sadd_any b S most _ x y _ HZ.out.x b3 b4 ⟨b1, b2⟩).mono ?_
      rintro e w4 ⟨rfl, S3, hg3, hC3, hF3⟩
      have H3 := Lib.hid (HZ.out.stepX hg3 hC3 hC3.lt hF3 trivial)
      rw [← HS.out] at H3
      clear HZ hF3 hg3 hC3 H HS
      go_wp2
      go_roundw
      case rel => exact ⟨k + 1, S3, by omega, by simp, H3⟩
      case measure => simp [intOf]; omega
    · obtain rfl : k = len := by omega
      have H1 := H.out
      rw [List.take_of_length_le (by omega)] at H1
      replace H1 := Lib.hid H1
      clear H HO hT HR
      obtain ⟨ps, hps⟩ : ∃ ps, rowsS most script = ps := ⟨_, rfl⟩
      rw [hps] at H1
      clear hps
      go_wp2_with fail
      refine (spairs_any b S most ps wr H1.out.x).mono ?_
      rintro e w5 ⟨A, cap, rfl, HA, hb⟩
      replace H1 := Lib.hid (H1.out.belowW hb (fun k => k.below hb) (fun k => k))
      replace HA := Lib.hid HA.rd
      have HOK := Lib.hid H1.out.x.ok
      have HG := Lib.hid H1.out.x.gd
      have HSM := Lib.hid H1.out.x.sum
      have HL := Lib.hid H1.out.x.len
      clear hb
      go_wp2_with fail
      refine (sfind_any b S most ps t w5 H1.out.x ⟨h3, h4⟩).mono ?_
      rintro e w6 ⟨rfl, rfl⟩
      obtain ⟨fi, hfi⟩ : ∃ fi, (findP t 0 ps).getD 0 = fi := ⟨_, rfl⟩
      obtain ⟨fb, hfb⟩ : ∃ fb, (findP t 0 ps).isSome = fb := ⟨_, rfl⟩
      have HOP : Hid (optI (findP t 0 ps) = .tuple #[.int .i64 fi, .bool fb]) := by show _ = _; unfold optI; rw [hfi, hfb]
      rw [HOP.out]
      clear hfi hfb
      go_wp2_with fail
      refine (rfind_any A ps.length cap ps t w5 rfl (by have := HL.out; omega) HA.out HOK.out ⟨h3, h4⟩).mono ?_
      rintro e w6 ⟨rfl, hb6⟩
      rw [HOP.out]
      clear HOP
      go_wp2_with fail
      have H6 := Lib.hid (H1.out.belowW hb6 (fun k => k.below hb6) (fun k => k))
      refine (sbelow_any b S most ps index w6 H6.out.x).mono ?_
      rintro e w7 ⟨rfl, hb7⟩
      go_wp2_with fail
      have hb57 := keep1 hb6 hb7
      refine (rbelow_any A ps.length cap ps index w7 rfl (by have := HL.out; omega) (HA.out.below hb57) HOK.out).mono ?_
      rintro e w8 ⟨rfl, hb8⟩
      have hu := upto_le index HG.out
      have HE : Hid (sumP (ps.filter fun x => decide (x.1 ≤ index)) % 18446744073709551616 = upto ps index) := by
        show _ = _
        rw [show sumP (ps.filter fun x => decide (x.1 ≤ index)) = upto ps index from rfl, Int.emod_eq_of_lt hu.1 (by have := HSM.out; omega)]
      rw [HE.out]
      clear HE hu
      go_wp2
      go_ret
      exact ⟨rfl, hb1.trans ((H1.out.fin (keep1 hb57 hb8)).mono (by have := hb1.size; omega))⟩
end Go.Proofs.Ytekjfbgkoneihaa

