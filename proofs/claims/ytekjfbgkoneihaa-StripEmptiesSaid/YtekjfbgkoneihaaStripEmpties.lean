/- The walk of the statement StripEmpties. -/
import Derived.Test.YtekjfbgkoneihaaProg
import Derived.Test.YtekjfbgkoneihaaOpen
import Derived.Test.YtekjfbgkoneihaaAlive08
import Derived.Test.YtekjfbgkoneihaaLoops
namespace Go.Proofs.Ytekjfbgkoneihaa
open Go.RowKit

theorem outF_zero (ps : List (Int × Int)) : outF ps 0 = ps.drop 1 := by unfold outF; simp
theorem Two.withY {B : Nat} {w wr w' : World} {S : List Nat} {b c : Nat} {most : Int} {ps : List (Int × Int)} {A : Option Addr} (h : Two B w wr S [] (Strip wr b S most ps) True) (ho : Own2 wr.heap.size w' A c ps) (hb : Below wr.heap.size wr w') :
    Two B w w' S (blk A) (Strip w' b S most (ps.drop 0)) (RdP w' A ps) := by
  have hA : ∀ k ∈ blk A, wr.heap.size ≤ k ∧ k < w'.heap.size := fun k hk => by
    cases A with
    | none => simp [blk] at hk
    | some a => simp only [blk, List.mem_singleton] at hk; subst hk; exact ho.base_le a rfl
  have := h.belowW hb (fun k => k.below hb) (fun k => k)
  exact ⟨this.x, ho.rd, this.ws, fun k hk => ⟨Nat.le_trans h.size (hA k hk).1, (hA k hk).2⟩, fun k hk hm => by have := (h.ws k hk).2; have := (hA k hm).1; omega, this.below, this.size⟩
theorem sfirst_drop (b : Nat) (S : List Nat) (most : Int) (ps : List (Int × Int)) (k : Nat) (w : World) (h : Strip w b S most (ps.drop k)) (hk : k < ps.length) :
    Calls Try.prog 17 #[.pointer (some ⟨b, 0, none⟩)] w fun e w' =>
      e = .returned (.tuple #[.agg #[.int .i64 (ps[k]'hk).1, .int .u64 (ps[k]'hk).2], .bool true]) ∧ Strip w' b S most (ps.drop (k + 1)) ∧ Frame S w w' := by
  refine (sfirst_any b S most _ w h).mono ?_
  rintro e w' ⟨rfl, hS, hF⟩
  have hl : (ps.drop k).length ≠ 0 := by rw [List.length_drop]; omega
  rw [if_neg hl, outF_zero, List.drop_drop] at hS
  refine ⟨?_, hS, hF⟩
  unfold outV
  rw [if_neg hl, List.getD_eq_getElem?_getD, List.getElem?_drop, Nat.add_zero, List.getElem?_eq_getElem hk]
  rfl
theorem sfirst_none (b : Nat) (S : List Nat) (most : Int) (w : World) (h : Strip w b S most []) :
    Calls Try.prog 17 #[.pointer (some ⟨b, 0, none⟩)] w fun e w' =>
      e = .returned (.tuple #[.agg #[.int .i64 0, .int .u64 0], .bool false]) ∧ Strip w' b S most [] ∧ Frame S w w' := by
  refine (sfirst_any b S most _ w h).mono ?_
  rintro e w' ⟨rfl, hS, hF⟩
  exact ⟨rfl, hS, hF⟩

set_option maxHeartbeats 2000000 in
theorem stripEmpties_walk (w : World) (most : Int) (bdmost : -9223372036854775808 ≤ most ∧ most ≤ 9223372036854775807) (Ascript : Option Addr) (cscript : Nat) (script : List (Int × Int × Int)) (rscript : Rd w Ascript (script.flatMap fun x => [.int .i64 x.1, .int .i64 x.2.1, .int .u64 x.2.2])) (bdscript : ∀ x ∈ script, (-9223372036854775808 ≤ x.1 ∧ x.1 ≤ 9223372036854775807) ∧ (-9223372036854775808 ≤ x.2.1 ∧ x.2.1 ≤ 9223372036854775807) ∧ (0 ≤ x.2.2 ∧ x.2.2 < 18446744073709551616)) (lscript : script.length ≤ 9223372036854775807) :
    Calls Try.prog 5 #[.int .i64 most, .slice Ascript script.length cscript] w fun e w' => e = .returned (.bool true) ∧ Below w.heap.size w w' := by
  obtain ⟨h1, h2⟩ := bdmost
  have HR : Hid (RdC w Ascript script) := rscript
  have HO : Hid (okC script) := bdscript
  clear rscript bdscript
  obtain ⟨len, hlen⟩ : ∃ len, script.length = len := ⟨_, rfl⟩
  rw [hlen] at lscript ⊢
  go_enter Try.func5, Try.ntmps5
  go_wp2_with fail
  refine (alive_any _).mono ?_
  rintro e w1 ⟨rfl, hb1⟩
  by_cases hl : 100 < len
  · have hl' : (100 : Int) < len := by omega
    go_wp2
    go_ret
    exact ⟨rfl, hb1⟩
  have hl' : ¬ (100 : Int) < len := by omega
  by_cases hm1 : most < 1
  · go_wp2
    go_ret
    exact ⟨rfl, hb1⟩
  by_cases hm2 : 4096 < most
  · go_wp2
    go_ret
    exact ⟨rfl, hb1⟩
  go_wp2_with fail
  refine (snew_any most w1 (by omega) (by omega)).mono ?_
  rintro e w2 ⟨⟨b, rfl, hbe, hC⟩, hb⟩
  obtain ⟨B, hBe⟩ : ∃ B, w1.heap.size = B := ⟨_, rfl⟩
  have hT : Two B w1 w2 [b] [] (Strip w2 b [b] most []) True := by
    have hlt := hC.lt b (by simp)
    have z1 := hb.size
    subst hBe
    refine ⟨hC, trivial, fun k hk => ?_, fun k hk => by simp at hk, fun k hk hn => by simp at hn, hb, z1⟩
    rw [List.mem_singleton] at hk; subst hk; omega
  clear hC hb hbe hl hm1 hm2 h1 h2
  go_wp2
  go_loopw [8, 35] (fun _ i wr => ∃ k : Nat, ∃ S, k ≤ len ∧ i = .int .i64 k ∧ Hid (Two B w1 wr S [] (Strip wr b S most (rowsS most (script.take k))) True)) (fun _ i _ => len - (intOf i).toNat)
  case atStart => exact ⟨0, [b], by omega, rfl, hT⟩
  case round =>
    obtain ⟨k, S, hk, rfl, H⟩ := hrel
    by_cases hlt : k < len
    · obtain ⟨g, o, rfl, hg, c1, c2, c3⟩ := ((HR.out.below hb1).below (hBe ▸ H.out.below)).at k (by omega)
      obtain ⟨⟨a1, a2⟩, ⟨b1, b2⟩, b3, b4⟩ := HO.out.at k (by omega)
      have HS := Lib.hid (rowsS_take most script k (by omega))
      obtain ⟨⟨kd, x, y⟩, hx⟩ : ∃ x, script[k]'(by omega) = x := ⟨_, rfl⟩
      rw [hx] at c1 c2 c3 a1 a2 b1 b2 b3 b4 HS
      clear hx
      dsimp only at c1 c2 c3 a1 a2 b1 b2 b3 b4 HS
      have zH := H.out.size
      have HZ := fun h : Below wr.heap.size wr (wr.alloc (.cells #[.int .i64 kd, .int .i64 x, .int .u64 y] 30)) => Lib.hid (H.out.belowW h (fun k => k.below h) (fun k => k))
      replace HZ := HZ ((Below.refl _ _).alloc (Nat.le_refl _) _)
      go_wp2_with fail
      refine (sadd_any b S most _ x y _ HZ.out.x b3 b4 ⟨b1, b2⟩).mono ?_
      rintro e w4 ⟨rfl, S3, hg3, hC3, hF3⟩
      have H3 := Lib.hid (HZ.out.stepX hg3 hC3 hC3.lt hF3 trivial)
      rw [← HS.out] at H3
      clear HZ hF3 hg3 hC3 H HS
      go_wp2
      go_roundw
      case rel => exact ⟨k + 1, S3, by omega, by simp, H3⟩
      case measure => simp [intOf]; omega
    · obtain rfl : k = len := by omega
      have H1 := H.out
      rw [List.take_of_length_le (by omega)] at H1
      replace H1 := Lib.hid H1
      clear H HO hT HR
      obtain ⟨ps, hps⟩ : ∃ ps, rowsS most script = ps := ⟨_, rfl⟩
      rw [hps] at H1
      clear hps
      have HOK := Lib.hid H1.out.x.ok
      have HG := Lib.hid H1.out.x.gd
      have HL := Lib.hid H1.out.x.len
      go_wp2_with fail
      refine (spairs_any b S most ps wr H1.out.x).mono ?_
      rintro e w5 ⟨A, cap, rfl, HA, hb⟩
      have H2 : Hid (Two B w1 w5 S (blk A) (Strip w5 b S most (ps.drop 0)) (RdP w5 A ps)) := H1.out.withY HA hb
      obtain ⟨n, hn⟩ : ∃ n, ps.length = n := ⟨_, rfl⟩
      rw [hn]
      have hln : n ≤ 4096 := by have := HL.out; omega
      clear hb HA H1
      go_wp2
      go_loopw [10, 11, 12, 50] (fun _ _ _ i wv => ∃ j : Nat, j ≤ n ∧ i = .int .i64 j ∧ Hid (Two B w1 wv S (blk A) (Strip wv b S most (ps.drop j)) (RdP wv A ps))) (fun _ _ _ i _ => n - (intOf i).toNat)
      case atStart => exact ⟨0, by omega, rfl, H2⟩
      case round =>
        obtain ⟨j, hj, rfl, H⟩ := hrel
        by_cases hjt : j < n
        · have zV := H.out.size
          go_wp2_with fail
          refine (sfirst_drop b S most ps j wr H.out.x (by omega)).mono ?_
          rintro e w6 ⟨rfl, hS, hF⟩
          have H3 := Lib.hid (H.out.stepX (Y' := RdP w6 A ps) (GrownS.refl _ _) hS hS.lt hF (Frame.rd hF H.out.y (fun a e hm => H.out.ap _ hm (by subst e; simp [blk]))))
          clear hS hF H
          obtain ⟨g, o, rfl, hg, c1, c2⟩ := RdP.at H3.out.y j (by omega)
          obtain ⟨⟨x, y⟩, hx⟩ : ∃ x, ps[j]'(by omega) = x := ⟨_, rfl⟩
          rw [hx] at c1 c2 ⊢
          clear hx
          dsimp only at c1 c2 ⊢
          go_wp2
          go_quiet (fail)
          go_wp2
          go_roundw
          case rel => exact ⟨j + 1, by omega, by simp, Lib.hid (H3.out.belowW ((by repeat (first | with_reducible assumption | with_reducible exact Below.refl _ _ | with_reducible refine Below.drew ?_ | with_reducible refine Below.drewN ?_ _ | with_reducible refine Below.setCell ?_ (by first | omega | (simp; done) | (simp; omega)) _ | with_reducible refine Below.alloc ?_ (by first | omega | (simp; done) | (simp; omega) | (simp [World.setCell]; omega)) _)) : Below w6.heap.size w6 _) (fun k => k.below (by repeat (first | with_reducible assumption | with_reducible exact Below.refl _ _ | with_reducible refine Below.drew ?_ | with_reducible refine Below.drewN ?_ _ | with_reducible refine Below.setCell ?_ (by first | omega | (simp; done) | (simp; omega)) _ | with_reducible refine Below.alloc ?_ (by first | omega | (simp; done) | (simp; omega) | (simp [World.setCell]; omega)) _))) (fun k => k.below (by repeat (first | with_reducible assumption | with_reducible exact Below.refl _ _ | with_reducible refine Below.drew ?_ | with_reducible refine Below.drewN ?_ _ | with_reducible refine Below.setCell ?_ (by first | omega | (simp; done) | (simp; omega)) _ | with_reducible refine Below.alloc ?_ (by first | omega | (simp; done) | (simp; omega) | (simp [World.setCell]; omega)) _))))⟩
          case measure => simp [intOf]; omega
        · obtain rfl : j = n := by omega
          have H2' := H.out
          rw [List.drop_of_length_le (by omega)] at H2'
          replace H2' := Lib.hid H2'
          clear H H2
          go_wp2_with fail
          refine (sfirst_none b S most wr H2'.out.x).mono ?_
          rintro e w6 ⟨rfl, hS, hF⟩
          have H3 := Lib.hid (H2'.out.stepX (Y' := True) (GrownS.refl _ _) hS hS.lt hF trivial)
          clear hS hF H2'
          have HB := Lib.hid ((Below.refl w6.heap.size w6).alloc (Nat.le_refl _) (.cells #[.int .i64 0, .int .u64 0] 35))
          have H4 := Lib.hid (H3.out.belowW HB.out (fun k => k.below HB.out) (fun k => k))
          go_wp2_with fail
          refine (stotal_any b S most [] _ H4.out.x).mono ?_
          rintro e w7 ⟨rfl, rfl⟩
          rw [sumP_nil]
          go_wp2_with fail
          refine (slen_any b S most [] _ H4.out.x).mono ?_
          rintro e w7 ⟨rfl, rfl⟩
          rw [List.length_nil]
          go_wp2
          go_ret
          exact ⟨rfl, hb1.trans ((H3.out.fin HB.out).mono (by have := hb1.size; omega))⟩
end Go.Proofs.Ytekjfbgkoneihaa

