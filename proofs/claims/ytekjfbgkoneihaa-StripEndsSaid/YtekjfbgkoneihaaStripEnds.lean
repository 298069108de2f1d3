/- The walk of the statement StripEnds. -/
import Derived.Test.YtekjfbgkoneihaaProg
import Derived.Test.YtekjfbgkoneihaaOpen
import Derived.Test.YtekjfbgkoneihaaAlive08
import Derived.Test.YtekjfbgkoneihaaLoops
import Derived.Test.YtekjfbgkoneihaaFar
namespace Go.Proofs.Ytekjfbgkoneihaa
open Go.RowKit

theorem sfirst_cons (b : Nat) (S : List Nat) (most : Int) (x : Int × Int) (t : List (Int × Int)) (w : World) (h : Strip w b S most (x :: t)) :
    Calls Try.prog 17 #[.pointer (some ⟨b, 0, none⟩)] w fun e w' =>
      e = .returned (.tuple #[.agg #[.int .i64 x.1, .int .u64 x.2], .bool true]) ∧ Strip w' b S most t ∧ Frame S w w' := by
  refine (sfirst_any b S most _ w h).mono ?_
  rintro e w' ⟨rfl, hS, hF⟩
  exact ⟨rfl, hS, hF⟩
theorem sfirst_none (b : Nat) (S : List Nat) (most : Int) (w : World) (h : Strip w b S most []) :
    Calls Try.prog 17 #[.pointer (some ⟨b, 0, none⟩)] w fun e w' =>
      e = .returned (.tuple #[.agg #[.int .i64 0, .int .u64 0], .bool false]) ∧ Strip w' b S most [] ∧ Frame S w w' := by
  refine (sfirst_any b S most _ w h).mono ?_
  rintro e w' ⟨rfl, hS, hF⟩
  exact ⟨rfl, hS, hF⟩
theorem slast_none (b : Nat) (S : List Nat) (most : Int) (w : World) (h : Strip w b S most []) :
    Calls Try.prog 21 #[.pointer (some ⟨b, 0, none⟩)] w fun e w' =>
      e = .returned (.tuple #[.agg #[.int .i64 0, .int .u64 0], .bool false]) ∧ Strip w' b S most [] ∧ Frame S w w' := by
  refine (slast_any b S most _ w h).mono ?_
  rintro e w' ⟨rfl, hS, hF⟩
  exact ⟨rfl, hS, hF⟩
theorem outF_snoc (m : List (Int × Int)) (z : Int × Int) : outF (m ++ [z]) m.length = m := by
  unfold outF
  rw [List.take_left, List.drop_of_length_le (by simp), List.append_nil]
theorem getD_snoc (m : List (Int × Int)) (z : Int × Int) : (m ++ [z]).getD m.length (0, 0) = z := by simp
theorem slast_snoc (b : Nat) (S : List Nat) (most : Int) (z : Int × Int) (m : List (Int × Int)) (w : World) (h : Strip w b S most (m ++ [z])) :
    Calls Try.prog 21 #[.pointer (some ⟨b, 0, none⟩)] w fun e w' =>
      e = .returned (.tuple #[.agg #[.int .i64 z.1, .int .u64 z.2], .bool true]) ∧ Strip w' b S most m ∧ Frame S w w' := by
  refine (slast_any b S most _ w h).mono ?_
  rintro e w' ⟨rfl, hS, hF⟩
  have hl : (m ++ [z]).length = m.length + 1 := by simp
  rw [if_neg (by omega), hl, Nat.add_sub_cancel, outF_snoc] at hS
  refine ⟨?_, hS, hF⟩
  unfold outV
  rw [if_neg (by omega), hl, Nat.add_sub_cancel, getD_snoc]
theorem ends_one (x : Int × Int) : endsV [x] = .tuple #[.int .i64 x.1, .int .i64 x.1, .bool true] := rfl
theorem ends_many (x z : Int × Int) (m : List (Int × Int)) : endsV (x :: (m ++ [z])) = .tuple #[.int .i64 x.1, .int .i64 z.1, .bool true] := by
  unfold endsV
  have hl : (x :: (m ++ [z])).length = m.length + 2 := by simp
  rw [if_neg (by omega), hl]
  simp
theorem mid_many {x z : Int × Int} {m : List (Int × Int)} (h : Gd (x :: (m ++ [z]))) : ∀ y ∈ m, x.1 < y.1 ∧ y.1 < z.1 := by
  intro y hy
  have h1 := List.pairwise_cons.1 h.srt
  exact ⟨h1.1 y (by simp [hy]), (List.pairwise_append.1 h1.2).2.2 y hy z (by simp)⟩
theorem sum_many (x z : Int × Int) (m : List (Int × Int)) : sumP (x :: (m ++ [z])) = x.2 + (sumP m + z.2) := by rw [sumP_cons, sumP_append, sumP_cons, sumP_nil]; omega

def wrap2 (T p q : Int) : Int := IntKind.u64.wrap (IntKind.u64.wrap (T - p) - q)
theorem Two.withY {B : Nat} {w wr w' : World} {S : List Nat} {b c : Nat} {most : Int} {ps : List (Int × Int)} {A : Option Addr} (h : Two B w wr S [] (Strip wr b S most ps) True) (ho : Own2 wr.heap.size w' A c ps) (hb : Below wr.heap.size wr w') :
    Two B w w' S (blk A) (Strip w' b S most (ps.drop 0)) (RdP w' A ps) := by
  have hA : ∀ k ∈ blk A, wr.heap.size ≤ k ∧ k < w'.heap.size := fun k hk => by
    cases A with
    | none => simp [blk] at hk
    | some a => simp only [blk, List.mem_singleton] at hk; subst hk; exact ho.base_le a rfl
  have := h.belowW hb (fun k => k.below hb) (fun k => k)
  exact ⟨this.x, ho.rd, this.ws, fun k hk => ⟨Nat.le_trans h.size (hA k hk).1, (hA k hk).2⟩, fun k hk hm => by have := (h.ws k hk).2; have := (hA k hm).1; omega, this.below, this.size⟩

set_option maxHeartbeats 2000000 in
theorem stripEnds_walk (w : World) (most : Int) (bdmost : -9223372036854775808 ≤ most ∧ most ≤ 9223372036854775807) (Ascript : Option Addr) (cscript : Nat) (script : List (Int × Int × Int)) (rscript : Rd w Ascript (script.flatMap fun x => [.int .i64 x.1, .int .i64 x.2.1, .int .u64 x.2.2])) (bdscript : ∀ x ∈ script, (-9223372036854775808 ≤ x.1 ∧ x.1 ≤ 9223372036854775807) ∧ (-9223372036854775808 ≤ x.2.1 ∧ x.2.1 ≤ 9223372036854775807) ∧ (0 ≤ x.2.2 ∧ x.2.2 < 18446744073709551616)) (lscript : script.length ≤ 9223372036854775807) :
    Calls Try.prog 6 #[.int .i64 most, .slice Ascript script.length cscript] w fun e w' => e = .returned (.bool true) ∧ Below w.heap.size w w' := by
  obtain ⟨h1, h2⟩ := bdmost
  have HR : Hid (RdC w Ascript script) := rscript
  have HO : Hid (okC script) := bdscript
  clear rscript bdscript
  obtain ⟨len, hlen⟩ : ∃ len, script.length = len := ⟨_, rfl⟩
  rw [hlen] at lscript ⊢
  go_enter Try.func6, Try.ntmps6
  go_wp2_with fail
  refine (alive_any _).mono ?_
  rintro e w1 ⟨rfl, hb1⟩
  by_cases hl : 100 < len
  · have hl' : (100 : Int) < len := by omega
    go_wp2
    go_ret
    exact ⟨rfl, hb1⟩
  have hl' : ¬ (100 : Int) < len := by omega
  by_cases hm1 : most < 1
  · go_wp2
    go_ret
    exact ⟨rfl, hb1⟩
  by_cases hm2 : 4096 < most
  · go_wp2
    go_ret
    exact ⟨rfl, hb1⟩
  go_wp2_with fail
  refine (snew_any most w1 (by omega) (by omega)).mono ?_
  rintro e w2 ⟨⟨b, rfl, hbe, hC⟩, hb⟩
  obtain ⟨B, hBe⟩ : ∃ B, w1.heap.size = B := ⟨_, rfl⟩
  have hT : Two B w1 w2 [b] [] (Strip w2 b [b] most []) True := by
    have hlt := hC.lt b (by simp)
    have z1 := hb.size
    subst hBe
    refine ⟨hC, trivial, fun k hk => ?_, fun k hk => by simp at hk, fun k hk hn => by simp at hn, hb, z1⟩
    rw [List.mem_singleton] at hk; subst hk; omega
  clear hC hb hbe hl hm1 hm2 h1 h2
  go_wp2
  go_loopw [8, 39] (fun _ i wr => ∃ k : Nat, ∃ S, k ≤ len ∧ i = .int .i64 k ∧ Hid (Two B w1 wr S [] (Strip wr b S most (rowsS most (script.take k))) True)) (fun _ i _ => len - (intOf i).toNat)
  case atStart => exact ⟨0, [b], by omega, rfl, hT⟩
  case round =>
    obtain ⟨k, S, hk, rfl, H⟩ := hrel
    by_cases hlt : k < len
    · obtain ⟨g, o, rfl, hg, c1, c2, c3⟩ := ((HR.out.below hb1).below (hBe ▸ H.out.below)).at k (by omega)
      obtain ⟨⟨a1, a2⟩, ⟨b1, b2⟩, b3, b4⟩ := HO.out.at k (by omega)
      have HS := Lib.hid (rowsS_take most script k (by omega))
      obtain ⟨⟨kd, x, y⟩, hx⟩ : ∃ x, script[k]'(by omega) = x := ⟨_, rfl⟩
      rw [hx] at c1 c2 c3 a1 a2 b1 b2 b3 b4 HS
      clear hx
      dsimp only at c1 c2 c3 a1 a2 b1 b2 b3 b4 HS
      have zH := H.out.size
      have HZ := fun h : Below wr.heap.size wr (wr.alloc (.cells #[.int .i64 kd, .int .i64 x, .int .u64 y] 30)) => Lib.hid (H.out.belowW h (fun k => k.below h) (fun k => k))
      replace HZ := HZ ((Below.refl _ _).alloc (Nat.le_refl _) _)
      go_wp2_with fail
      refine (sadd_any b S most _ x y _ HZ.out.x b3 b4 ⟨b1, b2⟩).mono ?_
      rintro e w4 ⟨rfl, S3, hg3, hC3, hF3⟩
      have H3 := Lib.hid (HZ.out.stepX hg3 hC3 hC3.lt hF3 trivial)
      rw [← HS.out] at H3
      clear HZ hF3 hg3 hC3 H HS
      go_wp2
      go_roundw
      case rel => exact ⟨k + 1, S3, by omega, by simp, H3⟩
      case measure => simp [intOf]; omega
    · obtain rfl : k = len := by omega
      have H1 := H.out
      rw [List.take_of_length_le (by omega)] at H1
      replace H1 := Lib.hid H1
      clear H HO hT HR
      obtain ⟨ps, hps⟩ : ∃ ps, rowsS most script = ps := ⟨_, rfl⟩
      rw [hps] at H1
      clear hps
      have HG := Lib.hid H1.out.x.gd
      have HL := Lib.hid H1.out.x.len
      have HSM := Lib.hid H1.out.x.sum
      have HOK := Lib.hid H1.out.x.ok
      go_wp2_with fail
      refine (sends_any b S most ps wr H1.out.x).mono ?_
      rintro e w5 ⟨rfl, hb⟩
      replace H1 := Lib.hid (H1.out.belowW hb (fun k => k.below hb) (fun k => k))
      clear hb
      cases ps with
      | nil =>
        rw [show endsV [] = .tuple #[.int .i64 0, .int .i64 0, .bool false] from rfl]
        go_wp2_with fail
        refine (stotal_any b S most [] _ H1.out.x).mono ?_
        rintro e w7 ⟨rfl, rfl⟩
        rw [sumP_nil]
        go_wp2_with fail
        refine (sfirst_none b S most _ H1.out.x).mono ?_
        rintro e w6 ⟨rfl, hS, hF⟩
        have H3 := Lib.hid (H1.out.stepX (Y' := True) (GrownS.refl _ _) hS hS.lt hF trivial)
        have HB := Lib.hid ((Below.refl w6.heap.size w6).alloc (Nat.le_refl _) (.cells #[.int .i64 0, .int .u64 0] 35))
        have H4 := Lib.hid (H3.out.belowW HB.out (fun k => k.below HB.out) (fun k => k))
        clear hS hF H1 H3 HB
        go_wp2_with fail
        refine (slast_none b S most _ H4.out.x).mono ?_
        rintro e w8 ⟨rfl, hS, hF⟩
        have H5 := Lib.hid (H4.out.stepX (Y' := True) (GrownS.refl _ _) hS hS.lt hF trivial)
        clear hS hF H4
        go_wp2
        go_ret
        exact ⟨rfl, hb1.trans ((H5.out.below.trans ((Below.refl w8.heap.size w8).alloc (Nat.le_refl _) _ |>.mono H5.out.size)).mono (by have := hb1.size; omega))⟩
      | cons x0 t =>
        rcases List.eq_nil_or_concat t with rfl | ⟨m, z, ht⟩
        · skip
          rw [ends_one]
          obtain ⟨lo, hlo⟩ : ∃ lo, x0.1 = lo := ⟨_, rfl⟩
          obtain ⟨pc, hpc⟩ : ∃ pc, x0.2 = pc := ⟨_, rfl⟩
          have HX := Lib.hid (And.intro hlo hpc)
          have HT := Lib.hid (stotal_any b S most _ _ H1.out.x)
          obtain ⟨T, hTo⟩ : ∃ T, sumP ([x0]) = T := ⟨_, rfl⟩
          rw [hTo] at HT
          have HTo := Lib.hid hTo
          rw [hlo]
          have HMID : Hid (∀ y ∈ ([] : List (Int × Int)), x0.1 < y.1 ∧ y.1 < x0.1) := fun y hy => by simp at hy
          clear hTo hlo hpc
          go_wp2_with fail
          refine HT.out.mono ?_
          rintro e w7 ⟨rfl, rfl⟩
          clear HT
          go_wp2_with fail
          refine (sfirst_cons b S most x0 _ _ H1.out.x).mono ?_
          rintro e w6 ⟨rfl, hS, hF⟩
          rw [HX.out.1, HX.out.2]
          have H3 := Lib.hid (H1.out.stepX (Y' := True) (GrownS.refl _ _) hS hS.lt hF trivial)
          have HB := Lib.hid ((Below.refl w6.heap.size w6).alloc (Nat.le_refl _) (.cells #[.int .i64 lo, .int .u64 pc] 35))
          have H4 := Lib.hid (H3.out.belowW HB.out (fun k => k.below HB.out) (fun k => k))
          have s1 := At.new w6 #[.int .i64 lo, .int .u64 pc] 35
          have hnS : Hid (w6.heap.size ∉ S) := fun hm => by have := (H3.out.ws _ hm).2; omega
          clear hS hF H1 HB
          go_wp2_with fail
          refine (slast_none b S most _ H4.out.x).mono ?_
          rintro e w8 ⟨rfl, hS, hF⟩
          replace s1 := hF.at s1 hnS.out
          have H5 := Lib.hid (H4.out.stepX (Y' := True) (GrownS.refl _ _) hS hS.lt hF trivial)
          have hlt1 := s1.lt
          clear hS hF H4 H3
          obtain ⟨C, hC⟩ : ∃ C, w6.heap.size = C := ⟨_, rfl⟩
          rw [hC] at s1 hnS hlt1 ⊢
          clear hC
          have f1 := s1.two
          have s2 : At (w8.alloc (.cells #[.int .i64 0, .int .u64 0] 35)) w8.heap.size #[.int .i64 0, .int .u64 0] 35 := At.new w8 _ _
          go_wp2_with fail
          have HB := Lib.hid ((Below.refl w8.heap.size w8).alloc (Nat.le_refl _) (.cells #[.int .i64 0, .int .u64 0] 35))
          have H6 := Lib.hid (H5.out.belowW HB.out (fun k => k.below HB.out) (fun k => k))
          replace s1 := s1.below HB.out
          obtain ⟨W9, hW9⟩ : ∃ W9, w8.alloc (.cells #[.int .i64 0, .int .u64 0] 35) = W9 := ⟨_, rfl⟩
          rw [hW9] at s1 s2 H6 ⊢
          obtain ⟨D, hD⟩ : ∃ D, w8.heap.size = D := ⟨_, rfl⟩
          rw [hD] at s2 ⊢
          clear HB H5 f1 hW9 hD hlt1
          replace f1 := s1.two
          have f2 := s2.two
          refine (spairs_any b S most _ _ H6.out.x).mono ?_
          rintro e w10 ⟨A, cap, rfl, HA, hb⟩
          have H7 := Lib.hid (H6.out.withY HA hb)
          replace s1 := s1.below hb
          replace s2 := s2.below hb
          obtain ⟨n, hn⟩ : ∃ n, List.length (α := Int × Int) [] = n := ⟨_, rfl⟩
          rw [hn]
          have hln : n ≤ 4096 := by have := H7.out.x.len; rw [List.drop_zero, hn] at this; omega
          clear hb HA H6 f1 f2
          go_wp2
          go_loopw [18, 109] (fun _ i wv => ∃ j : Nat, j ≤ n ∧ i = .int .i64 j ∧ Below w10.heap.size w10 wv) (fun _ i _ => n - (intOf i).toNat)
          case atStart => exact ⟨0, by omega, rfl, Below.refl _ _⟩
          case round =>
            obtain ⟨j, hj, rfl, hBj⟩ := hrel
            have zBj := hBj.size
            by_cases hjt : j < n
            · exact absurd hjt (by rw [← hn]; simp)
            · obtain rfl : j = n := by omega
              have H8 := Lib.hid (H7.out.belowW (keep1 (Below.refl _ _) hBj) (fun k => k.below hBj) (fun k => RdP.below k hBj))
              replace s1 := s1.below hBj
              replace s2 := s2.below hBj
              clear H7 hn
              obtain ⟨V, hV⟩ : ∃ V, sumP [] = V := ⟨_, rfl⟩
              have HV : Hid (IntKind.u64.wrap (IntKind.u64.wrap (T - pc)) = V) := by
                show _ = _
                have h1 := HTo.out
                have h2 := HSM.out
                have h3 := HOK.out
                have h4 := HG.out.pos
                rw [sumP_cons, sumP_nil] at h1
                rw [sumP_nil] at hV
                have h5 := HX.out.2
                have h6 := h4 x0 (by simp)
                have h7 := (h3 x0 (by simp)).2
                subst hV
                rw [← h1, h5]
                simp only [IntKind.wrap_u64]
                omega
              have HTOT : Hid (∀ x : Far wr, Calls Try.prog 18 #[.pointer (some ⟨b, 0, none⟩)] x.far fun e w'' => e = .returned (.int .u64 V) ∧ ∃ y : Far wr, w'' = y.far) := fun x => far_of_same ((stotal_any b S most _ _ (H8.out.x.below x.below)).mono (fun _ _ h => ⟨by rw [h.1, List.drop_zero, hV], h.2.symm⟩))
              have hz1 := hb1.size
              have hfin := Lib.hid (fun w' (hb : Below wr.heap.size wr w') => hb1.trans ((H8.out.fin hb).mono (by omega) : Below w.heap.size w1 w'))
              clear hV H8 hBj
              go_wp2
              have hfar1 := fun x : Far wr => (x.at s1).two
              have hfar2 := fun x : Far wr => (x.at s2).two
              refine wp_region_far (by kernel_rfl) (by kernel_rfl) ?_
              repeat (first | go_big_quiet_skip | (go_big_quiet_want; go_big_quiet_op; first | go_big_quiet_on | (apply Exists.intro; refine ⟨fun _ => ?_, ?_⟩; (focus (first | (go_at_call 18; exact HTOT.out _))); go_big_quiet_on)))
              refine wpQuiet_nil ?_
              rintro _ ⟨xq, rfl⟩
              clear hfar1 hfar2
              go_wp2
              go_ret
              exact ⟨by rw [HV.out, beq_self_eq_true]; rfl, hfin.out _ xq.below⟩
        · rw [List.concat_eq_append] at ht
          subst ht
          rw [ends_many]
          obtain ⟨lo, hlo⟩ : ∃ lo, x0.1 = lo := ⟨_, rfl⟩
          obtain ⟨pc, hpc⟩ : ∃ pc, x0.2 = pc := ⟨_, rfl⟩
          obtain ⟨zi, hzi⟩ : ∃ zi, z.1 = zi := ⟨_, rfl⟩
          obtain ⟨zc, hzc⟩ : ∃ zc, z.2 = zc := ⟨_, rfl⟩
          have HZ := Lib.hid (And.intro hzi hzc)
          have HX := Lib.hid (And.intro hlo hpc)
          have HT := Lib.hid (stotal_any b S most _ _ H1.out.x)
          obtain ⟨T, hTo⟩ : ∃ T, sumP (x0 :: (m ++ [z])) = T := ⟨_, rfl⟩
          rw [hTo] at HT
          have HTo := Lib.hid hTo
          rw [hlo, hzi]
          have HMID := Lib.hid (mid_many HG.out)
          clear hzi hzc
          clear hTo hlo hpc
          go_wp2_with fail
          refine HT.out.mono ?_
          rintro e w7 ⟨rfl, rfl⟩
          clear HT
          go_wp2_with fail
          refine (sfirst_cons b S most x0 _ _ H1.out.x).mono ?_
          rintro e w6 ⟨rfl, hS, hF⟩
          rw [HX.out.1, HX.out.2]
          have H3 := Lib.hid (H1.out.stepX (Y' := True) (GrownS.refl _ _) hS hS.lt hF trivial)
          have HB := Lib.hid ((Below.refl w6.heap.size w6).alloc (Nat.le_refl _) (.cells #[.int .i64 lo, .int .u64 pc] 35))
          have H4 := Lib.hid (H3.out.belowW HB.out (fun k => k.below HB.out) (fun k => k))
          have s1 := At.new w6 #[.int .i64 lo, .int .u64 pc] 35
          have hnS : Hid (w6.heap.size ∉ S) := fun hm => by have := (H3.out.ws _ hm).2; omega
          clear hS hF H1 HB
          go_wp2_with fail
          refine (slast_snoc b S most z m _ H4.out.x).mono ?_
          rintro e w8 ⟨rfl, hS, hF⟩
          rw [HZ.out.1, HZ.out.2]
          replace s1 := hF.at s1 hnS.out
          have H5 := Lib.hid (H4.out.stepX (Y' := True) (GrownS.refl _ _) hS hS.lt hF trivial)
          have hlt1 := s1.lt
          clear hS hF H4 H3
          obtain ⟨C, hC⟩ : ∃ C, w6.heap.size = C := ⟨_, rfl⟩
          rw [hC] at s1 hnS hlt1 ⊢
          clear hC
          have f1 := s1.two
          have s2 : At (w8.alloc (.cells #[.int .i64 zi, .int .u64 zc] 35)) w8.heap.size #[.int .i64 zi, .int .u64 zc] 35 := At.new w8 _ _
          go_wp2_with fail
          have HB := Lib.hid ((Below.refl w8.heap.size w8).alloc (Nat.le_refl _) (.cells #[.int .i64 zi, .int .u64 zc] 35))
          have H6 := Lib.hid (H5.out.belowW HB.out (fun k => k.below HB.out) (fun k => k))
          replace s1 := s1.below HB.out
          obtain ⟨W9, hW9⟩ : ∃ W9, w8.alloc (.cells #[.int .i64 zi, .int .u64 zc] 35) = W9 := ⟨_, rfl⟩
          rw [hW9] at s1 s2 H6 ⊢
          obtain ⟨D, hD⟩ : ∃ D, w8.heap.size = D := ⟨_, rfl⟩
          rw [hD] at s2 ⊢
          clear HB H5 f1 hW9 hD hlt1
          replace f1 := s1.two
          have f2 := s2.two
          refine (spairs_any b S most _ _ H6.out.x).mono ?_
          rintro e w10 ⟨A, cap, rfl, HA, hb⟩
          have H7 := Lib.hid (H6.out.withY HA hb)
          replace s1 := s1.below hb
          replace s2 := s2.below hb
          obtain ⟨n, hn⟩ : ∃ n, List.length (α := Int × Int) m = n := ⟨_, rfl⟩
          rw [hn]
          have hln : n ≤ 4096 := by have := H7.out.x.len; rw [List.drop_zero, hn] at this; omega
          clear hb HA H6 f1 f2
          go_wp2
          go_loopw [18, 109] (fun _ i wv => ∃ j : Nat, j ≤ n ∧ i = .int .i64 j ∧ Below w10.heap.size w10 wv) (fun _ i _ => n - (intOf i).toNat)
          case atStart => exact ⟨0, by omega, rfl, Below.refl _ _⟩
          case round =>
            obtain ⟨j, hj, rfl, hBj⟩ := hrel
            have zBj := hBj.size
            by_cases hjt : j < n
            · obtain ⟨g, o, rfl, hg, c1, c2⟩ := (RdP.below H7.out.y hBj).at j (by rw [hn]; omega)
              obtain ⟨hlo1, hhi1⟩ := HMID.out _ (List.getElem_mem (show j < List.length (α := Int × Int) m by omega))
              obtain ⟨⟨x, y⟩, hx⟩ : ∃ x, (List.get (α := Int × Int) m ⟨j, by omega⟩) = x := ⟨_, rfl⟩
              simp only [List.get_eq_getElem] at hx
              rw [hx] at c1 c2 hlo1 hhi1
              clear hx
              dsimp only at c1 c2 hlo1 hhi1
              rw [HX.out.1] at hlo1
              rw [HZ.out.1] at hhi1
              have e1 : ¬ x ≤ lo := by omega
              have e2 : ¬ zi ≤ x := by omega
              clear hlo1 hhi1
              go_wp2
              go_roundw
              case rel => exact ⟨j + 1, by omega, by simp, (by repeat (first | with_reducible assumption | with_reducible exact Below.refl _ _ | with_reducible refine Below.drew ?_ | with_reducible refine Below.drewN ?_ _ | with_reducible refine Below.setCell ?_ (by first | omega | (simp; done) | (simp; omega)) _ | with_reducible refine Below.alloc ?_ (by first | omega | (simp; done) | (simp; omega) | (simp [World.setCell]; omega)) _))⟩
              case measure => simp [intOf]; omega
            · obtain rfl : j = n := by omega
              have H8 := Lib.hid (H7.out.belowW (keep1 (Below.refl _ _) hBj) (fun k => k.below hBj) (fun k => RdP.below k hBj))
              replace s1 := s1.below hBj
              replace s2 := s2.below hBj
              clear H7 hn
              obtain ⟨V, hV⟩ : ∃ V, sumP m = V := ⟨_, rfl⟩
              have HV : Hid (wrap2 T pc zc = V) := by
                show _ = _
                have h1 := HTo.out
                have h2 := HSM.out
                have h3 := HOK.out
                have h4 := HG.out.pos
                rw [sum_many] at h1 h2
                have h5 := HX.out.2
                have h6 := h4 x0 (by simp)
                have h7 := (h3 x0 (by simp)).2
                have h8 := h4 z (by simp)
                have h9 := sumP_nonneg (ps := m) (fun y hy => h4 y (by simp [hy]))
                have h10 := HZ.out.2
                unfold wrap2
                rw [hV] at h1 h2 h9
                simp only [IntKind.wrap_u64]
                omega
              have HTOT : Hid (∀ x : Far wr, Calls Try.prog 18 #[.pointer (some ⟨b, 0, none⟩)] x.far fun e w'' => e = .returned (.int .u64 V) ∧ ∃ y : Far wr, w'' = y.far) := fun x => far_of_same ((stotal_any b S most _ _ (H8.out.x.below x.below)).mono (fun _ _ h => ⟨by rw [h.1, List.drop_zero, hV], h.2.symm⟩))
              have hz1 := hb1.size
              have hfin := Lib.hid (fun w' (hb : Below wr.heap.size wr w') => hb1.trans ((H8.out.fin hb).mono (by omega) : Below w.heap.size w1 w'))
              clear hV H8 hBj
              go_wp2
              have hfar1 := fun x : Far wr => (x.at s1).two
              have hfar2 := fun x : Far wr => (x.at s2).two
              refine wp_region_far (by kernel_rfl) (by kernel_rfl) ?_
              repeat (first | go_big_quiet_skip | (go_big_quiet_want; go_big_quiet_op; first | go_big_quiet_on | (apply Exists.intro; refine ⟨fun _ => ?_, ?_⟩; (focus (first | (go_at_call 18; exact HTOT.out _))); go_big_quiet_on)))
              refine wpQuiet_nil ?_
              rintro _ ⟨xq, rfl⟩
              clear hfar1 hfar2
              go_wp2
              go_ret
              exact ⟨by rw [show IntKind.u64.wrap (IntKind.u64.wrap (T - pc) - zc) = V from HV.out, beq_self_eq_true]; rfl, hfin.out _ xq.below⟩
end Go.Proofs.Ytekjfbgkoneihaa

