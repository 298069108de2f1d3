/- Contract of package hdr: fits. -/
import Derived.Test.YtnkkdciecjhpoaaDoorProg
import Derived.Test.YtnkkdciecjhpoaaDoorHdrAsk
namespace Go.Proofs.YtnkkdciecjhpoaaDoor
open Go.RowKit

theorem index0 (b0 b1 : Nat) (W : World) : (Instr.index 86 (.agg #[.pointer (some ⟨b0, 0, none⟩), .pointer (some ⟨b1, 0, none⟩)]) (.int .i64 0)).run Tryd.prog W = .ok (.pointer (some ⟨b0, 0, none⟩)) W := by kernel_rfl
theorem index1 (b0 b1 : Nat) (W : World) : (Instr.index 86 (.agg #[.pointer (some ⟨b0, 0, none⟩), .pointer (some ⟨b1, 0, none⟩)]) (.int .i64 1)).run Tryd.prog W = .ok (.pointer (some ⟨b1, 0, none⟩)) W := by kernel_rfl
set_option maxRecDepth 100000 in
set_option maxHeartbeats 4000000 in
theorem hfits_any (b sp b0 b1 : Nat) (S0 S1 : List Nat) (d lim : Int) (ps0 ps1 : List (Int × Int)) (zero least most : Int) (m sq m0 m1 : Nat) (T0 T1 : List Nat) (d2 lim2 : Int) (qs0 qs1 : List (Int × Int)) (zero2 least2 most2 : Int) (w : World)
    (h : HdB w b sp b0 b1 S0 S1 d lim ps0 ps1 zero least most) (k : HdB w m sq m0 m1 T0 T1 d2 lim2 qs0 qs1 zero2 least2 most2) (h0 : ps0.length + qs0.length ≤ 4096) (h1 : ps1.length + qs1.length ≤ 4096) :
    Calls Tryd.prog 62 #[.pointer (some ⟨b, 0, none⟩), .pointer (some ⟨m, 0, none⟩)] w fun e w' => e = .returned (.bool true) ∧ Below w.heap.size w w' := by
  have H := Lib.hid h
  have HO := Lib.hid k
  have HL := Lib.hid (And.intro h0 h1)
  have s1 := h.at'
  have t1 := k.at'
  have f1 := s1.eight
  have l1 := s1.lt
  have x0 := index0 b0 b1
  have x1 := index1 b0 b1
  clear h k h0 h1
  go_enter Tryd.func62, Tryd.ntmps62
  go_wp2
  go_loopw [5, 6, 7, 9, 14, 28] (fun _ _ _ _ i _ wr => ∃ kk : Nat, kk ≤ 2 ∧ i = .int .i64 kk ∧ Below w.heap.size w wr) (fun _ _ _ _ i _ _ => 2 - (intOf i).toNat)
  case atStart => exact ⟨0, by omega, rfl, Below.refl _ _⟩
  case round =>
    obtain ⟨kk, hkk, rfl, hB⟩ := hrel
    have HB := Lib.hid hB
    clear f1 l1 hB
    rcases (by omega : kk = 0 ∨ kk = 1 ∨ kk = 2) with rfl | rfl | rfl
    · obtain ⟨a, ha⟩ : ∃ a, ps0.length = a := ⟨_, rfl⟩
      obtain ⟨len, hlen⟩ : ∃ a, qs0.length = a := ⟨_, rfl⟩
      have HAL : Hid (a + len ≤ 4096) := by have := HL.out; show _ ≤ _; omega
      have HLEN := Lib.hid hlen
      go_wp2_with fail
      refine (slen_any b0 S0 4096 ps0 wr (H.out.s0.below HB.out)).mono ?_
      rintro e w1 ⟨rfl, rfl⟩
      rw [ha]
      have t2 := t1.below HB.out
      have g2 := t2.eight
      have l2 := t2.lt
      clear ha
      go_wp2_with fail
      refine (spairs_any m0 T0 4096 qs0 wr (HO.out.s0.below HB.out)).mono ?_
      rintro e w2 ⟨A, c, rfl, ho, hb⟩
      rw [hlen]
      have HR := Lib.hid ho.rd
      have HB2 := Lib.hid (keep1 HB.out hb)
      clear ho hb g2 l2 t2 hlen
      have hB2 : Below w.heap.size w w2 := HB2.out
      go_wp2
      go_loopw [7, 9, 28] (fun n _ i wi => ∃ j : Nat, ∃ z : Int, j ≤ len ∧ i = .int .i64 j ∧ n = .int .i64 z ∧ 0 ≤ z ∧ z ≤ a + j ∧ Hid (Below w2.heap.size w2 wi)) (fun _ _ i _ => len - (intOf i).toNat)
      case atStart => exact ⟨0, a, by omega, rfl, rfl, by omega, by omega, Below.refl _ _⟩
      case round =>
        obtain ⟨j, z, hj, rfl, rfl, hz0, hz1, HB3⟩ := hrel
        have z3 := HB3.out.size
        have hal := HAL.out
        by_cases hjt : j < len
        · obtain ⟨g', o', rfl, hg', d1, d2⟩ := (HR.out.below HB3.out).at j (by have := HLEN.out; omega)
          obtain ⟨⟨y1, y2⟩, hy⟩ : ∃ y, qs0[j]'(by have := HLEN.out; omega) = y := ⟨_, rfl⟩
          rw [hy] at d1 d2
          dsimp only at d1 d2
          clear hy
          have hB3 : Hid (Below w.heap.size w wr) := keep1 HB2.out HB3.out
          have hB4 : Hid (∀ o : Obj, Below w.heap.size w (wr.alloc o)) := fun o => hB3.out.alloc (hB3.out.size) o
          go_wp2_with fail
          obtain ⟨W3, hW3⟩ : ∃ W3, wr.alloc (.cells #[.int .i64 y1, .int .u64 y2] 66) = W3 := ⟨_, rfl⟩
          have HB5 : Hid (Below w.heap.size w W3 ∧ Below w2.heap.size w2 W3) := by rw [← hW3]; exact ⟨hB4.out _, HB3.out.alloc z3 _⟩
          rw [hW3]
          clear hW3 d1 d2 hB3 hB4
          refine (sat_any b0 S0 4096 ps0 y1 W3 (H.out.s0.below HB5.out.1)).mono ?_
          rintro e w4 ⟨rfl, hb⟩
          have HB6 : Hid (Below w2.heap.size w2 w4) := keep1 HB5.out.2 hb
          clear hb HB5
          by_cases hcz : cnt ps0 y1 = 0
          · rw [hcz]
            have hwz : wrap64 (z + 1) = z + 1 := by unfold wrap64; omega
            go_wp2
            go_roundw
            case rel => exact ⟨j + 1, z + 1, by omega, by simp, rfl, by omega, by omega, HB6⟩
            case measure => simp [intOf]; omega
          · have hcz' : (cnt ps0 y1 == 0) = false := beq_eq_false_iff_ne.2 hcz
            obtain ⟨cn, hcn⟩ : ∃ n, cnt ps0 y1 = n := ⟨_, rfl⟩
            rw [hcn] at hcz' ⊢
            clear hcz hcn
            go_wp2
            go_roundw
            case rel => exact ⟨j + 1, z, by omega, by simp, rfl, by omega, by omega, HB6⟩
            case measure => simp [intOf]; omega
        · have hzz : ¬ (4096 : Int) < z := by omega
          have HB7 : Hid (Below w.heap.size w wr) := keep1 HB2.out HB3.out
          clear hB2
          go_wp2
          go_roundw
          case rel => exact ⟨1, by omega, rfl, HB7.out⟩
          case measure => simp [intOf]
    · obtain ⟨a, ha⟩ : ∃ a, ps1.length = a := ⟨_, rfl⟩
      obtain ⟨len, hlen⟩ : ∃ a, qs1.length = a := ⟨_, rfl⟩
      have HAL : Hid (a + len ≤ 4096) := by have := HL.out; show _ ≤ _; omega
      have HLEN := Lib.hid hlen
      go_wp2_with fail
      refine (slen_any b1 S1 4096 ps1 wr (H.out.s1.below HB.out)).mono ?_
      rintro e w1 ⟨rfl, rfl⟩
      rw [ha]
      have t2 := t1.below HB.out
      have g2 := t2.eight
      have l2 := t2.lt
      clear ha
      go_wp2_with fail
      refine (spairs_any m1 T1 4096 qs1 wr (HO.out.s1.below HB.out)).mono ?_
      rintro e w2 ⟨A, c, rfl, ho, hb⟩
      rw [hlen]
      have HR := Lib.hid ho.rd
      have HB2 := Lib.hid (keep1 HB.out hb)
      clear ho hb g2 l2 t2 hlen
      have hB2 : Below w.heap.size w w2 := HB2.out
      go_wp2
      go_loopw [7, 9, 28] (fun n _ i wi => ∃ j : Nat, ∃ z : Int, j ≤ len ∧ i = .int .i64 j ∧ n = .int .i64 z ∧ 0 ≤ z ∧ z ≤ a + j ∧ Hid (Below w2.heap.size w2 wi)) (fun _ _ i _ => len - (intOf i).toNat)
      case atStart => exact ⟨0, a, by omega, rfl, rfl, by omega, by omega, Below.refl _ _⟩
      case round =>
        obtain ⟨j, z, hj, rfl, rfl, hz0, hz1, HB3⟩ := hrel
        have z3 := HB3.out.size
        have hal := HAL.out
        by_cases hjt : j < len
        · obtain ⟨g', o', rfl, hg', d1, d2⟩ := (HR.out.below HB3.out).at j (by have := HLEN.out; omega)
          obtain ⟨⟨y1, y2⟩, hy⟩ : ∃ y, qs1[j]'(by have := HLEN.out; omega) = y := ⟨_, rfl⟩
          rw [hy] at d1 d2
          dsimp only at d1 d2
          clear hy
          have hB3 : Hid (Below w.heap.size w wr) := keep1 HB2.out HB3.out
          have hB4 : Hid (∀ o : Obj, Below w.heap.size w (wr.alloc o)) := fun o => hB3.out.alloc (hB3.out.size) o
          go_wp2_with fail
          obtain ⟨W3, hW3⟩ : ∃ W3, wr.alloc (.cells #[.int .i64 y1, .int .u64 y2] 66) = W3 := ⟨_, rfl⟩
          have HB5 : Hid (Below w.heap.size w W3 ∧ Below w2.heap.size w2 W3) := by rw [← hW3]; exact ⟨hB4.out _, HB3.out.alloc z3 _⟩
          rw [hW3]
          clear hW3 d1 d2 hB3 hB4
          refine (sat_any b1 S1 4096 ps1 y1 W3 (H.out.s1.below HB5.out.1)).mono ?_
          rintro e w4 ⟨rfl, hb⟩
          have HB6 : Hid (Below w2.heap.size w2 w4) := keep1 HB5.out.2 hb
          clear hb HB5
          by_cases hcz : cnt ps1 y1 = 0
          · rw [hcz]
            have hwz : wrap64 (z + 1) = z + 1 := by unfold wrap64; omega
            go_wp2
            go_roundw
            case rel => exact ⟨j + 1, z + 1, by omega, by simp, rfl, by omega, by omega, HB6⟩
            case measure => simp [intOf]; omega
          · have hcz' : (cnt ps1 y1 == 0) = false := beq_eq_false_iff_ne.2 hcz
            obtain ⟨cn, hcn⟩ : ∃ n, cnt ps1 y1 = n := ⟨_, rfl⟩
            rw [hcn] at hcz' ⊢
            clear hcz hcn
            go_wp2
            go_roundw
            case rel => exact ⟨j + 1, z, by omega, by simp, rfl, by omega, by omega, HB6⟩
            case measure => simp [intOf]; omega
        · have hzz : ¬ (4096 : Int) < z := by omega
          have HB7 : Hid (Below w.heap.size w wr) := keep1 HB2.out HB3.out
          clear hB2
          go_wp2
          go_roundw
          case rel => exact ⟨2, by omega, rfl, HB7.out⟩
          case measure => simp [intOf]
    · clear t1 s1
      go_wp2
      go_ret
      exact ⟨rfl, HB.out⟩
end Go.Proofs.YtnkkdciecjhpoaaDoor
/- What Join needs: plain laws, and what its loops keep. -/
namespace Go.Proofs.YtnkkdciecjhpoaaDoor
open Go.RowKit

theorem addAll_one : ∀ (l ps : List (Int × Int)), (addAll ps l).length ≤ ps.length + l.length
  | [], ps => Nat.le_refl _
  | x :: l, ps => by
    have h1 := addAll_one l (rowAdd ps x.1 x.2)
    have h2 := rowAdd_one (ps := ps) (q := x.1) (c := x.2)
    rw [List.length_cons]
    have : addAll ps (x :: l) = addAll (rowAdd ps x.1 x.2) l := rfl
    rw [this]
    omega
theorem rowV_app {part : Nat → Int} {below : Bool} {l k : List (Int × Int)} (hp : ∀ v ∈ l, 0 < v.2) (kp : ∀ v ∈ k, 0 < v.2) (hs : sumP l + sumP k < 18446744073709551616) : rowV part below (l ++ k) = addAll (rowV part below l) (rowV part below k) := by
  have l0 := sumP_nonneg hp
  have k0 := sumP_nonneg kp
  have hpa : ∀ v ∈ l ++ k, 0 < v.2 := fun v hv => (List.mem_append.1 hv).elim (hp v) (kp v)
  have hsa : sumP (l ++ k) < 18446744073709551616 := by rw [sumP_append]; exact hs
  have g1 := rowV_gd (part := part) (below := below) hp (by omega)
  have g2 := rowV_gd (part := part) (below := below) kp (by omega)
  have e1 := rowV_sum (part := part) (below := below) hp (by omega)
  have e2 := rowV_sum (part := part) (below := below) kp (by omega)
  have u1 := (vsum_filter hp fun v => sgn below v.1).2
  have u2 := (vsum_filter kp fun v => sgn below v.1).2
  obtain ⟨a1, a2, a3⟩ := addAll_spec (l := rowV part below k) (ps := rowV part below l) g1 g2.pos (by rw [e1, e2]; omega)
  refine Gd.ext (rowV_gd hpa hsa) a1 fun i => ?_
  rw [a3, rowV_cnt i hpa hsa, rowV_cnt i hp (by omega), rowV_cnt i kp (by omega), List.filter_append, sumP_append]
theorem zeroV_app (l k : List (Int × Int)) : zeroV (l ++ k) = zeroV l + zeroV k := by unfold zeroV; rw [List.filter_append, sumP_append]
theorem VOk.app {l k : List (Int × Int)} (h : VOk l) (hk : VOk k) (hs : sumP l + sumP k ≤ 9223372036854775807) : VOk (l ++ k) :=
  ⟨fun v hv => (List.mem_append.1 hv).elim (h.ok v) (hk.ok v), fun v hv => (List.mem_append.1 hv).elim (h.pos v) (hk.pos v), by rw [sumP_append]; exact hs⟩
theorem eLow_app {l k : List (Int × Int)} (h : VOk l) (hk : k ≠ []) : eLow (l ++ k) = (if sumP l = 0 then eLow k else min (eLow l) (eLow k)) ∧ eHigh (l ++ k) = (if sumP l = 0 then eHigh k else max (eHigh l) (eHigh k)) := by
  by_cases h0 : l = []
  · subst h0
    rw [if_pos sumP_nil, if_pos sumP_nil]
    exact ⟨rfl, rfl⟩
  · rw [if_neg fun e => h0 (h.empty.1 e), if_neg fun e => h0 (h.empty.1 e)]
    obtain ⟨⟨v1, m1, e1⟩, ⟨v2, m2, e2⟩⟩ := eLow_mem h0
    obtain ⟨⟨u1, n1, f1⟩, ⟨u2, n2, f2⟩⟩ := eLow_mem hk
    refine ends_uniq ?_ ?_ ?_ ?_
    · rcases Int.le_total (eLow l) (eLow k) with h1 | h1
      · exact ⟨v1, List.mem_append.2 (.inl m1), by rw [e1]; omega⟩
      · exact ⟨u1, List.mem_append.2 (.inr n1), by rw [f1]; omega⟩
    · intro v hv
      rcases List.mem_append.1 hv with h1 | h1
      · have := (eLow_le h1).1; omega
      · have := (eLow_le h1).1; omega
    · rcases Int.le_total (eHigh l) (eHigh k) with h1 | h1
      · exact ⟨u2, List.mem_append.2 (.inr n2), by rw [f2]; omega⟩
      · exact ⟨v2, List.mem_append.2 (.inl m2), by rw [e2]; omega⟩
    · intro v hv
      rcases List.mem_append.1 hv with h1 | h1
      · have := (eLow_le h1).2; omega
      · have := (eLow_le h1).2; omega

theorem frame_two {w w1 w2 : World} {S S1 : List Nat} (hg : GrownS S S1 w.heap.size) (h1 : Frame S w w1) (h2 : Frame S1 w1 w2) : Frame S w w2 := by
  refine ⟨h2.os.trans h1.os, h2.tape.trans h1.tape, h2.output.trans h1.output, Nat.le_trans h1.size h2.size, fun k hk hn => ?_⟩
  refine (h2.block k (Nat.lt_of_lt_of_le hk h1.size) fun hm => ?_).trans (h1.block k hk hn)
  rcases hg k hm with h | h
  · exact hn h
  · omega

/-- What Join keeps: a sketch that grows, another one that stays. -/
structure Jn (w wr : World) (b sp b0 b1 : Nat) (S : List Nat) (U0 U1 : List Nat) (d lim : Int) (ps0 ps1 : List (Int × Int)) (zero lo hi : Int) (m : Nat) (T : List Nat) (d2 lim2 : Int) (qs0 qs1 : List (Int × Int)) (zero2 lo2 hi2 : Int) : Prop where
  s : HdB wr b sp b0 b1 U0 U1 d lim ps0 ps1 zero lo hi
  o : Hd wr m T d2 lim2 qs0 qs1 zero2 lo2 hi2
  gr : GrownS S (b :: sp :: (U0 ++ U1)) w.heap.size
  fr : Frame S w wr
  ap : ∀ k ∈ T, k ∉ S ∧ k < w.heap.size
section
variable {w wr w' : World} {b sp b0 b1 : Nat} {S U0 U1 V : List Nat} {d lim : Int} {ps ps0 ps1 : List (Int × Int)} {zero lo hi : Int} {m : Nat} {T : List Nat} {d2 lim2 : Int} {qs0 qs1 : List (Int × Int)} {zero2 lo2 hi2 : Int}
theorem Jn.out (h : Jn w wr b sp b0 b1 S U0 U1 d lim ps0 ps1 zero lo hi m T d2 lim2 qs0 qs1 zero2 lo2 hi2) : Apart T (b :: sp :: (U0 ++ U1)) := fun k hk hm => by
  obtain ⟨h1, h2⟩ := h.ap k hk
  rcases h.gr k hm with h3 | h3
  · exact h1 h3
  · omega
theorem Jn.below (h : Jn w wr b sp b0 b1 S U0 U1 d lim ps0 ps1 zero lo hi m T d2 lim2 qs0 qs1 zero2 lo2 hi2) (hb : Below wr.heap.size wr w') : Jn w w' b sp b0 b1 S U0 U1 d lim ps0 ps1 zero lo hi m T d2 lim2 qs0 qs1 zero2 lo2 hi2 :=
  ⟨h.s.below hb, h.o.below hb, h.gr, h.fr.trans (Frame.of_below hb), h.ap⟩
theorem Jn.step0 (h : Jn w wr b sp b0 b1 S U0 U1 d lim ps0 ps1 zero lo hi m T d2 lim2 qs0 qs1 zero2 lo2 hi2) (hg : GrownS U0 V wr.heap.size) (hs : Strip w' b0 V 4096 ps) (hf : Frame U0 wr w') : Jn w w' b sp b0 b1 S V U1 d lim ps ps1 zero lo hi m T d2 lim2 qs0 qs1 zero2 lo2 hi2 := by
  have hz := h.fr.size
  refine ⟨h.s.side0 hg hs hf, h.o.frame hf fun k hk hm => h.out k hk (by simp [hm]), fun k hk => ?_, ?_, h.ap⟩
  · simp only [List.mem_cons, List.mem_append] at hk
    rcases hk with hk | hk | hk | hk
    · exact h.gr k (by simp [hk])
    · exact h.gr k (by simp [hk])
    · rcases hg k hk with h1 | h1
      · exact h.gr k (by simp [h1])
      · exact .inr (Nat.le_trans hz h1)
    · exact h.gr k (by simp [hk])
  · exact frame_two (S1 := U0) (fun k hk => h.gr k (by simp [hk])) h.fr hf
theorem Jn.step1 (h : Jn w wr b sp b0 b1 S U0 U1 d lim ps0 ps1 zero lo hi m T d2 lim2 qs0 qs1 zero2 lo2 hi2) (hg : GrownS U1 V wr.heap.size) (hs : Strip w' b1 V 4096 ps) (hf : Frame U1 wr w') : Jn w w' b sp b0 b1 S U0 V d lim ps0 ps zero lo hi m T d2 lim2 qs0 qs1 zero2 lo2 hi2 := by
  have hz := h.fr.size
  refine ⟨h.s.side1 hg hs hf, h.o.frame hf fun k hk hm => h.out k hk (by simp [hm]), fun k hk => ?_, ?_, h.ap⟩
  · simp only [List.mem_cons, List.mem_append] at hk
    rcases hk with hk | hk | hk | hk
    · exact h.gr k (by simp [hk])
    · exact h.gr k (by simp [hk])
    · exact h.gr k (by simp [hk])
    · rcases hg k hk with h1 | h1
      · exact h.gr k (by simp [h1])
      · exact .inr (Nat.le_trans hz h1)
  · exact frame_two (S1 := U1) (fun k hk => h.gr k (by simp [hk])) h.fr hf
end
/-- A row that is read while a strip grows. -/
structure Inn (w5 wr : World) (A : Option Addr) (qs : List (Int × Int)) (V U : List Nat) : Prop where
  rd : RdP wr A qs
  gr : GrownS V U w5.heap.size
  ap : ∀ k ∈ blk A, k ∉ V ∧ k < w5.heap.size
  sz : w5.heap.size ≤ wr.heap.size
theorem Inn.below {w5 wr w' : World} {A : Option Addr} {qs : List (Int × Int)} {V U : List Nat} (h : Inn w5 wr A qs V U) (hb : Below wr.heap.size wr w') : Inn w5 w' A qs V U := ⟨h.rd.below hb, h.gr, h.ap, Nat.le_trans h.sz hb.size⟩
theorem Inn.step {w5 wr w' : World} {A : Option Addr} {qs : List (Int × Int)} {V U U' : List Nat} (h : Inn w5 wr A qs V U) (hg : GrownS U U' wr.heap.size) (hf : Frame U wr w') : Inn w5 w' A qs V U' := by
  have hn : ∀ k ∈ blk A, k ∉ U := fun k hk hm => by
    obtain ⟨h1, h2⟩ := h.ap k hk
    rcases h.gr k hm with h3 | h3
    · exact h1 h3
    · omega
  refine ⟨?_, fun k hk => ?_, h.ap, Nat.le_trans h.sz hf.size⟩
  · exact Frame.rd hf h.rd fun a ha => hn _ (by subst ha; simp [blk])
  · rcases hg k hk with h1 | h1
    · exact h.gr k h1
    · exact .inr (Nat.le_trans h.sz h1)
theorem join_room {ps qs : List (Int × Int)} (g : Gd ps) (k : Gd qs) (hs : sumP ps + sumP qs ≤ 9223372036854775807) (hl : ps.length + qs.length ≤ 4096) (j : Nat) (hj : j < qs.length) :
    (stCode 4096 (addAll ps (qs.take j)) (qs[j]'hj).1 (qs[j]'hj).2 = 0 ∧ stStep 4096 (addAll ps (qs.take j)) (qs[j]'hj).1 (qs[j]'hj).2 = addAll ps (qs.take (j + 1))) ∧ 0 ≤ (qs[j]'hj).2 ∧ (qs[j]'hj).2 < 18446744073709551616 := by
  have h1 := k.pos _ (List.getElem_mem hj)
  have h2 := sumP_take qs j hj
  have h3 := (vsum_take k.pos (j + 1)).2
  have p0 := sumP_nonneg g.pos
  have hpt : ∀ x ∈ qs.take j, 0 < x.2 := fun x hx => k.pos x (List.mem_of_mem_take hx)
  have t0 := sumP_nonneg hpt
  obtain ⟨a1, a2, a3⟩ := addAll_spec (l := qs.take j) (ps := ps) g hpt (by omega)
  have hlen : (addAll ps (qs.take j)).length ≤ ps.length + j := Nat.le_trans (addAll_one _ _) (by rw [List.length_take]; omega)
  have hlen2 := rowAdd_one (ps := addAll ps (qs.take j)) (q := (qs[j]'hj).1) (c := (qs[j]'hj).2)
  have hr : stRoom 4096 (addAll ps (qs.take j)) (qs[j]'hj).1 (qs[j]'hj).2 := ⟨by rw [a2]; omega, by omega⟩
  refine ⟨⟨by unfold stCode; rw [if_pos h1, if_pos hr], by unfold stStep; rw [if_pos ⟨h1, hr⟩, addAll_take ps qs j hj]⟩, by omega, by omega⟩
def jn0 (k : Nat) (ps qs : List (Int × Int)) : List (Int × Int) := if k = 0 then ps else addAll ps qs
def jn1 (k : Nat) (ps qs : List (Int × Int)) : List (Int × Int) := if k ≤ 1 then ps else addAll ps qs
end Go.Proofs.YtnkkdciecjhpoaaDoor
/- Contract of package hdr: Join. -/
namespace Go.Proofs.YtnkkdciecjhpoaaDoor
open Go.RowKit

set_option maxRecDepth 100000 in
theorem hjoin_nil (w : World) : Calls Tryd.prog 31 #[.pointer none, .pointer none] w fun e w' => e = .returned (.int .i64 2) ∧ w = w' := by
  go_enter Tryd.func31, Tryd.ntmps31
  go_wp2
  go_ret
  exact ⟨rfl, rfl⟩
set_option maxRecDepth 100000 in
set_option maxHeartbeats 4000000 in
theorem hjoin_any (b sp b0 b1 : Nat) (S0 S1 : List Nat) (d lim : Int) (ps0 ps1 : List (Int × Int)) (zero least most t : Int) (m sq m0 m1 : Nat) (T0 T1 : List Nat) (lim2 : Int) (qs0 qs1 : List (Int × Int)) (zero2 least2 most2 u : Int) (w : World)
    (h : HdB w b sp b0 b1 S0 S1 d lim ps0 ps1 zero least most) (k : HdB w m sq m0 m1 T0 T1 d lim2 qs0 qs1 zero2 least2 most2) (ap : ∀ k ∈ m :: sq :: (T0 ++ T1), k ∉ b :: sp :: (S0 ++ S1))
    (hz : 0 ≤ zero) (hz2 : 0 ≤ zero2) (ht : sumP ps0 + zero + sumP ps1 = t) (hu : sumP qs0 + zero2 + sumP qs1 = u) (hu0 : u ≠ 0) (htu : t + u ≤ 9223372036854775807)
    (r1 : -9223372036854775808 ≤ least2 ∧ least2 ≤ 9223372036854775807) (r2 : -9223372036854775808 ≤ most2 ∧ most2 ≤ 9223372036854775807)
    (hl : lim = 0 ∨ (0 < lim ∧ (least2.natAbs : Int) ≤ lim ∧ (most2.natAbs : Int) ≤ lim)) (h0 : ps0.length + qs0.length ≤ 4096) (h1 : ps1.length + qs1.length ≤ 4096) :
    Calls Tryd.prog 31 #[.pointer (some ⟨b, 0, none⟩), .pointer (some ⟨m, 0, none⟩)] w fun e w' => e = .returned (.int .i64 0) ∧ ∃ U0 U1, Jn w w' b sp b0 b1 (b :: sp :: (S0 ++ S1)) U0 U1 d lim (addAll ps0 qs0) (addAll ps1 qs1) (zero + zero2) (if t = 0 then least2 else min least least2) (if t = 0 then most2 else max most most2) m (m :: sq :: (T0 ++ T1)) d lim2 qs0 qs1 zero2 least2 most2 := by
  have g0 := sumP_nonneg (ps := ps0) h.s0.gd.pos
  have g1 := sumP_nonneg (ps := ps1) h.s1.gd.pos
  have g2 := sumP_nonneg (ps := qs0) k.s0.gd.pos
  have g3 := sumP_nonneg (ps := qs1) k.s1.gd.pos
  have H := Lib.hid h
  have HO := Lib.hid k
  have HL := Lib.hid (And.intro h0 h1)
  have HAP := Lib.hid ap
  have HZ : Hid (0 ≤ zero ∧ 0 ≤ zero2 ∧ 0 ≤ t ∧ 0 ≤ u ∧ t + u ≤ 9223372036854775807 ∧ zero + zero2 ≤ 9223372036854775807) := ⟨hz, hz2, by omega, by omega, htu, by omega⟩
  have HTT := Lib.hid ht
  have HSM : Hid (sumP ps0 + sumP qs0 ≤ 9223372036854775807 ∧ sumP ps1 + sumP qs1 ≤ 9223372036854775807) := ⟨by omega, by omega⟩
  have HT1 := Lib.hid fun W (hb : Below w.heap.size w W) => htotal_at _ _ _ _ _ _ _ _ _ _ _ _ _ W (HdB.below h hb) hz (by omega)
  have HT2 := Lib.hid fun W (hb : Below w.heap.size w W) => htotal_at _ _ _ _ _ _ _ _ _ _ _ _ _ W (HdB.below k hb) hz2 (by omega)
  rw [ht] at HT1
  rw [hu] at HT2
  have HEND := Lib.hid fun W (hb : Below w.heap.size w W) => hends_any _ _ _ _ _ _ _ _ _ _ _ _ _ least2 most2 t W (HdB.below h hb) hz ht (by omega)
  have HFT := Lib.hid fun W (hb : Below w.heap.size w W) => hfits_any _ _ _ _ _ _ _ _ _ _ _ _ _ _ _ _ _ _ _ _ _ _ _ _ _ _ W (HdB.below h hb) (HdB.below k hb) h0 h1
  have HSG1 := Lib.hid fun W => sgof_any least2 W r1.1 r1.2
  have HSG2 := Lib.hid fun W => sgof_any most2 W r2.1 r2.2
  obtain ⟨lo, hlo⟩ : ∃ l, (if t = 0 then least2 else min least least2) = l := ⟨_, rfl⟩
  obtain ⟨hi, hhi⟩ : ∃ l, (if t = 0 then most2 else max most most2) = l := ⟨_, rfl⟩
  rw [hlo, hhi] at HEND
  rw [hlo, hhi]
  obtain ⟨a1, ha1⟩ : ∃ a : Int, (least2.natAbs : Int) = a := ⟨_, rfl⟩
  obtain ⟨a2, ha2⟩ : ∃ a : Int, (most2.natAbs : Int) = a := ⟨_, rfl⟩
  rw [ha1] at HSG1 hl
  rw [ha2] at HSG2 hl
  have hu1 : (u == 0) = false := beq_eq_false_iff_ne.2 hu0
  obtain ⟨q1, q2⟩ := plus2_yes (a := t) (b := u) htu
  have HP := Lib.hid (And.intro q1 q2)
  have s1 := h.at'
  have t1 := k.at'
  clear h k ap hz hz2 ht hu hu0 htu r1 r2 h0 h1 hlo hhi ha1 ha2 q1 q2 g0 g1 g2 g3
  have hLIM : Hid (lim = 0 ∨ (0 < lim ∧ decide (lim < max a1 a2) = false)) := by
    rcases hl with h | ⟨h1, h2, h3⟩
    · exact .inl h
    · exact .inr ⟨h1, decide_eq_false (by omega)⟩
  clear hl
  have f1 := s1.eight
  have l1 := s1.lt
  have f2 := t1.eight
  have l2 := t1.lt
  go_enter Tryd.func31, Tryd.ntmps31
  go_wp2
  go_quiet (fail)
  have hb0 : Below w.heap.size w (w.drewN nq) := (Below.refl _ _).drewN _
  go_wp2_with fail
  refine (HT2.out _ hb0).mono ?_
  rintro e w1 ⟨rfl, hb⟩
  have HB1 := Lib.hid (keep1 hb0 hb)
  clear hb hb0 f1 l1 f2 l2
  have t2 := t1.below HB1.out
  have s2 := s1.below HB1.out
  have f1 := s2.eight
  have l1 := s2.lt
  have f2 := t2.eight
  have l2 := t2.lt
  go_wp2_with fail
  refine (HSG1.out w1).mono ?_
  rintro e w2 ⟨rfl, rfl⟩
  go_wp2_with fail
  refine (HSG2.out w1).mono ?_
  rintro e w2 ⟨rfl, rfl⟩
  clear HSG1 HSG2
  have HST : Hid (∀ W6 w7, Below w.heap.size w W6 → HdB w7 b sp b0 b1 S0 S1 d lim ps0 ps1 zero lo hi → Frame [b] W6 w7 → Jn w w7 b sp b0 b1 (b :: sp :: (S0 ++ S1)) S0 S1 d lim ps0 ps1 zero lo hi m (m :: sq :: (T0 ++ T1)) d lim2 qs0 qs1 zero2 least2 most2) := by
    intro W6 w7 hB hH hF
    have hd : Hd w m (m :: sq :: (T0 ++ T1)) d lim2 qs0 qs1 zero2 least2 most2 := ⟨sq, m0, m1, T0, T1, rfl, HO.out⟩
    exact ⟨hH, (hd.below hB).frame hF fun k hk hm => HAP.out k hk (by simp at hm; simp [hm]), GrownS.refl _ _, (Frame.of_below hB).trans (hF.mono fun k hk => by simp at hk; simp [hk]), fun k hk => ⟨HAP.out k hk, hd.lt k hk⟩⟩
  rcases hLIM.out with rfl | ⟨hl1, hl2⟩
  all_goals
    clear hLIM
    go_wp2_with fail
    refine (HT1.out w1 HB1.out).mono ?_
    rintro e w2 ⟨rfl, hb⟩
    have HB2 := Lib.hid (keep1 HB1.out hb)
    clear hb HT1 f1 l1 f2 l2 s2 t2
    go_wp2_with fail
    refine (HT2.out w2 HB2.out).mono ?_
    rintro e w3 ⟨rfl, hb⟩
    have HB3 := Lib.hid (keep1 HB2.out hb)
    clear hb HT2 HB2
    go_wp2_with fail
    have aa := At.new w3 #[.int .u64 t, .int .u64 u] 23
    refine (plus2_any w3.heap.size t u _ (by have := HZ.out; omega) (by have := HZ.out; omega) (by have := HZ.out; omega) (by have := HZ.out; omega) (aa.cell rfl) (aa.cell rfl)).mono ?_
    rintro e w4 ⟨rfl, rfl⟩
    rw [HP.out.1, HP.out.2]
    have hB4 : Below w.heap.size w (w3.alloc (.cells #[.int .u64 t, .int .u64 u] 23)) := HB3.out.alloc HB3.out.size _
    obtain ⟨W4, hW4⟩ : ∃ W4, w3.alloc (.cells #[.int .u64 t, .int .u64 u] 23) = W4 := ⟨_, rfl⟩
    have HB4 := Lib.hid hB4
    rw [hW4] at HB4
    try rw [hW4]
    clear aa hW4 hB4
    go_wp2_with fail
    refine (HFT.out W4 HB4.out).mono ?_
    rintro e w5 ⟨rfl, hb⟩
    have HB5 := Lib.hid (keep1 HB4.out hb)
    clear hb HFT HB4 HB3
    go_wp2
    have hB6 : Below w.heap.size w w5.drew := HB5.out.drew
    obtain ⟨W6, hW6⟩ : ∃ W, w5.drew = W := ⟨_, rfl⟩
    rw [hW6] at hB6
    have HB6 := Lib.hid hB6
    clear hB6
    have t6 := t1.below HB6.out
    have hHeld : HeldS (HdW m #[.int .i64 d, .int .u64 lim2, .pointer (some ⟨sq, 0, none⟩), .pointer (some ⟨m0, 0, none⟩), .pointer (some ⟨m1, 0, none⟩), .int .u64 zero2, .int .i64 least2, .int .i64 most2]) W6 := HeldS.mk' t6
    haveI hne : Nonempty (Held (HdW m #[.int .i64 d, .int .u64 lim2, .pointer (some ⟨sq, 0, none⟩), .pointer (some ⟨m0, 0, none⟩), .pointer (some ⟨m1, 0, none⟩), .int .u64 zero2, .int .i64 least2, .int .i64 most2])) := ⟨⟨W6, t6⟩⟩
    have hfar := fun x : Held (HdW m #[.int .i64 d, .int .u64 lim2, .pointer (some ⟨sq, 0, none⟩), .pointer (some ⟨m0, 0, none⟩), .pointer (some ⟨m1, 0, none⟩), .int .u64 zero2, .int .i64 least2, .int .i64 most2]) => x.held.at.eight
    refine wp_region_noPanic ?_
    refine wp_region_held_drew (S := HeldS (HdW m #[.int .i64 d, .int .u64 lim2, .pointer (some ⟨sq, 0, none⟩), .pointer (some ⟨m0, 0, none⟩), .pointer (some ⟨m1, 0, none⟩), .int .u64 zero2, .int .i64 least2, .int .i64 most2])) (by kernel_rfl) (by rw [hW6]; exact hHeld) (fun _ => ?_)
    rw [hW6]
    clear hW6
    refine wpAnyH_run0 [true, true, true, true, true, true, true, true, true] 1 (by kernel_rfl) (by kernel_rfl) (fun _ _ _ _ h => h) (by kernel_rfl) hHeld ?_
    simp only [runOps_true, runOps_false, runOps_nil]
    repeat (first | go_big_quiet_skip | (go_big_quiet_want; go_big_quiet_op; go_big_quiet_on))
    refine wpQuiet_nil ?_
    clear hfar hne
    refine wpAnyH_ready (rs := [9]) (by kernel_rfl) (by simp) ?_
    refine AllReadyH.cons rfl (fun K hK => ?_) AllReadyH.nil
    go_simp
    go_wp2_with (go_at_call 58; refine (HEND.out W6 HB6.out).mono ?_; rintro e w7 ⟨rfl, hH, hF⟩)
    refine hK.out _ _ ?_ (fun hHeld => ?_)
    clear hK K
    · exact HeldS.mk' (hF.at t6 (fun hm => HAP.out m (by simp) (by simp at hm; simp [hm])))
    refine wpAnyH_done (by kernel_rfl) ?_ _
    refine NoPanic.normal ?_
    clear hHeld t6
    have HJ := Lib.hid (HST.out W6 w7 HB6.out hH hF)
    have s7 := hH.at'
    have f1 := s7.eight
    have l1 := s7.lt
    have x0 := index0 b0 b1
    have x1 := index1 b0 b1
    clear hH hF HEND HB5 HB6
    go_wp2
    go_loopw [11, 12, 14, 102, 114] (fun _ _ _ i _ wr => ∃ kk : Nat, ∃ V0 V1, kk ≤ 2 ∧ i = .int .i64 kk ∧ Hid (Jn w wr b sp b0 b1 (b :: sp :: (S0 ++ S1)) V0 V1 d _ (jn0 kk ps0 qs0) (jn1 kk ps1 qs1) zero lo hi m (m :: sq :: (T0 ++ T1)) d lim2 qs0 qs1 zero2 least2 most2)) (fun _ _ _ i _ _ => 2 - (intOf i).toNat)
    case atStart => exact ⟨0, S0, S1, by omega, rfl, HJ⟩
    case round =>
      clear HJ f1 l1 s7
      obtain ⟨kk, V0, V1, hkk, rfl, HJ⟩ := hrel
      rcases (by omega : kk = 0 ∨ kk = 1 ∨ kk = 2) with rfl | rfl | rfl
      · obtain ⟨sq', m0', m1', T0', T1', _, hO⟩ := HJ.out.o
        have HOO := Lib.hid hO
        obtain ⟨len, hlen⟩ : ∃ a, qs0.length = a := ⟨_, rfl⟩
        have HLEN := Lib.hid hlen
        have s9 := HJ.out.s.at'
        have t9 := hO.at'
        have f9 := s9.eight
        have l9 := s9.lt
        have g9 := t9.eight
        have m9 := t9.lt
        clear hO
        go_wp2_with fail
        refine (spairs_any m0' T0' 4096 qs0 wr HOO.out.s0).mono ?_
        rintro e w5 ⟨A, c, rfl, ho, hb⟩
        rw [hlen]
        have HI : Hid (Inn w5 w5 A qs0 V0 V0) := ⟨ho.rd, GrownS.refl _ _, fun k hk => by
          cases A with
          | none => simp [blk] at hk
          | some a =>
            simp only [blk, List.mem_singleton] at hk
            subst hk
            have := ho.base_le a rfl
            exact ⟨fun hm => by have := HJ.out.s.s0.lt _ hm; omega, this.2⟩, Nat.le_refl _⟩
        have HJ5 := Lib.hid (HJ.out.below hb)
        have hlm : len ≤ 4096 := by have := HL.out; have := HLEN.out; omega
        clear ho hb f9 l9 g9 m9 s9 t9 HOO
        clear hlen
        go_wp2
        go_loopw [14, 114] (fun _ i wi => ∃ j : Nat, ∃ U, j ≤ len ∧ i = .int .i64 j ∧ Hid (Jn w wi b sp b0 b1 (b :: sp :: (S0 ++ S1)) U V1 d _ (addAll ps0 (qs0.take j)) ps1 zero lo hi m (m :: sq :: (T0 ++ T1)) d lim2 qs0 qs1 zero2 least2 most2) ∧ Hid (Inn w5 wi A qs0 V0 U)) (fun _ i _ => len - (intOf i).toNat)
        case atStart => exact ⟨0, V0, by omega, rfl, HJ5, HI⟩
        case round =>
          obtain ⟨j, U, hj, rfl, HJ6, HI6⟩ := hrel
          clear HJ5 HI
          by_cases hjt : j < len
          · obtain ⟨g', o', rfl, hg', d1, d2⟩ := HI6.out.rd.at j (by have := HLEN.out; omega)
            have HRM := Lib.hid (join_room H.out.s0.gd HO.out.s0.gd HSM.out.1 HL.out.1 j (by have := HLEN.out; omega))
            have HRG := Lib.hid (HO.out.s0.ok _ (List.getElem_mem (show j < qs0.length by have := HLEN.out; omega))).1
            obtain ⟨⟨y1, y2⟩, hy⟩ : ∃ y, qs0[j]'(by have := HLEN.out; omega) = y := ⟨_, rfl⟩
            rw [hy] at d1 d2 HRM HRG
            dsimp only at d1 d2 HRM HRG
            clear hy
            have hba : Below wr.heap.size wr (wr.alloc (.cells #[.int .i64 y1, .int .u64 y2] 66)) := (Below.refl _ _).alloc (Nat.le_refl _) _
            have HJ7 := Lib.hid (HJ6.out.below hba)
            have HI7 := Lib.hid (HI6.out.below hba)
            clear HJ6 HI6 hba
            go_wp2_with fail
            obtain ⟨W3, hW3⟩ : ∃ W3, wr.alloc (.cells #[.int .i64 y1, .int .u64 y2] 66) = W3 := ⟨_, rfl⟩
            rw [hW3] at HJ7 HI7 ⊢
            clear hW3 d1 d2
            refine (sadd_any b0 U 4096 _ y1 y2 W3 HJ7.out.s.s0 HRM.out.2.1 HRM.out.2.2 HRG.out).mono ?_
            rintro e w8 ⟨rfl, U', hg, hS, hF⟩
            rw [HRM.out.1.1]
            rw [HRM.out.1.2] at hS
            have HJ8 := Lib.hid (HJ7.out.step0 hg hS hF)
            have HI8 := Lib.hid (HI7.out.step hg hF)
            clear hg hS hF HJ7 HI7 HRM
            go_wp2
            go_roundw
            case rel => exact ⟨j + 1, U', by omega, by simp, HJ8, HI8⟩
            case measure => simp [intOf]; omega
          · obtain rfl : j = len := by omega
            have HJ8 := HJ6.out
            rw [List.take_of_length_le (by have := HLEN.out; omega)] at HJ8
            replace HJ8 := Lib.hid HJ8
            clear HJ6 HI6
            go_wp2
            go_roundw
            case rel => exact ⟨1, U, V1, by omega, rfl, HJ8⟩
            case measure => simp [intOf]
      · obtain ⟨sq', m0', m1', T0', T1', _, hO⟩ := HJ.out.o
        have HOO := Lib.hid hO
        obtain ⟨len, hlen⟩ : ∃ a, qs1.length = a := ⟨_, rfl⟩
        have HLEN := Lib.hid hlen
        have s9 := HJ.out.s.at'
        have t9 := hO.at'
        have f9 := s9.eight
        have l9 := s9.lt
        have g9 := t9.eight
        have m9 := t9.lt
        clear hO
        go_wp2_with fail
        refine (spairs_any m1' T1' 4096 qs1 wr HOO.out.s1).mono ?_
        rintro e w5 ⟨A, c, rfl, ho, hb⟩
        rw [hlen]
        have HI : Hid (Inn w5 w5 A qs1 V1 V1) := ⟨ho.rd, GrownS.refl _ _, fun k hk => by
          cases A with
          | none => simp [blk] at hk
          | some a =>
            simp only [blk, List.mem_singleton] at hk
            subst hk
            have := ho.base_le a rfl
            exact ⟨fun hm => by have := HJ.out.s.s1.lt _ hm; omega, this.2⟩, Nat.le_refl _⟩
        have HJ5 := Lib.hid (HJ.out.below hb)
        have hlm : len ≤ 4096 := by have := HL.out; have := HLEN.out; omega
        clear ho hb f9 l9 g9 m9 s9 t9 HOO
        clear hlen
        go_wp2
        go_loopw [14, 114] (fun _ i wi => ∃ j : Nat, ∃ U, j ≤ len ∧ i = .int .i64 j ∧ Hid (Jn w wi b sp b0 b1 (b :: sp :: (S0 ++ S1)) V0 U d _ (addAll ps0 qs0) (addAll ps1 (qs1.take j)) zero lo hi m (m :: sq :: (T0 ++ T1)) d lim2 qs0 qs1 zero2 least2 most2) ∧ Hid (Inn w5 wi A qs1 V1 U)) (fun _ i _ => len - (intOf i).toNat)
        case atStart => exact ⟨0, V1, by omega, rfl, HJ5, HI⟩
        case round =>
          obtain ⟨j, U, hj, rfl, HJ6, HI6⟩ := hrel
          clear HJ5 HI
          by_cases hjt : j < len
          · obtain ⟨g', o', rfl, hg', d1, d2⟩ := HI6.out.rd.at j (by have := HLEN.out; omega)
            have HRM := Lib.hid (join_room H.out.s1.gd HO.out.s1.gd HSM.out.2 HL.out.2 j (by have := HLEN.out; omega))
            have HRG := Lib.hid (HO.out.s1.ok _ (List.getElem_mem (show j < qs1.length by have := HLEN.out; omega))).1
            obtain ⟨⟨y1, y2⟩, hy⟩ : ∃ y, qs1[j]'(by have := HLEN.out; omega) = y := ⟨_, rfl⟩
            rw [hy] at d1 d2 HRM HRG
            dsimp only at d1 d2 HRM HRG
            clear hy
            have hba : Below wr.heap.size wr (wr.alloc (.cells #[.int .i64 y1, .int .u64 y2] 66)) := (Below.refl _ _).alloc (Nat.le_refl _) _
            have HJ7 := Lib.hid (HJ6.out.below hba)
            have HI7 := Lib.hid (HI6.out.below hba)
            clear HJ6 HI6 hba
            go_wp2_with fail
            obtain ⟨W3, hW3⟩ : ∃ W3, wr.alloc (.cells #[.int .i64 y1, .int .u64 y2] 66) = W3 := ⟨_, rfl⟩
            rw [hW3] at HJ7 HI7 ⊢
            clear hW3 d1 d2
            refine (sadd_any b1 U 4096 _ y1 y2 W3 HJ7.out.s.s1 HRM.out.2.1 HRM.out.2.2 HRG.out).mono ?_
            rintro e w8 ⟨rfl, U', hg, hS, hF⟩
            rw [HRM.out.1.1]
            rw [HRM.out.1.2] at hS
            have HJ8 := Lib.hid (HJ7.out.step1 hg hS hF)
            have HI8 := Lib.hid (HI7.out.step hg hF)
            clear hg hS hF HJ7 HI7 HRM
            go_wp2
            go_roundw
            case rel => exact ⟨j + 1, U', by omega, by simp, HJ8, HI8⟩
            case measure => simp [intOf]; omega
          · obtain rfl : j = len := by omega
            have HJ8 := HJ6.out
            rw [List.take_of_length_le (by have := HLEN.out; omega)] at HJ8
            replace HJ8 := Lib.hid HJ8
            clear HJ6 HI6
            go_wp2
            go_roundw
            case rel => exact ⟨2, V0, U, by omega, rfl, HJ8⟩
            case measure => simp [intOf]
      · obtain ⟨sq', m0', m1', T0', T1', _, hO⟩ := HJ.out.o
        have s9 := HJ.out.s.at'.drew
        have t9 := hO.at'.drew
        have f9 := s9.eight
        have l9 := s9.lt
        have g9 := t9.eight
        have m9 := t9.lt
        have HW : Hid (IntKind.u64.wrap (zero + zero2) = zero + zero2) := wrap_in (by have := HZ.out; omega)
        have HFIN : Hid (∀ W, Below wr.heap.size wr W → Jn w (W.setCell ⟨b, 5, none⟩ (.int .u64 (zero + zero2))) b sp b0 b1 (b :: sp :: (S0 ++ S1)) V0 V1 d _ (addAll ps0 qs0) (addAll ps1 qs1) (zero + zero2) lo hi m (m :: sq :: (T0 ++ T1)) d lim2 qs0 qs1 zero2 least2 most2) := fun W hb => by
          have h1 := HJ.out.below hb
          exact ⟨h1.s.set (zero' := zero + zero2) (least' := lo) (most' := hi) 5 _ (h1.s.at'.set_any 5 _ rfl), h1.o.frame (Frame.set [b] W b 5 _ (by simp)) fun k hk hm => h1.out k hk (by simp at hm; simp [hm]), h1.gr, h1.fr.setc (.inl (by simp)) 5 _, h1.ap⟩
        clear hO s9 t9
        go_wp2
        go_region
        rw [HW.out]
        have HF2 := Lib.hid ((HFIN.out wr (Below.refl _ _)).below (Below.refl _ _).drew)
        clear HFIN HJ f9 l9 g9 m9
        go_wp2
        go_ret
        exact ⟨rfl, V0, V1, HF2.out⟩
/-- Sketches of values. -/
theorem hjoin_v (b : Nat) (S : List Nat) (d lim : Int) (l : List (Int × Int)) (m : Nat) (T : List Nat) (lim2 : Int) (l2 : List (Int × Int)) (w : World) (h : HdV w b S d lim l) (k : HdV w m T d lim2 l2) (ap : Apart T S) (hv : VOk l) (kv : VOk l2) (hs : sumP l + sumP l2 ≤ 9223372036854775807)
    (hl : lim = 0 ∨ (0 < lim ∧ ((eLow l2).natAbs : Int) ≤ lim ∧ ((eHigh l2).natAbs : Int) ≤ lim)) (hn : l.length + l2.length ≤ 4096) (hne : l2 ≠ []) :
    Calls Tryd.prog 31 #[.pointer (some ⟨b, 0, none⟩), .pointer (some ⟨m, 0, none⟩)] w fun e w' => e = .returned (.int .i64 0) ∧ HpvR b S d lim (l ++ l2) w w' ∧ HdV w' m T d lim2 l2 := by
  obtain ⟨sp, b0, b1, S0, S1, rfl, h⟩ := h
  obtain ⟨sq, m0, m1, T0, T1, rfl, k⟩ := k
  obtain ⟨t1, t2⟩ := hv.total (part := partD d)
  obtain ⟨u1, u2⟩ := kv.total (part := partD d)
  have l0 := rowV_len (part := partD d) (below := true) (l := l)
  have l1 := rowV_len (part := partD d) (below := false) (l := l)
  have k0 := rowV_len (part := partD d) (below := true) (l := l2)
  have k1 := rowV_len (part := partD d) (below := false) (l := l2)
  obtain ⟨⟨v, mv, ev⟩, ⟨v', mv', ev'⟩⟩ := eLow_mem hne
  have r1 := (kv.ok v mv).1
  have r2 := (kv.ok v' mv').1
  rw [ev] at r1
  rw [ev'] at r2
  have hu0 : sumP l2 ≠ 0 := fun e => hne (kv.empty.1 e)
  obtain ⟨e1, e2⟩ := eLow_app hv hne
  refine (hjoin_any _ _ _ _ _ _ _ _ _ _ _ _ _ _ _ _ _ _ _ _ _ _ _ _ _ _ _ w h k ap t2 u2 t1 u1 hu0 hs r1 r2 hl (by omega) (by omega)).mono ?_
  rintro e w' ⟨rfl, U0, U1, hJ⟩
  refine ⟨rfl, ⟨b :: sp :: (U0 ++ U1), hJ.gr, ?_, hJ.fr⟩, hJ.o⟩
  unfold HdV
  rw [rowV_app hv.pos kv.pos (by omega), rowV_app hv.pos kv.pos (by omega), zeroV_app, e1, e2]
  exact ⟨sp, b0, b1, U0, U1, rfl, hJ.s⟩
set_option maxRecDepth 100000 in
set_option maxHeartbeats 1000000 in
theorem hjoin_empty (b : Nat) (S : List Nat) (d lim : Int) (l : List (Int × Int)) (m : Nat) (T : List Nat) (lim2 : Int) (w : World) (h : HdV w b S d lim l) (k : HdV w m T d lim2 []) :
    Calls Tryd.prog 31 #[.pointer (some ⟨b, 0, none⟩), .pointer (some ⟨m, 0, none⟩)] w fun e w' => e = .returned (.int .i64 0) ∧ Below w.heap.size w w' := by
  have HT := Lib.hid fun W (hb : Below w.heap.size w W) => htotal_v m T d lim2 [] W (k.below hb) VOk.nil
  rw [sumP_nil] at HT
  obtain ⟨sp, b0, b1, S0, S1, rfl, h⟩ := h
  obtain ⟨sq, m0, m1, T0, T1, rfl, k⟩ := k
  have f1 := h.at'.eight
  have l1 := h.at'.lt
  have f2 := k.at'.eight
  have l2 := k.at'.lt
  clear h k
  go_enter Tryd.func31, Tryd.ntmps31
  go_wp2
  go_quiet (fail)
  have hb0 : Below w.heap.size w (w.drewN nq) := (Below.refl _ _).drewN _
  go_wp2_with fail
  refine (HT.out _ hb0).mono ?_
  rintro e w1 ⟨rfl, hb⟩
  have HB1 := Lib.hid (keep1 hb0 hb)
  clear hb hb0 f1 l1 f2 l2 HT
  go_wp2
  go_ret
  exact ⟨rfl, HB1.out⟩
set_option maxRecDepth 100000 in
set_option maxHeartbeats 1000000 in
theorem hjoin_match (b : Nat) (S : List Nat) (d lim : Int) (l : List (Int × Int)) (m : Nat) (T : List Nat) (d2 lim2 : Int) (l2 : List (Int × Int)) (w : World) (h : HdV w b S d lim l) (k : HdV w m T d2 lim2 l2) (hd : d ≠ d2) :
    Calls Tryd.prog 31 #[.pointer (some ⟨b, 0, none⟩), .pointer (some ⟨m, 0, none⟩)] w fun e w' => e = .returned (.int .i64 8) ∧ Below w.heap.size w w' := by
  obtain ⟨sp, b0, b1, S0, S1, rfl, h⟩ := h
  obtain ⟨sq, m0, m1, T0, T1, rfl, k⟩ := k
  have f1 := h.at'.eight
  have l1 := h.at'.lt
  have f2 := k.at'.eight
  have l2 := k.at'.lt
  have hdd : (d != d2) = true := bne_iff_ne.2 hd
  clear h k
  go_enter Tryd.func31, Tryd.ntmps31
  go_wp2
  go_quiet (fail)
  have hb0 : Below w.heap.size w (w.drewN nq) := (Below.refl _ _).drewN _
  go_wp2
  go_ret
  exact ⟨rfl, hb0⟩
set_option maxRecDepth 100000 in
set_option maxHeartbeats 1000000 in
theorem hjoin_range (b : Nat) (S : List Nat) (d lim : Int) (l : List (Int × Int)) (m : Nat) (T : List Nat) (lim2 : Int) (l2 : List (Int × Int)) (w : World) (h : HdV w b S d lim l) (k : HdV w m T d lim2 l2) (kv : VOk l2) (hne : l2 ≠ [])
    (hl : 0 < lim) (hr : lim < (eLow l2).natAbs ∨ lim < (eHigh l2).natAbs) :
    Calls Tryd.prog 31 #[.pointer (some ⟨b, 0, none⟩), .pointer (some ⟨m, 0, none⟩)] w fun e w' => e = .returned (.int .i64 7) ∧ Below w.heap.size w w' := by
  have HT := Lib.hid fun W (hb : Below w.heap.size w W) => htotal_v m T d lim2 l2 W (k.below hb) kv
  obtain ⟨sp, b0, b1, S0, S1, rfl, h⟩ := h
  obtain ⟨sq, m0, m1, T0, T1, rfl, k⟩ := k
  obtain ⟨⟨v, mv, ev⟩, ⟨v', mv', ev'⟩⟩ := eLow_mem hne
  have r1 := (kv.ok v mv).1
  have r2 := (kv.ok v' mv').1
  rw [ev] at r1
  rw [ev'] at r2
  have hu0 : (sumP l2 == 0) = false := beq_eq_false_iff_ne.2 fun e => hne (kv.empty.1 e)
  obtain ⟨u, hu⟩ : ∃ u, sumP l2 = u := ⟨_, rfl⟩
  rw [hu] at HT hu0
  have HSG1 := Lib.hid fun W => sgof_any (eLow l2) W r1.1 r1.2
  have HSG2 := Lib.hid fun W => sgof_any (eHigh l2) W r2.1 r2.2
  have s1 := h.at'
  have t1 := k.at'
  obtain ⟨lo, hlo⟩ : ∃ l, eLow l2 = l := ⟨_, rfl⟩
  obtain ⟨hi, hhi⟩ : ∃ l, eHigh l2 = l := ⟨_, rfl⟩
  rw [hlo, hhi] at t1
  rw [hlo] at HSG1 hr
  rw [hhi] at HSG2 hr
  obtain ⟨a1, ha1⟩ : ∃ a : Int, (lo.natAbs : Int) = a := ⟨_, rfl⟩
  obtain ⟨a2, ha2⟩ : ∃ a : Int, (hi.natAbs : Int) = a := ⟨_, rfl⟩
  rw [ha1] at HSG1 hr
  rw [ha2] at HSG2 hr
  have hr' : decide (lim < max a1 a2) = true := decide_eq_true (by omega)
  have f1 := s1.eight
  have l1 := s1.lt
  have f2 := t1.eight
  have l2' := t1.lt
  clear h k kv hne hr mv mv' ev ev' r1 r2 hu hlo hhi ha1 ha2
  go_enter Tryd.func31, Tryd.ntmps31
  go_wp2
  go_quiet (fail)
  have hb0 : Below w.heap.size w (w.drewN nq) := (Below.refl _ _).drewN _
  go_wp2_with fail
  refine (HT.out _ hb0).mono ?_
  rintro e w1 ⟨rfl, hb⟩
  have HB1 := Lib.hid (keep1 hb0 hb)
  clear hb hb0 f1 l1 f2 l2' HT
  have t2 := t1.below HB1.out
  have s2 := s1.below HB1.out
  have f1 := s2.eight
  have l1 := s2.lt
  have f2 := t2.eight
  have l2' := t2.lt
  go_wp2_with fail
  refine (HSG1.out w1).mono ?_
  rintro e w2 ⟨rfl, rfl⟩
  go_wp2_with fail
  refine (HSG2.out w1).mono ?_
  rintro e w2 ⟨rfl, rfl⟩
  clear HSG1 HSG2
  go_wp2
  go_ret
  exact ⟨rfl, HB1.out⟩
end Go.Proofs.YtnkkdciecjhpoaaDoor
