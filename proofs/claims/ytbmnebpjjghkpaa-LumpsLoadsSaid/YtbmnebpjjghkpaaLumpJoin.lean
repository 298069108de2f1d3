/- Contracts of package lumps: Join, Ends. -/
import Derived.Test.YtbmnebpjjghkpaaProg
import Derived.Test.YtbmnebpjjghkpaaLumpPut
namespace Go.Proofs.Ytbmnebpjjghkpaa
open Go.RowKit

/-- The greatest value. -/
def topL (h : Int) (ls : List Lu) : Int := ls.foldl (fun m l => max m l.2.2) h
theorem topL_take (h : Int) (ls : List Lu) (k : Nat) (hk : k < ls.length) : topL h (ls.take (k + 1)) = max (topL h (ls.take k)) (ls[k]'hk).2.2 := by
  unfold topL; rw [List.take_succ_eq_append_getElem hk, List.foldl_append]; rfl
theorem knil_ends (w : World) : Calls Try.prog 24 #[.pointer none] w fun e w' => e = .returned (.tuple #[.int .i64 0, .int .i64 0, .bool false]) ∧ w = w' := by
  go_enter Try.func24, Try.ntmps24
  go_wp2
  go_ret3
  exact ⟨rfl, rfl⟩
theorem kends_empty (b : Nat) (S : List Nat) (most : Int) (w : World) (h : Sk w b S most []) :
    Calls Try.prog 24 #[.pointer (some ⟨b, 0, none⟩)] w fun e w' => e = .returned (.tuple #[.int .i64 0, .int .i64 0, .bool false]) ∧ w = w' := by
  obtain ⟨A, c, _, hB⟩ := h.r
  have f1 := hB.at'.three
  clear h hB
  go_enter Try.func24, Try.ntmps24
  go_wp2
  go_ret3
  exact ⟨rfl, rfl⟩
set_option maxRecDepth 100000 in
theorem kends_any (b : Nat) (S : List Nat) (most : Int) (ls : List Lu) (w : World) (h : Sk w b S most ls) (hl : ls.length ≤ 1048576) (h0 : ls ≠ []) :
    Calls Try.prog 24 #[.pointer (some ⟨b, 0, none⟩)] w fun e w' => e = .returned (.tuple #[.int .i64 (lget ls 0).2.1, .int .i64 (topL (lget ls 0).2.2 ls), .bool true]) ∧ Below w.heap.size w w' := by
  have hlp := List.length_pos_iff.2 h0
  obtain ⟨A, c, _, hB⟩ := h.r
  have s1 := hB.at'
  have HR := Lib.hid hB.own.rd
  obtain ⟨g, o, rfl, hg, c1, c2, c3⟩ := hB.own.rd.at' 0 hlp
  obtain ⟨len, hlen⟩ : ∃ n, ls.length = n := ⟨_, rfl⟩
  have HLN := Lib.hid hlen
  rw [hlen] at s1 hlp hl
  obtain ⟨y2, hy2⟩ : ∃ y, (lget ls 0).2.1 = y := ⟨_, rfl⟩
  obtain ⟨y3, hy3⟩ : ∃ y, (lget ls 0).2.2 = y := ⟨_, rfl⟩
  rw [hy2] at c2 ⊢
  rw [hy3] at c3 ⊢
  obtain ⟨tt, htt⟩ : ∃ y, topL y3 ls = y := ⟨_, rfl⟩
  rw [htt]
  have HTT := Lib.hid htt
  rw [Nat.zero_mul, Nat.add_zero] at c2 c3
  have n0 : ((len : Int) == 0) = false := beq_eq_false_iff_ne.2 (by omega)
  have k1 : (0 : Int) < len := by omega
  have f1 := s1.three
  have l1 := s1.lt
  have HS := Lib.hid s1
  have HC := Lib.hid (And.intro c2 (And.intro c3 hg))
  clear h hB hlen hy2 hy3 h0 c1 s1 htt
  go_enter Try.func24, Try.ntmps24
  go_wp2
  go_loopw [5, 7, 30] (fun v _ i wr => ∃ k : Nat, k ≤ len ∧ i = .int .i64 k ∧ v = .int .i64 (topL y3 (ls.take k)) ∧ Below w.heap.size w wr) (fun _ _ i _ => len - (intOf i).toNat)
  case atStart => exact ⟨0, by omega, rfl, rfl, Below.refl _ _⟩
  case round =>
    obtain ⟨k, hk, rfl, rfl, hB⟩ := hrel
    have zB := hB.size
    by_cases hlt : k < len
    · obtain ⟨g', o', e, hg', d1, d2, d3⟩ := (HR.out.below hB).at k (by have := HLN.out; omega)
      cases e
      have HT := Lib.hid (topL_take y3 ls k (by have := HLN.out; omega))
      obtain ⟨⟨z1, z2, z3⟩, hz⟩ : ∃ z, ls[k]'(by have := HLN.out; omega) = z := ⟨_, rfl⟩
      rw [hz] at d1 d2 d3 HT
      dsimp only at d1 d2 d3 HT
      obtain ⟨t, ht⟩ : ∃ t, topL y3 (ls.take k) = t := ⟨_, rfl⟩
      rw [ht] at HT ⊢
      clear hz ht HR f1 l1 c2 c3
      go_wp2
      go_roundw
      case rel => exact ⟨k + 1, by omega, by simp, by rw [HT.out], (by repeat (first | with_reducible assumption | with_reducible exact Below.refl _ _ | with_reducible refine Below.drew ?_ | with_reducible refine Below.drewN ?_ _ | with_reducible refine Below.setCell ?_ (by first | omega | (simp; done) | (simp; omega)) _ | with_reducible refine Below.alloc ?_ (by first | omega | (simp; done) | (simp; omega) | (simp [World.setCell]; omega)) _))⟩
      case measure => simp [intOf]; omega
    · obtain rfl : k = len := by omega
      have sW := HS.out.below hB
      have fW := sW.three
      have lW := sW.lt
      have e2 := cellB hB HC.out.2.2 HC.out.1
      have e3 := cellB hB HC.out.2.2 HC.out.2.1
      rw [List.take_of_length_le (by have := HLN.out; omega), HTT.out]
      clear HR f1 l1 sW c2 c3
      go_wp2
      go_ret3
      exact ⟨rfl, hB⟩
/-- Many lumps more. -/
def laidAll (ls os : List Lu) : List Lu := os.foldl laid ls
theorem laidAll_take (ls os : List Lu) (k : Nat) (hk : k < os.length) : laidAll ls (os.take (k + 1)) = laid (laidAll ls (os.take k)) (os[k]'hk) := by
  unfold laidAll; rw [List.take_succ_eq_append_getElem hk, List.foldl_append]; rfl
theorem laidAll_ok : ∀ {os ls : List Lu}, GdL ls → GdL os → rngL ls → rngL os → GdL (laidAll ls os) ∧ rngL (laidAll ls os) ∧ sumN (laidAll ls os) = sumN ls + sumN os ∧ (laidAll ls os).length ≤ ls.length + os.length
  | [], ls, h, _, hr, _ => ⟨h, hr, by rw [sumN_nil, Int.add_zero]; rfl, Nat.le_refl _⟩
  | x :: os, ls, h, k, hr, kr => by
    obtain ⟨a, b, c, d⟩ := laidAll_ok (os := os) (ls := laid ls x) (laid_gd h (k.pos x (by simp)) (k.rng x (by simp))) k.tail (rngL_laid hr (kr x (by simp))) (fun y hy => kr y (by simp [hy]))
    refine ⟨a, b, ?_, ?_⟩
    · show sumN (laidAll (laid ls x) os) = _
      rw [c, sumN_laid, sumN_cons]; omega
    · have := laid_len (ls := ls) (l := x)
      show (laidAll (laid ls x) os).length ≤ _
      rw [List.length_cons]; omega
theorem gdL_take {ls : List Lu} (h : GdL ls) (k : Nat) : GdL (ls.take k) := h.sub (List.take_sublist _ _)
theorem rngL_take {ls : List Lu} (h : rngL ls) (k : Nat) : rngL (ls.take k) := fun x hx => h x (List.mem_of_mem_take hx)
/-- A round of Join. -/
structure KMer (w wr : World) (b : Nat) (S S' : List Nat) (n : Nat) (most : Int) (ks : List Lu) (A : Option Addr) (os : List Lu) : Prop where
  sk : SkR wr b S' most ks (sumN ks)
  gr : GrownS S S' n
  fr : Frame S w wr
  rd : RdL wr A os
  ap : ∀ k ∈ blk A, k ∉ S'
theorem KMer.step {w wr w' : World} {b : Nat} {S S' : List Nat} {n : Nat} {most : Int} {l : Lu} {ks : List Lu} {A : Option Addr} {os : List Lu} (h : KMer w wr b S S' n most ks A os) (hn : n ≤ wr.heap.size) (hw : w.heap.size ≤ n) (hA : ∀ k ∈ blk A, k < wr.heap.size)
    (hL : LayR b S' most ks (sumN ks) l wr w') : ∃ S2, KMer w w' b S S2 n most (laid ks l) A os := by
  obtain ⟨S2, g2, hl, hF⟩ := hL
  have hg : GrownS S S2 n := fun k hk => by
    rcases g2 k hk with h1 | h1
    · exact h.gr k h1
    · exact .inr (Nat.le_trans hn h1)
  refine ⟨S2, by rw [sumN_laid]; exact hl, hg, ⟨hF.os.trans h.fr.os, hF.tape.trans h.fr.tape, hF.output.trans h.fr.output, Nat.le_trans h.fr.size hF.size, fun k hk hkS => ?_⟩, ?_, ?_⟩
  · refine (hF.block k (Nat.lt_of_lt_of_le hk h.fr.size) fun hk' => ?_).trans (h.fr.block k hk hkS)
    rcases h.gr k hk' with h1 | h1
    · exact hkS h1
    · omega
  · refine Frame.rd hF h.rd fun a e => ?_
    exact h.ap _ (by subst e; simp [blk])
  · intro k hk hk'
    rcases g2 k hk' with h1 | h1
    · exact h.ap k hk h1
    · have := hA k hk; omega
theorem kjoin_nil (b : Nat) (w : World) : Calls Try.prog 19 #[.pointer (some ⟨b, 0, none⟩), .pointer none] w fun e w' => e = .returned (.int .i64 2) ∧ w = w' := by
  go_enter Try.func19, Try.ntmps19
  go_wp2
  go_ret
  exact ⟨rfl, rfl⟩
theorem knil_join (w : World) : Calls Try.prog 19 #[.pointer none, .pointer none] w fun e w' => e = .returned (.int .i64 2) ∧ w = w' := by
  go_enter Try.func19, Try.ntmps19
  go_wp2
  go_ret
  exact ⟨rfl, rfl⟩
set_option maxRecDepth 100000 in
theorem kjoin_match (b o : Nat) (S So : List Nat) (most most' : Int) (ls os : List Lu) (w : World) (h : Sk w b S most ls) (k : Sk w o So most' os) (hne : most ≠ most') :
    Calls Try.prog 19 #[.pointer (some ⟨b, 0, none⟩), .pointer (some ⟨o, 0, none⟩)] w fun e w' => e = .returned (.int .i64 8) ∧ Below w.heap.size w w' := by
  obtain ⟨A, c, _, hB⟩ := h.r
  obtain ⟨A', c', _, kB⟩ := k.r
  have f1 := hB.at'.three
  have g1 := kB.at'.three
  have n1 : (most == most') = false := beq_eq_false_iff_ne.2 hne
  clear h k hB kB
  go_enter Try.func19, Try.ntmps19
  go_wp2
  go_quiet (fail)
  go_wp2
  go_ret
  exact ⟨rfl, (Below.refl _ _).drewN _⟩
set_option maxRecDepth 100000 in
set_option maxHeartbeats 2000000 in
theorem kjoin_any (b o : Nat) (S So : List Nat) (most : Int) (ls os : List Lu) (w : World) (h : Sk w b S most ls) (k : Sk w o So most os) (hm : 2 ≤ most) (hl : ls.length ≤ 100000) (hl' : os.length ≤ 100000) (hs : sumN ls + sumN os ≤ 9223372036854775807) :
    Calls Try.prog 19 #[.pointer (some ⟨b, 0, none⟩), .pointer (some ⟨o, 0, none⟩)] w fun e w' => e = .returned (.int .i64 0) ∧ PutR b S most (press most (laidAll ls os)) w w' := by
  have H := Lib.hid h
  have K' := Lib.hid k
  have HM := Lib.hid hm
  have HALL := Lib.hid (laidAll_ok h.gd k.gd h.ok.rng k.ok.rng)
  have HS := Lib.hid (And.intro hs (And.intro h.sum0 k.sum0))
  have HLL := Lib.hid (And.intro hl hl')
  obtain ⟨A, c, _, hB⟩ := h.r
  obtain ⟨A', c', _, kB⟩ := k.r
  have s1 := hB.at'
  have t1 := kB.at'
  obtain ⟨n, hn⟩ : ∃ n, os.length = n := ⟨_, rfl⟩
  have HN := Lib.hid hn
  have hlen : n ≤ 100000 := by omega
  have f1 := s1.three
  have g1 := t1.three
  obtain ⟨p1, p2⟩ := plus2_yes (a := sumN ls) (b := sumN os) hs
  have HP := Lib.hid (And.intro p1 p2)
  clear h k hB kB hs p1 p2 hn hl hl' hm
  go_enter Try.func19, Try.ntmps19
  go_wp2
  go_quiet (fail)
  have hbD : Below w.heap.size w (w.drewN nq) := (Below.refl _ _).drewN _
  obtain ⟨W0, hW0⟩ : ∃ W0, w.drewN nq = W0 := ⟨_, rfl⟩
  rw [hW0] at hbD ⊢
  clear hW0
  replace s1 := (s1.below hbD).drew
  replace t1 := (t1.below hbD).drew
  have hb1 := hbD.drew
  clear f1 g1 hbD
  go_wp2
  obtain ⟨W1, hW1⟩ : ∃ W1, W0.drew = W1 := ⟨_, rfl⟩
  rw [hW1] at s1 t1 hb1
  haveI : Nonempty (Held fun w' => At w' b #[.int .i64 most, .slice A ls.length c, .int .u64 (sumN ls)] 75 ∧ At w' o #[.int .i64 most, .slice A' os.length c', .int .u64 (sumN os)] 75) := ⟨⟨W1, s1, t1⟩⟩
  have hfar1 := fun z : Held (fun w' => At w' b #[.int .i64 most, .slice A ls.length c, .int .u64 (sumN ls)] 75 ∧ At w' o #[.int .i64 most, .slice A' os.length c', .int .u64 (sumN os)] 75) => z.held.1.three
  have hfar2 := fun z : Held (fun w' => At w' b #[.int .i64 most, .slice A ls.length c, .int .u64 (sumN ls)] 75 ∧ At w' o #[.int .i64 most, .slice A' os.length c', .int .u64 (sumN os)] 75) => z.held.2.three
  refine wp_region_noPanic ?_
  refine wp_region_held_drew (S := HeldS fun w' => At w' b #[.int .i64 most, .slice A ls.length c, .int .u64 (sumN ls)] 75 ∧ At w' o #[.int .i64 most, .slice A' os.length c', .int .u64 (sumN os)] 75) (by kernel_rfl) (HeldS.mk' (hW1 ▸ ⟨s1, t1⟩)) (fun hHeld => ?_)
  rw [hW1] at hHeld ⊢
  clear hW1
  refine wpAnyH_run0 [true, true, true, true, true, true, true, true] 7 (by kernel_rfl) (by kernel_rfl) (fun _ _ _ _ h => h) (by kernel_rfl) hHeld ?_
  simp only [runOps_true, runOps_false, runOps_nil]
  repeat (first | go_big_quiet_skip | (go_big_quiet_want; go_big_quiet_op; go_big_quiet_on))
  refine wpQuiet_nil ?_
  clear hfar1 hfar2
  have hbV : Below W1.heap.size W1 (W1.alloc (.cells #[.int .u64 (sumN ls), .int .u64 (sumN os)] 39)) := (Below.refl _ _).alloc (Nat.le_refl _) _
  have aV := At.new W1 #[.int .u64 (sumN ls), .int .u64 (sumN os)] 39
  have HV := Lib.hid (And.intro (s1.below hbV) (t1.below hbV))
  have hb2 := keep1 hb1 hbV
  refine wpAnyH_ready (rs := [8]) (by kernel_rfl) (by simp) ?_
  refine AllReadyH.cons rfl (fun K hK => ?_) (AllReadyH.nil)
  go_simp
  refine hK.out _ _ (HeldS.mk' HV.out) (fun hHeld => ?_)
  clear hK K
  refine wpAnyH_ready (rs := [9]) (by kernel_rfl) (by simp) ?_
  refine AllReadyH.cons rfl (fun K hK => ?_) AllReadyH.nil
  go_simp
  go_wp2_with (go_at_call 32; refine (plus2_any W1.heap.size (sumN ls) (sumN os) _ (by have := HS.out; omega) (by have := HS.out; omega) (by have := HS.out; omega) (by have := HS.out; omega) (aV.cell rfl) (aV.cell rfl)).mono ?_; rintro e w2 ⟨rfl, rfl⟩; rw [HP.out.1, HP.out.2])
  refine hK.out _ _ ?_ (fun hHeld => ?_)
  clear hK K
  · exact HeldS.mk' HV.out
  refine wpAnyH_run0 [false, false, false, false, false, false, false, false, false, false, true, true, true, true, true] 0 (by kernel_rfl) (by kernel_rfl) (fun _ _ _ _ h => h) (by kernel_rfl) hHeld ?_
  simp only [runOps_true, runOps_false, runOps_nil]
  repeat (first | go_big_quiet_skip | (go_big_quiet_want; go_big_quiet_op; go_big_quiet_on))
  refine wpQuiet_nil ?_
  refine wpAnyH_done (by kernel_rfl) ?_ _
  obtain ⟨W2, hW2⟩ : ∃ W2, W1.alloc (.cells #[.int .u64 (sumN ls), .int .u64 (sumN os)] 39) = W2 := ⟨_, rfl⟩
  rw [hW2] at hb2 ⊢
  refine NoPanic.normal ?_
  clear hW2 hbV aV HV s1 t1 hb1
  go_wp2_with fail
  refine (klumps_any o So most _ os W2 (K'.out.r.below hb2) (by have := HLL.out; omega)).mono ?_
  rintro e w5 ⟨A5, cap, rfl, ho, hb⟩
  rw [HN.out]
  have hb5 := keep1 hb2 hb
  have z5 := hb5.size
  have HA : Hid (∀ k ∈ blk A5, w.heap.size ≤ k ∧ k < w5.heap.size) := fun k hk => by
    cases A5 with
    | none => simp [blk] at hk
    | some a => simp only [blk, List.mem_singleton] at hk; subst hk; have := ho.base_le a rfl; have := hb2.size; omega
  have HMR : Hid (KMer w w5 b S S w5.heap.size most ls A5 os) := ⟨H.out.r.below hb5, GrownS.refl _ _, Frame.of_below hb5, ho.rd, fun k hk hk' => by have := (HA.out k hk).1; have := H.out.lt k hk'; omega⟩
  obtain ⟨B5, hB5⟩ : ∃ B5, w5.heap.size = B5 := ⟨_, rfl⟩
  have HZ : Hid (w.heap.size ≤ B5 ∧ B5 ≤ w5.heap.size) := by show _ ∧ _; omega
  rw [hB5] at HMR HA
  clear hb ho hb2 hb5 z5 hB5
  go_wp2
  go_loopw [8, 44] (fun _ i wr => ∃ j : Nat, ∃ S2, j ≤ n ∧ i = .int .i64 j ∧ Hid (KMer w wr b S S2 B5 most (laidAll ls (os.take j)) A5 os ∧ B5 ≤ wr.heap.size)) (fun _ i _ => n - (intOf i).toNat)
  case atStart => exact ⟨0, S, by omega, rfl, by rw [List.take_zero]; exact ⟨HMR.out, HZ.out.2⟩⟩
  case round =>
    obtain ⟨j, S2, hj, rfl, HJ⟩ := hrel
    clear HMR
    by_cases hjt : j < n
    · obtain ⟨g, o', rfl, hg, c1, c2', c3'⟩ := HJ.out.1.rd.at j (by have := HN.out; omega)
      have HC := Lib.hid (laidAll_take ls os j (by have := HN.out; omega))
      have HX := Lib.hid (K'.out.gd.pos _ (List.getElem_mem (show j < os.length by have := HN.out; omega)))
      have HT := Lib.hid (laidAll_ok H.out.gd (gdL_take K'.out.gd j) H.out.ok.rng (rngL_take K'.out.ok.rng j))
      have HT2 := Lib.hid (sumN_take os j (by have := HN.out; omega))
      have HT3 := Lib.hid (sumN_take_le K'.out.gd (j + 1))
      have HT0 := Lib.hid (sumN_nonneg (ls := laidAll ls (os.take j)) HT.out.1.pos)
      obtain ⟨⟨x, y, z⟩, hx⟩ : ∃ x, os[j]'(by have := HN.out; omega) = x := ⟨_, rfl⟩
      rw [hx] at c1 c2' c3' HC HX HT2
      clear hx
      dsimp only at c1 c2' c3' HC HX HT2
      have zJ := HJ.out.2
      have hbp : Below wr.heap.size wr (wr.alloc (.cells #[.int .u64 x, .int .i64 y, .int .i64 z] 71)) := (Below.refl _ _).alloc (Nat.le_refl _) _
      have HJ2 : Hid (KMer w (wr.alloc (.cells #[.int .u64 x, .int .i64 y, .int .i64 z] 71)) b S S2 B5 most (laidAll ls (os.take j)) (some ⟨g, o', none⟩) os) :=
        ⟨HJ.out.1.sk.below hbp, HJ.out.1.gr, HJ.out.1.fr.trans (Frame.of_below hbp), HJ.out.1.rd.below hbp, HJ.out.1.ap⟩
      clear HJ
      go_wp2_with fail
      refine (klay_any b S2 most _ _ x y z _ HJ2.out.sk HT.out.1 (by have := HLL.out; have := HT.out.2.2.2; rw [List.length_take] at this; omega) HX.out HT0.out (by have := HT2.out; have := HT3.out; have := HS.out; have := HT.out.2.2.1; omega) (by have := HT2.out; have := HT3.out; have := HS.out; have := HT.out.2.2.1; omega)).mono ?_
      rintro e w6 ⟨rfl, hL⟩
      have z6 : B5 ≤ w6.heap.size := by obtain ⟨_, _, _, hF⟩ := hL; have := hF.size; have := hbp.size; omega
      obtain ⟨S3, H3⟩ := HJ2.out.step (by have := hbp.size; omega) HZ.out.1 (fun k hk => by have := (HA.out k hk).2; have := hbp.size; omega) hL
      rw [← HC.out] at H3
      have H3' := Lib.hid (And.intro H3 z6)
      clear hL H3 z6 HJ2 hbp zJ
      go_wp2
      go_roundw
      case rel => exact ⟨j + 1, S3, by omega, by simp, H3'⟩
      case measure => simp [intOf]; omega
    · obtain rfl : j = n := by omega
      have H1 := HJ.out.1
      rw [List.take_of_length_le (by have := HN.out; omega)] at H1
      have HL := Lib.hid H1
      clear HJ H1
      go_wp2_with fail
      refine (kpress_any b S2 most _ wr HL.out.sk HALL.out.1 (by have := HALL.out.2.2.1; have := HS.out; omega) HM.out (by have := HALL.out.2.2.2; have := HLL.out; omega)).mono ?_
      rintro e w4 ⟨rfl, S4, hg4, hS4, hF4⟩
      have HR : Hid (PutR b S most (press most (laidAll ls os)) w w4) := by
        have hgr : GrownS S S2 w.heap.size := fun k hk => (HL.out.gr k hk).imp id fun h => Nat.le_trans HZ.out.1 h
        refine ⟨S4, fun k hk => ?_, sk_pressed hS4 HM.out HALL.out.1 HALL.out.2.1 (by have := HALL.out.2.2.1; have := HS.out; omega), frame_two hgr HL.out.fr hF4⟩
        rcases hg4 k hk with h | h
        · exact hgr k h
        · exact .inr (Nat.le_trans HL.out.fr.size h)
      clear hg4 hS4 hF4
      go_wp2
      go_ret
      exact ⟨rfl, HR.out⟩
end Go.Proofs.Ytbmnebpjjghkpaa

