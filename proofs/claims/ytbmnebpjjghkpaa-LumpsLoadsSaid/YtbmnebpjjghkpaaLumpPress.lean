/- Contract of package lumps: press. -/
import Derived.Test.YtbmnebpjjghkpaaProg
import Derived.Test.YtbmnebpjjghkpaaLumpCost
import Derived.Test.YtbmnebpjjghkpaaLess
import Derived.WalkMore
import Derived.ScopeJumps
namespace Go.Proofs.Ytbmnebpjjghkpaa
open Go.RowKit

/-- A scope that begins with its label. -/
theorem wp_scope_head {P : Program} {Q : Exit → Act → World → Prop} {a : Act} {w : World} {rest : Code} {l : Nat} (J : Act → World → Prop) (μ : Act → World → Nat) (hJ : J a w)
    (pass : ∀ a w, J a w → rest.wp P (Exit.jump l (fun a' w' => J a' w' ∧ μ a' w' < μ a w) Q) a w) : (Code.scope ((Code.label l).seq rest)).wp P Q a w :=
  wp_scope_jumps l J μ (rest := .seq .skip rest) (by simp [findLabel]) (wp_seq (wp_label (Code.wp_mono (fun e a w q => by
    cases e with
    | goto l' => exact ⟨q.1, q.2.1⟩
    | _ => exact q) (pass a w hJ)))) fun a w h => wp_seq (wp_skip (pass a w h))

/-- For all lists of so many. -/
def Curry : Nat → (List Value → Prop) → Prop
  | 0, C => C []
  | n + 1, C => ∀ u, Curry n fun l => C (u :: l)
theorem curry_elim : ∀ {n : Nat} {C : List Value → Prop}, Curry n C → ∀ l : List Value, l.length = n → C l
  | 0, _, h, [], _ => h
  | n + 1, _, h, u :: l, hl => curry_elim (h u) l (by simpa using hl)

/-- How long the row of a sketch's block is. -/
def lenK (w : World) (b : Nat) : Nat := match w.cell? ⟨b, 1, none⟩ with
  | some (.slice _ n _) => n
  | _ => 0
theorem SkR.lenK {w : World} {b : Nat} {S : List Nat} {most tot : Int} {ls : List Lu} (h : SkR w b S most ls tot) : lenK w b = ls.length := by
  obtain ⟨A, k, _, h⟩ := h
  have := h.at'.three
  unfold Go.Proofs.Ytbmnebpjjghkpaa.lenK
  rw [this.2.1]
/-- What holds at each jump. -/
def PrsJ (w w' : World) (b : Nat) (S : List Nat) (most : Int) (ls ks : List Lu) : Prop :=
  ∃ S', SkR w' b S' most ks (sumN ks) ∧ GdL ks ∧ press most ks = press most ls ∧ sumN ks = sumN ls ∧ GrownS S S' w.heap.size ∧ Frame S w w' ∧ ks.length ≤ ls.length
theorem PrsF {w w1 W W7 w8 : World} {S S1 : List Nat} (hg : GrownS S S1 w.heap.size) (h1 : Frame S w w1) (h2 : Below w1.heap.size w1 W) (h3 : Frame S1 W W7) (h4 : Frame S1 W7 w8) : Frame S w w8 := by
  have h5 := (Frame.of_below (S := S1) h2).trans (h3.trans h4)
  refine ⟨h5.os.trans h1.os, h5.tape.trans h1.tape, h5.output.trans h1.output, Nat.le_trans h1.size h5.size, fun k hk hn => ?_⟩
  refine (h5.block k (Nat.lt_of_lt_of_le hk h1.size) fun hm => ?_).trans (h1.block k hk hn)
  rcases hg k hm with h | h
  · exact hn h
  · omega
theorem sumN_take_le {ks : List Lu} (h : GdL ks) (k : Nat) : sumN (ks.take k) ≤ sumN ks := by
  have e : sumN ks = sumN (ks.take k) + sumN (ks.drop k) := by rw [← sumN_append, List.take_append_drop]
  have := sumN_nonneg (ls := ks.drop k) fun x hx => h.pos x (List.mem_of_mem_drop hx)
  omega
/-- Which one was picked so far, and what it costs. -/
def atI (ks : List Lu) (j : Nat) : Int := if j = 0 then -1 else (pickTo ks j : Int)
def bestI (ks : List Lu) (j : Nat) : Int × Int := if j = 0 then (0, 0) else costL ks (pickTo ks j)
theorem cost_bnd {ks : List Lu} (hg : GdL ks) (hs : sumN ks ≤ 9223372036854775807) {i : Nat} (hi : i + 1 < ks.length) : 0 ≤ (costL ks i).1 ∧ (costL ks i).1 < 18446744073709551616 ∧ 0 < (costL ks i).2 ∧ (costL ks i).2 < 18446744073709551616 := by
  have hsp := sumN_split2 hi
  have p1 := hg.pos _ (mem_lget (by omega : i < ks.length))
  have p2 := hg.pos _ (mem_lget hi)
  have t0 := sumN_nonneg (ls := ks.take i) fun x hx => hg.pos x (List.mem_of_mem_take hx)
  have d0 := sumN_nonneg (ls := ks.drop (i + 2)) fun x hx => hg.pos x (List.mem_of_mem_drop hx)
  unfold costL
  dsimp only
  omega
theorem lessF_fless {a b : Int × Int} (ha : 0 < a.2) (hb : 0 < b.2) : lessF a.1 a.2 b.1 b.2 = decide (fless a b) := by
  unfold lessF fless
  rw [if_neg (by omega), if_neg (by omega)]

theorem pick_new {ks : List Lu} {j : Nat} (h : j = 0 ∨ fless (costL ks j) (costL ks (pickTo ks j))) : atI ks (j + 1) = j ∧ bestI ks (j + 1) = costL ks j := by
  have e : pickTo ks (j + 1) = j := by
    rcases h with rfl | h
    · exact pickTo_one ks
    · rw [pickTo_succ, if_pos h]
  unfold atI bestI
  rw [if_neg (by omega), if_neg (by omega), e]
  exact ⟨rfl, rfl⟩
theorem pick_old {ks : List Lu} {j : Nat} (h0 : j ≠ 0) (h : ¬ fless (costL ks j) (costL ks (pickTo ks j))) : atI ks (j + 1) = atI ks j ∧ bestI ks (j + 1) = bestI ks j := by
  have e : pickTo ks (j + 1) = pickTo ks j := by rw [pickTo_succ, if_neg h]
  unfold atI bestI
  simp only [if_neg (show ¬ j + 1 = 0 by omega), if_neg h0, e, and_self]
/-- What the loads of the region that takes the two lumps read. -/
def TwoS (b g n c i : Nat) (most tot x1 x2 x3 y1 y2 y3 : Int) (W : World) : Prop := At W b #[.int .i64 most, .slice (some ⟨g, 0, none⟩) n c, .int .u64 tot] 75 ∧
  (W.cell? ⟨g, i * 3, none⟩ = some (.int .u64 x1) ∧ W.cell? ⟨g, i * 3 + 1, none⟩ = some (.int .i64 x2) ∧ W.cell? ⟨g, i * 3 + 2, none⟩ = some (.int .i64 x3)) ∧
  (W.cell? ⟨g, (i + 1) * 3, none⟩ = some (.int .u64 y1) ∧ W.cell? ⟨g, (i + 1) * 3 + 1, none⟩ = some (.int .i64 y2) ∧ W.cell? ⟨g, (i + 1) * 3 + 2, none⟩ = some (.int .i64 y3)) ∧ g < W.heap.size
theorem TwoS.below {b g n c i : Nat} {most tot x1 x2 x3 y1 y2 y3 : Int} {W W' : World} (h : TwoS b g n c i most tot x1 x2 x3 y1 y2 y3 W) (hb : Below W.heap.size W W') : TwoS b g n c i most tot x1 x2 x3 y1 y2 y3 W' :=
  ⟨h.1.below hb, ⟨cellB hb h.2.2.2 h.2.1.1, cellB hb h.2.2.2 h.2.1.2.1, cellB hb h.2.2.2 h.2.1.2.2⟩, ⟨cellB hb h.2.2.2 h.2.2.1.1, cellB hb h.2.2.2 h.2.2.1.2.1, cellB hb h.2.2.2 h.2.2.1.2.2⟩, Nat.lt_of_lt_of_le h.2.2.2 hb.size⟩

theorem TwoS.set {b g n c i : Nat} {most tot x1 x2 x3 y1 y2 y3 : Int} {W : World} (h : TwoS b g n c i most tot x1 x2 x3 y1 y2 y3 W) (p j : Nat) (v : Value) (hb : b ≠ p) (hg : g ≠ p) : TwoS b g n c i most tot x1 x2 x3 y1 y2 y3 (W.setCell ⟨p, j, none⟩ v) := by
  have hc : ∀ k, (W.setCell ⟨p, j, none⟩ v).cell? ⟨g, k, none⟩ = W.cell? ⟨g, k, none⟩ := fun k => World.cell?_setCell_far _ _ _ _ (fun e => hg e.symm)
  exact ⟨h.1.set_other (p := ⟨p, j, none⟩) (by show b ≠ p; exact hb) _, ⟨by rw [hc]; exact h.2.1.1, by rw [hc]; exact h.2.1.2.1, by rw [hc]; exact h.2.1.2.2⟩, ⟨by rw [hc]; exact h.2.2.1.1, by rw [hc]; exact h.2.2.1.2.1, by rw [hc]; exact h.2.2.1.2.2⟩, by simpa [World.setCell] using h.2.2.2⟩

set_option maxRecDepth 100000 in
set_option maxHeartbeats 8000000 in
theorem kpress_any (b : Nat) (S : List Nat) (most : Int) (ls : List Lu) (w : World) (h : SkR w b S most ls (sumN ls)) (hg : GdL ls) (hs : sumN ls ≤ 9223372036854775807) (hm : 2 ≤ most) (hl : ls.length ≤ 1048000) :
    Calls Try.prog 36 #[.pointer (some ⟨b, 0, none⟩)] w fun e w' => e = .returned (.tuple #[]) ∧ ∃ S', GrownS S S' w.heap.size ∧ SkR w' b S' most (press most ls) (sumN (press most ls)) ∧ Frame S w w' := by
  have HJ0 : Hid (PrsJ w w b S most ls ls) := ⟨S, h, hg, rfl, rfl, GrownS.refl _ _, Frame.refl _ _, Nat.le_refl _⟩
  have HS0 := Lib.hid hs
  have HL0 := Lib.hid hl
  clear h hg hs hl
  go_enter Try.func36, Try.ntmps36
  refine wp_scope_head (fun a' w' => ∃ (ks : List Lu) (l : List Value), a' = { tmps := (.pointer (some ⟨b, 0, none⟩) :: l).toArray, defers := [] } ∧ l.length = 105 ∧ Hid (PrsJ w w' b S most ls ks)) (fun _ w' => lenK w' b) ⟨ls, _, rfl, rfl, HJ0⟩ ?_
  rintro a' w1 ⟨ks, l, rfl, hlen, HJ⟩
  revert hlen
  revert l
  refine curry_elim ?_
  intro u1 u2 u3 u4 u5 u6 u7 u8 u9 u10 u11 u12 u13 u14 u15 u16 u17 u18 u19 u20 u21 u22 u23 u24 u25 u26 u27 u28 u29 u30 u31 u32 u33 u34 u35 u36 u37 u38 u39 u40 u41 u42 u43 u44 u45 u46 u47 u48 u49 u50 u51 u52 u53 u54 u55 u56 u57 u58 u59 u60 u61 u62 u63 u64 u65 u66 u67 u68 u69 u70 u71 u72 u73 u74 u75 u76 u77 u78 u79 u80 u81 u82 u83 u84 u85 u86 u87 u88 u89 u90 u91 u92 u93 u94 u95 u96 u97 u98 u99 u100 u101 u102 u103 u104 u105
  dsimp only [Curry]
  obtain ⟨S1, hsk, hgd, hpe, hse, hgr, hfr, hle⟩ := HJ.out
  have HLK : Hid (lenK w1 b = ks.length) := hsk.lenK
  obtain ⟨A, c, rfl, hB⟩ := hsk
  have HGD := Lib.hid hgd
  have HPE := Lib.hid hpe
  have HSE := Lib.hid hse
  have HGR := Lib.hid hgr
  have HFW := Lib.hid hfr
  have HLE := Lib.hid hle
  have HO := Lib.hid hB.own
  have HBNE := Lib.hid hB.ne
  have s1 := hB.at'
  obtain ⟨n, hn⟩ : ∃ n, ks.length = n := ⟨_, rfl⟩
  have HKN := Lib.hid hn
  obtain ⟨tot, htot⟩ : ∃ t, sumN ks = t := ⟨_, rfl⟩
  have HTOT := Lib.hid htot
  have hkl : n ≤ 1048000 := by have := HLE.out; have := HL0.out; omega
  have HTM : Hid (tot ≤ 9223372036854775807) := by have := HS0.out; have := HSE.out; show _ ≤ _; omega
  have HSKR : Hid (SkR w1 b (b :: blk A) most ks (sumN ks)) := ⟨A, c, rfl, hB⟩
  rw [hn, htot] at s1
  rw [hn] at HLK
  clear HJ hgd hpe hse hgr hfr hle hB hn htot HJ0
  have f1 := s1.three
  have l1 := s1.lt
  by_cases hgt : ¬ (n : Int) ≤ most
  rotate_left
  · have hle' : (n : Int) ≤ most := by omega
    have hld : decide ((n : Int) ≤ most) = true := decide_eq_true hle'
    have HR : Hid (∀ m, ∃ S', GrownS S S' w.heap.size ∧ SkR (w1.drewN m) b S' most (press most ls) (sumN (press most ls)) ∧ Frame S w (w1.drewN m)) := fun m => by
      refine ⟨b :: blk A, HGR.out, ?_, HFW.out.drewN m⟩
      rw [← HPE.out, press_stop (by rw [HKN.out]; exact hle')]
      exact HSKR.out.below ((Below.refl _ _).drewN m)
    clear hgt
    go_wp2
    go_quiet (fail)
    go_wp2
    simp only [Exit.jump]
    exact bodyPost_ret (results_none rfl _ _ _) rfl ⟨rfl, HR.out _⟩
  · have hld : decide ((n : Int) ≤ most) = false := decide_eq_false hgt
    have hn3 : 3 ≤ n := by omega
    obtain ⟨g, rfl⟩ : ∃ g, A = some ⟨g, 0, none⟩ := by
      rcases HO.out.2 with ⟨_, h0⟩ | ⟨g, cp, cur, h, _⟩
      · have := HKN.out; omega
      · simp only [Value.slice.injEq] at h; exact ⟨g, h.1⟩
    have HGT := Lib.hid hgt
    clear hgt
    go_wp2
    go_quiet (fail)
    have hbD : Below w1.heap.size w1 (w1.drewN nq) := (Below.refl _ _).drewN _
    obtain ⟨W1, hW1⟩ : ∃ W1, w1.drewN nq = W1 := ⟨_, rfl⟩
    rw [hW1] at hbD ⊢
    clear hW1 hld
    have s2 := s1.below hbD
    have hbR : Below W1.heap.size W1 (W1.alloc (.cells #[.int .u64 0, .int .u64 0] 58)) := (Below.refl _ _).alloc (Nat.le_refl _) _
    have aR := At.new W1 #[.int .u64 0, .int .u64 0] 58
    obtain ⟨rB, hrB⟩ : ∃ rB, W1.heap.size = rB := ⟨_, rfl⟩
    have HRB1 : Hid (w1.heap.size ≤ rB) := by have := hbD.size; show _ ≤ _; omega
    rw [hrB] at aR
    have hb2 := keep1 hbD hbR
    have s3 := s2.below hbR
    have f3 := s3.three
    have l3 := s3.lt
    have v1 : IntKind.i64.wrap ((n : Int) - 1) = ((n - 1 : Nat) : Int) := by simp only [IntKind.wrap_i64]; omega
    go_wp2
    try rw [hrB]
    clear hrB f1 l1 s2 hbR hbD
    generalize W1.alloc (.cells #[.int .u64 0, .int .u64 0] 58) = W2 at aR hb2 s3 f3 l3 ⊢
    have HB0 : Hid (Below w1.heap.size w1 W2 ∧ At W2 rB #[.int .u64 (bestI ks 0).1, .int .u64 (bestI ks 0).2] 58) := ⟨hb2, aR⟩
    clear aR hb2 s3 f3 l3 v1
    go_loopw [3, 4, 5, 6, 26] (fun a3 a4 _ _ i wr => ∃ j : Nat, j ≤ n - 1 ∧ i = .int .i64 j ∧ a3 = .int .i64 (atI ks j) ∧ a4 = .int .u64 (sumN (ks.take j)) ∧ Hid (Below w1.heap.size w1 wr ∧ At wr rB #[.int .u64 (bestI ks j).1, .int .u64 (bestI ks j).2] 58)) (fun _ _ _ _ i _ => n - 1 - (intOf i).toNat)
    case atStart => exact ⟨0, by omega, rfl, rfl, rfl, HB0⟩
    case round =>
      obtain ⟨j, hj, rfl, rfl, rfl, HI⟩ := hrel
      clear HB0
      by_cases hjt : j < n - 1
      · have hj1 : (j : Int) < ((n - 1 : Nat) : Int) := by omega
        have HSKW := Lib.hid (HSKR.out.below HI.out.1)
        have sR := HI.out.2
        go_wp2_with fail
        refine (kcost_any b _ most ks j wr HSKW.out HGD.out (by rw [HTOT.out]; exact HTM.out) (by rw [HKN.out]; omega) (by rw [HKN.out]; omega)).mono ?_
        rintro e w3 ⟨rfl, hb3⟩
        have hcb := Lib.hid (cost_bnd HGD.out (by rw [HTOT.out]; exact HTM.out) (i := j) (by rw [HKN.out]; omega))
        obtain ⟨cn, hcn⟩ : ∃ c, (costL ks j).1 = c := ⟨_, rfl⟩
        obtain ⟨cd, hcd⟩ : ∃ c, (costL ks j).2 = c := ⟨_, rfl⟩
        have HCN : Hid (costL ks j = (cn, cd)) := by show _ = _; rw [← hcn, ← hcd]
        rw [hcn, hcd] at hcb ⊢
        clear hcn hcd
        have hb4 := keep1 HI.out.1 hb3
        have sR3 := sR.below hb3
        have aC := At.new w3 #[.int .u64 cn, .int .u64 cd] 58
        have hbC : Below w3.heap.size w3 (w3.alloc (.cells #[.int .u64 cn, .int .u64 cd] 58)) := (Below.refl _ _).alloc (Nat.le_refl _) _
        obtain ⟨cB, hcB⟩ : ∃ cB, w3.heap.size = cB := ⟨_, rfl⟩
        rw [hcB] at aC
        have sR4 := sR3.below hbC
        have hb5 := keep1 hb4 hbC
        have hrc : rB ≠ cB := by have := sR3.lt; omega
        have HSK5 := Lib.hid (HSKR.out.below hb5)
        obtain ⟨A6, c6, e6, hB6⟩ := HSK5.out
        have hgA : A6 = some ⟨g, 0, none⟩ := by
          cases A6 with
          | none => simp [blk] at e6
          | some a =>
            rcases hB6.own.2 with ⟨h, _⟩ | ⟨g', cp, cur, h, _⟩
            · simp at h
            · simp only [Value.slice.injEq, Option.some.injEq] at h
              rw [h.1] at e6 ⊢
              simp [blk] at e6
              rw [e6]
        subst hgA
        have s5 := hB6.at'
        rw [HKN.out, HTOT.out] at s5
        obtain ⟨g', o', e7, hg7, d1, _, _⟩ := hB6.own.rd.at' j (by rw [HKN.out]; omega)
        cases e7
        rw [Nat.zero_add] at d1
        have HSN := Lib.hid (sumN_take ks j (by rw [HKN.out]; omega))
        rw [← lget_eq (by rw [HKN.out]; omega : j < ks.length)] at HSN
        have hnn := Lib.hid (sumN_take_le HGD.out (j + 1))
        have hp := HGD.out.pos _ (mem_lget (by rw [HKN.out]; omega : j < ks.length))
        obtain ⟨y, hy⟩ : ∃ y, (lget ks j).1 = y := ⟨_, rfl⟩
        obtain ⟨t, ht⟩ : ∃ t, sumN (ks.take j) = t := ⟨_, rfl⟩
        have ht0 : 0 ≤ t := by rw [← ht]; exact sumN_nonneg (fun x hx => HGD.out.pos x (List.mem_of_mem_take hx))
        rw [hy] at d1 HSN hp
        rw [ht] at HSN ⊢
        have hwt : IntKind.u64.wrap (t + y) = t + y := by have := HSN.out; have := hnn.out; rw [HTOT.out] at this; have := HTM.out; simp only [IntKind.wrap_u64]; omega
        have f5 := s5.three
        have l5 := s5.lt
        have k0 : (0 : Int) ≤ j := by omega
        have k1 : (j : Int) < n := by omega
        have fC := aC.two
        have lC := aC.lt
        clear hy ht hb3 sR sR3 hB6 e6 hp hbC hb4 HI
        by_cases h0 : j = 0
        · have hat : atI ks j = -1 := by unfold atI; rw [if_pos h0]
          have HNEW := Lib.hid (pick_new (ks := ks) (.inl h0))
          rw [HCN.out] at HNEW
          rw [hat]
          obtain ⟨bx, hbx⟩ : ∃ b, (bestI ks j).1 = b := ⟨_, rfl⟩
          obtain ⟨by', hby⟩ : ∃ b, (bestI ks j).2 = b := ⟨_, rfl⟩
          rw [hbx, hby] at sR4
          have fR := sR4.two
          have lR := sR4.lt
          have s6 := (s5.set_other (p := ⟨rB, 0, none⟩) (by show b ≠ rB; have := HRB1.out; have := HSKR.out.lt b (by simp); omega) (.int .u64 cn)).set_other (p := ⟨rB, 1, none⟩) (by show b ≠ rB; have := HRB1.out; have := HSKR.out.lt b (by simp); omega) (.int .u64 cd)
          have f6 := s6.three
          have HFIN : Hid (Below w1.heap.size w1 (((w3.alloc (.cells #[.int .u64 cn, .int .u64 cd] 58)).setCell ⟨rB, 0, none⟩ (.int .u64 cn)).setCell ⟨rB, 1, none⟩ (.int .u64 cd)) ∧ At (((w3.alloc (.cells #[.int .u64 cn, .int .u64 cd] 58)).setCell ⟨rB, 0, none⟩ (.int .u64 cn)).setCell ⟨rB, 1, none⟩ (.int .u64 cd)) rB #[.int .u64 (bestI ks (j + 1)).1, .int .u64 (bestI ks (j + 1)).2] 58) := by
            rw [HNEW.out.2]
            exact ⟨(hb5.setCell HRB1.out _).setCell HRB1.out _, (sR4.set_any 0 _ rfl).set_any 1 _ rfl⟩
          have d6 : (((w3.alloc (.cells #[.int .u64 cn, .int .u64 cd] 58)).setCell ⟨rB, 0, none⟩ (.int .u64 cn)).setCell ⟨rB, 1, none⟩ (.int .u64 cd)).cell? ⟨g, j * 3, none⟩ = some (.int .u64 y) := by
            have hgr : g ≠ rB := by have := HRB1.out; have := HSKR.out.lt g (by simp [blk]); omega
            rw [World.cell?_setCell_far _ _ _ _ (fun e => hgr e.symm), World.cell?_setCell_far _ _ _ _ (fun e => hgr e.symm)]
            exact d1
          clear hbx hby hat sR4 s6 aC s5 h0
          go_wp2
          go_roundw
          case rel => exact ⟨j + 1, by omega, by simp, by rw [HNEW.out.1], by rw [HSN.out], HFIN⟩
          case measure => simp [intOf]; omega
        · have hat : atI ks j = (pickTo ks j : Int) := by unfold atI; rw [if_neg h0]
          have hbe : bestI ks j = costL ks (pickTo ks j) := by unfold bestI; rw [if_neg h0]
          have hpl := pickTo_lt ks j (by omega)
          have HPB := Lib.hid (cost_bnd HGD.out (by rw [HTOT.out]; exact HTM.out) (i := pickTo ks j) (by rw [HKN.out]; omega))
          obtain ⟨pj, hpj⟩ : ∃ p, pickTo ks j = p := ⟨_, rfl⟩
          have HLF := Lib.hid (lessF_fless (a := costL ks j) (b := costL ks (pickTo ks j)) (by rw [HCN.out]; exact hcb.out.2.2.1) HPB.out.2.2.1)
          have HPN := Lib.hid (fun h => pick_new (ks := ks) (j := j) (.inr h))
          have HPO := Lib.hid (pick_old (ks := ks) (j := j) h0)
          rw [hpj] at hat hbe hpl HPB HLF HPN HPO
          rw [hbe] at sR4
          obtain ⟨bn, hbn⟩ : ∃ b, (costL ks pj).1 = b := ⟨_, rfl⟩
          obtain ⟨bd, hbd⟩ : ∃ b, (costL ks pj).2 = b := ⟨_, rfl⟩
          rw [hbn, hbd] at sR4 HPB HLF
          rw [HCN.out] at HLF HPN
          dsimp only at HLF
          rw [hat]
          have hpn : ¬ (pj : Int) < 0 := by omega
          have hpd : decide ((pj : Int) < 0) = false := decide_eq_false hpn
          have fR := sR4.two
          have lR := sR4.lt
          have aC2 := aC
          clear hpj hpn
          go_wp2_with fail
          refine (less_any cn cd bn bd _ hcb.out.1 hcb.out.2.1 (Int.le_of_lt hcb.out.2.2.1) hcb.out.2.2.2 HPB.out.1 HPB.out.2.1 (Int.le_of_lt HPB.out.2.2.1) HPB.out.2.2.2).mono ?_
          rintro e w6 ⟨rfl, hb6⟩
          rw [HLF.out]
          have hb7 := keep1 hb5 hb6
          have s7 := s5.below hb6
          have sR7 := sR4.below hb6
          have aC7 := aC2.below hb6
          have d7 := cellB hb6 (Nat.lt_of_lt_of_le hg7 (Nat.le_refl _)) d1
          have g7l := Nat.lt_of_lt_of_le hg7 hb6.size
          have f7 := s7.three
          have l7 := s7.lt
          have fC7 := aC7.two
          have lC7 := aC7.lt
          have fR7 := sR7.two
          have lR7 := sR7.lt
          clear hb6 s5 sR4 aC aC2 f5 l5 fC lC fR lR d1
          by_cases hfl : fless (cn, cd) (costL ks pj)
          · rw [decide_eq_true hfl]
            have HNEW := Lib.hid (HPN.out hfl)
            have s8 := (s7.set_other (p := ⟨rB, 0, none⟩) (by show b ≠ rB; have := HRB1.out; have := HSKR.out.lt b (by simp); omega) (.int .u64 cn)).set_other (p := ⟨rB, 1, none⟩) (by show b ≠ rB; have := HRB1.out; have := HSKR.out.lt b (by simp); omega) (.int .u64 cd)
            have f8 := s8.three
            have HFIN : Hid (Below w1.heap.size w1 ((w6.setCell ⟨rB, 0, none⟩ (.int .u64 cn)).setCell ⟨rB, 1, none⟩ (.int .u64 cd)) ∧ At ((w6.setCell ⟨rB, 0, none⟩ (.int .u64 cn)).setCell ⟨rB, 1, none⟩ (.int .u64 cd)) rB #[.int .u64 (bestI ks (j + 1)).1, .int .u64 (bestI ks (j + 1)).2] 58) := by
              rw [HNEW.out.2]
              exact ⟨(hb7.setCell HRB1.out _).setCell HRB1.out _, (sR7.set_any 0 _ rfl).set_any 1 _ rfl⟩
            have d8 : ((w6.setCell ⟨rB, 0, none⟩ (.int .u64 cn)).setCell ⟨rB, 1, none⟩ (.int .u64 cd)).cell? ⟨g, j * 3, none⟩ = some (.int .u64 y) := by
              have hgr : g ≠ rB := by have := HRB1.out; have := HSKR.out.lt g (by simp [blk]); omega
              rw [World.cell?_setCell_far _ _ _ _ (fun e => hgr e.symm), World.cell?_setCell_far _ _ _ _ (fun e => hgr e.symm)]
              exact d7
            clear hat hbe s7 s8 sR7 aC7 hfl h0
            go_wp2
            go_roundw
            case rel => exact ⟨j + 1, by omega, by simp, by rw [HNEW.out.1], by rw [HSN.out], HFIN⟩
            case measure => simp [intOf]; omega
          · rw [decide_eq_false hfl]
            have HOLD := Lib.hid (HPO.out (by rw [HCN.out]; exact hfl))
            have HFIN : Hid (Below w1.heap.size w1 w6 ∧ At w6 rB #[.int .u64 (bestI ks (j + 1)).1, .int .u64 (bestI ks (j + 1)).2] 58) := by
              rw [HOLD.out.2, hbe, hbn, hbd]
              exact ⟨hb7, sR7⟩
            have HATO : Hid ((pj : Int) = atI ks (j + 1)) := by show _ = _; rw [HOLD.out.1, hat]
            clear hat hbe s7 sR7 aC7 hfl h0
            go_wp2
            go_roundw
            case rel => exact ⟨j + 1, by omega, by simp, by rw [HATO.out], by rw [HSN.out], HFIN⟩
            case measure => simp [intOf]; omega
      · obtain rfl : j = n - 1 := by omega
        have hat : atI ks (n - 1) = (pick ks : Int) := by unfold atI pick; rw [if_neg (by omega), HKN.out]
        have hpk0 := pick_lt (ls := ks) (by rw [HKN.out]; omega)
        rw [HKN.out] at hpk0
        obtain ⟨at0, hat0⟩ : ∃ p, pick ks = p := ⟨_, rfl⟩
        have HAT := Lib.hid hat0
        rw [hat0] at hat hpk0
        rw [hat]
        have sB := (s1.below HI.out.1).drew
        have HOW0 := Lib.hid ((HO.out.below HI.out.1).below (Below.refl _ _).drew)
        have hbW0 := HI.out.1.drew
        obtain ⟨WD, hWD⟩ : ∃ WD, wr.drew = WD := ⟨_, rfl⟩
        obtain ⟨g', o', e1, hg1, p1, p2, p3⟩ := HOW0.out.rd.at' at0 (by rw [HKN.out]; omega)
        cases e1
        obtain ⟨g', o', e2, hg2, q1, q2, q3⟩ := HOW0.out.rd.at' (at0 + 1) (by rw [HKN.out]; omega)
        cases e2
        rw [Nat.zero_add] at p1 p2 p3 q1 q2 q3
        have HXY0 := sumN_split2 (ls := ks) (i := at0) (by rw [HKN.out]; exact hpk0)
        have px := HGD.out.pos _ (mem_lget (by rw [HKN.out]; omega : at0 < ks.length))
        have py := HGD.out.pos _ (mem_lget (by rw [HKN.out]; omega : at0 + 1 < ks.length))
        have ht0 := sumN_nonneg (ls := ks.take at0) fun x hx => HGD.out.pos x (List.mem_of_mem_take hx)
        have hd0 := sumN_nonneg (ls := ks.drop (at0 + 2)) fun x hx => HGD.out.pos x (List.mem_of_mem_drop hx)
        have HSO : Hid (sumN (out2 ks at0) = sumN ks - ((lget ks at0).1 + (lget ks (at0 + 1)).1)) := by
          show _ = _
          unfold out2
          rw [sumN_append]
          omega
        have HBOTH : Hid (both ks at0 = ((lget ks at0).1 + (lget ks (at0 + 1)).1, (lget ks at0).2.1, max (lget ks at0).2.2 (lget ks (at0 + 1)).2.2)) := rfl
        have HOL : Hid ((out2 ks at0).length = n - 2) := by show _ = _; rw [out2_len (by rw [HKN.out]; exact hpk0), HKN.out]
        obtain ⟨⟨x1, x2, x3⟩, hx⟩ : ∃ x, lget ks at0 = x := ⟨_, rfl⟩
        obtain ⟨⟨y1, y2, y3⟩, hy⟩ : ∃ x, lget ks (at0 + 1) = x := ⟨_, rfl⟩
        rw [hx] at p1 p2 p3 px HXY0 HSO HBOTH
        rw [hy] at q1 q2 q3 py HXY0 HSO HBOTH
        dsimp only at p1 p2 p3 q1 q2 q3 px py HXY0 HSO HBOTH
        rw [HTOT.out] at HXY0 HSO
        have HXY : Hid (0 < x1 ∧ 0 < y1 ∧ x1 + y1 ≤ tot ∧ tot ≤ 9223372036854775807) := by have := HTM.out; exact ⟨px, py, by omega, this⟩
        rw [hWD] at sB HOW0 hbW0 p1 p2 p3 q1 q2 q3 hg1
        have TK : TwoS b g n c at0 most tot x1 x2 x3 y1 y2 y3 WD := ⟨sB, ⟨p1, p2, p3⟩, ⟨q1, q2, q3⟩, hg1⟩
        have hpk : at0 + 1 < n := hpk0
        have k0 : (0 : Int) ≤ at0 := by omega
        have k1 : (at0 : Int) < n := by omega
        have k2 : (0 : Int) ≤ ((at0 + 1 : Nat) : Int) := by omega
        have k3 : ((at0 + 1 : Nat) : Int) < n := by omega
        have v5 : IntKind.i64.wrap ((at0 : Int) + 1) = ((at0 + 1 : Nat) : Int) := by simp only [IntKind.wrap_i64]; omega
        have v6 : IntKind.i64.wrap ((at0 : Int) + 2) = ((at0 + 2 : Nat) : Int) := by simp only [IntKind.wrap_i64]; omega
        have hbg : b ≠ g := fun e => HBNE.out (by simp [blk, e])
        clear hx hy hat hat0 p1 p2 p3 q1 q2 q3 px py ht0 hd0 HXY0 hj hjt hpk0 HI
        have hjd : decide (((n - 1 : Nat) : Int) < ((n - 1 : Nat) : Int)) = false := decide_eq_false (by omega)
        go_wp2
        haveI : Nonempty (Held (TwoS b g n c at0 most tot x1 x2 x3 y1 y2 y3)) := ⟨⟨WD, TK⟩⟩
        have hfar1 := fun z : Held (TwoS b g n c at0 most tot x1 x2 x3 y1 y2 y3) => z.held.1.three
        have hfar2 := fun z : Held (TwoS b g n c at0 most tot x1 x2 x3 y1 y2 y3) => z.held.2.1
        have hfar3 := fun z : Held (TwoS b g n c at0 most tot x1 x2 x3 y1 y2 y3) => z.held.2.2.1
        refine wp_region_noPanic ?_
        refine wp_region_held_drew (S := HeldS (TwoS b g n c at0 most tot x1 x2 x3 y1 y2 y3)) (by kernel_rfl) (HeldS.mk' (hWD ▸ TK)) (fun hHeld => ?_)
        rw [hWD] at hHeld ⊢
        clear hWD hjd
        refine wpAnyH_run0 [true, true, true, true, true, true, true, true, true, true, true, true, true, true, true] 4 (by kernel_rfl) (by kernel_rfl) (fun _ _ _ _ h => h) (by kernel_rfl) hHeld ?_
        simp only [runOps_true, runOps_false, runOps_nil]
        repeat (first | go_big_quiet_skip | (go_big_quiet_want; go_big_quiet_op; go_big_quiet_on))
        refine wpQuiet_nil ?_
        clear hfar1 hfar2 hfar3
        obtain ⟨pa, hpa⟩ : ∃ pa, WD.heap.size = pa := ⟨_, rfl⟩
        have hV1 : Below WD.heap.size WD (WD.alloc (.cells #[.int .u64 0, .int .i64 0, .int .i64 0] 71)) := (Below.refl _ _).alloc (Nat.le_refl _) _
        have hV2 : Below WD.heap.size WD ((WD.alloc (.cells #[.int .u64 0, .int .i64 0, .int .i64 0] 71)).alloc (.cells #[.int .u64 0, .int .i64 0, .int .i64 0] 71)) := hV1.alloc hV1.size _
        have TK1 := TK.below hV1
        have TK2 := TK.below hV2
        have A1 := (At.new WD #[.int .u64 0, .int .i64 0, .int .i64 0] 71).alloc (.cells #[.int .u64 0, .int .i64 0, .int .i64 0] 71)
        have A2 := At.new' (WD.alloc (.cells #[.int .u64 0, .int .i64 0, .int .i64 0] 71)) #[.int .u64 0, .int .i64 0, .int .i64 0] 71 (b := pa + 1) (by simp [hpa])
        rw [hpa] at A1
        have HV2 := Lib.hid (And.intro TK1 (And.intro TK2 hV2))
        have HPA : Hid (WD.heap.size = pa) := hpa
        refine wpAnyH_ready (rs := [15, 16]) (by kernel_rfl) (by simp) ?_
        refine AllReadyH.cons rfl (fun K hK => ?_) (AllReadyH.cons rfl (fun K hK => ?_) (AllReadyH.nil))
        · skip
          go_simp
          try rw [hpa]
          refine hK.out _ _ (HeldS.mk' HV2.out.1) (fun hHeld => ?_)
          clear hK K
          refine wpAnyH_ready (rs := [16]) (by kernel_rfl) (by simp) ?_
          refine AllReadyH.cons rfl (fun K hK => ?_) (AllReadyH.nil)
          go_simp
          try rw [hpa]
          refine hK.out _ _ (HeldS.mk' HV2.out.2.1) (fun hHeld => ?_)
          clear hK K hpa TK1 hV1
          obtain ⟨qa, hqa⟩ : ∃ q, pa = q := ⟨_, rfl⟩
          obtain ⟨qb, hqb⟩ : ∃ q, pa + 1 = q := ⟨_, rfl⟩
          have HQ : Hid (qa ≠ qb ∧ w1.heap.size ≤ qa ∧ w1.heap.size ≤ qb) := by
            have h1 := hbW0.size
            have h2 := HPA.out
            refine ⟨by omega, by omega, by omega⟩
          have a7 := A1
          have a8 := A2
          rw [hqa] at a7
          rw [hqb] at a8
          rw [hqb]
          rw [hqa]
          have hVV := HV2.out.2.2
          have TKK := HV2.out.2.1
          clear hqa hqb A1 A2 HV2 hV2 TK2
          have hbV := keep1 hbW0 hVV
          generalize (WD.alloc (.cells #[.int .u64 0, .int .i64 0, .int .i64 0] 71)).alloc (.cells #[.int .u64 0, .int .i64 0, .int .i64 0] 71) = V2 at a7 a8 hVV TKK hbV ⊢
          have hsz := HSKR.out.lt
          have hab : qa ≠ b := by have := HQ.out; have := hsz b (by simp); omega
          have hbb : qb ≠ b := by have := HQ.out; have := hsz b (by simp); omega
          have hag : qa ≠ g := by have := HQ.out; have := hsz g (by simp [blk]); omega
          have hbg2 : qb ≠ g := by have := HQ.out; have := hsz g (by simp [blk]); omega
          have hq7 := a7.three
          have lq7 := a7.lt
          have hq8 := a8.three
          have lq8 := a8.lt
          have hbx := ((hbV.setCell HQ.out.2.1 (p := ⟨qa, 0, none⟩) (.int .u64 x1)).setCell HQ.out.2.1 (p := ⟨qa, 1, none⟩) (.int .i64 x2)).setCell HQ.out.2.1 (p := ⟨qa, 2, none⟩) (.int .i64 x3)
          have hby := ((hbx.setCell HQ.out.2.2 (p := ⟨qb, 0, none⟩) (.int .u64 y1)).setCell HQ.out.2.2 (p := ⟨qb, 1, none⟩) (.int .i64 y2)).setCell HQ.out.2.2 (p := ⟨qb, 2, none⟩) (.int .i64 y3)
          have sV := TKK.1
          have TK3 := ((TKK.set qa 0 (.int .u64 x1) hab.symm hag.symm).set qa 1 (.int .i64 x2) hab.symm hag.symm).set qa 2 (.int .i64 x3) hab.symm hag.symm
          have TK4 := ((TK3.set qb 0 (.int .u64 y1) hbb.symm hbg2.symm).set qb 1 (.int .i64 y2) hbb.symm hbg2.symm).set qb 2 (.int .i64 y3) hbb.symm hbg2.symm
          have a73 := ((a7.set_any 0 (.int .u64 x1) rfl).set_any 1 (.int .i64 x2) rfl).set_any 2 (.int .i64 x3) rfl
          have a83 := ((a8.set_other (p := ⟨qa, 0, none⟩) (by show qb ≠ qa; exact HQ.out.1.symm) (.int .u64 x1)).set_other (p := ⟨qa, 1, none⟩) (by show qb ≠ qa; exact HQ.out.1.symm) (.int .i64 x2)).set_other (p := ⟨qa, 2, none⟩) (by show qb ≠ qa; exact HQ.out.1.symm) (.int .i64 x3)
          have hq83 := a83.three
          have lq83 := a83.lt
          have sa2 := ((a73.set_other (p := ⟨qb, 0, none⟩) (by show qa ≠ qb; exact HQ.out.1) (.int .u64 y1)).set_other (p := ⟨qb, 1, none⟩) (by show qa ≠ qb; exact HQ.out.1) (.int .i64 y2)).set_other (p := ⟨qb, 2, none⟩) (by show qa ≠ qb; exact HQ.out.1) (.int .i64 y3)
          have sb2 := ((a83.set_any 0 (.int .u64 y1) rfl).set_any 1 (.int .i64 y2) rfl).set_any 2 (.int .i64 y3) rfl
          have HTK := Lib.hid (And.intro TK3 TK4)
          clear a7 a8 a73 a83 TKK TK3 TK4 sV hbV hbx
          refine wpAnyH_ready (rs := [17]) (by kernel_rfl) (by simp) ?_
          refine AllReadyH.cons rfl (fun K hK => ?_) (AllReadyH.nil)
          go_simp
          go_wp2
          refine hK.out _ _ (HeldS.mk' HTK.out.1) (fun hHeld => ?_)
          clear hK K hq7 lq7 hq8 lq8
          refine wpAnyH_ready (rs := [18]) (by kernel_rfl) (by simp) ?_
          refine AllReadyH.cons rfl (fun K hK => ?_) (AllReadyH.nil)
          go_simp
          go_wp2
          refine hK.out _ _ (HeldS.mk' HTK.out.2) (fun hHeld => ?_)
          clear hK K hq83 lq83
          refine wpAnyH_done (by kernel_rfl) ?_ _
          refine NoPanic.normal ?_
          have sB2 := HTK.out.2.1
          have hbW := hby
          clear hHeld HTK hby
          generalize (((((V2.setCell ⟨qa, 0, none⟩ (.int .u64 x1)).setCell ⟨qa, 1, none⟩ (.int .i64 x2)).setCell ⟨qa, 2, none⟩ (.int .i64 x3)).setCell ⟨qb, 0, none⟩ (.int .u64 y1)).setCell ⟨qb, 1, none⟩ (.int .i64 y2)).setCell ⟨qb, 2, none⟩ (.int .i64 y3) = W at sB2 hbW sa2 sb2 ⊢
          have HOW := Lib.hid (HO.out.below hbW)
          have f2 := sB2.three
          have l2 := sB2.lt
          have HB2' := Lib.hid hbW
          have HDEL := Lib.hid (delete_any 0 g c at0 ks W (HOW.out) (by rw [HKN.out]; exact hpk) (by rw [HKN.out]; omega))
          rw [HKN.out] at HDEL
          go_wp2_with fail
          refine HDEL.out.mono ?_
          rintro e w5 ⟨rfl, ho5, hF5⟩
          rw [HKN.out]
          have HO5 : Hid (Own3 0 w5 (some ⟨g, 0, none⟩) c (out2 ks at0)) := ho5
          have sB5 := hF5.at sB2 (fun h => hbg (by simpa using h))
          have sa5 := hF5.at sa2 (fun h => hag (by simpa using h))
          have sb5 := hF5.at sb2 (fun h => hbg2 (by simpa using h))
          have HF5 := Lib.hid hF5
          clear ho5 hF5 sB2 sa2 sb2 HDEL f2 l2
          have f5 := sB5.three
          have l5 := sB5.lt
          have b6 : At (w5.setCell ⟨b, 1, none⟩ (.slice (some ⟨g, 0, none⟩) (n - 2) c)) b _ _ := sB5.set_any 1 _ rfl
          have a6 : At (w5.setCell ⟨b, 1, none⟩ (.slice (some ⟨g, 0, none⟩) (n - 2) c)) qa _ _ := sa5.set_other (p := ⟨b, 1, none⟩) (by show qa ≠ b; exact hab) _
          have c6 : At (w5.setCell ⟨b, 1, none⟩ (.slice (some ⟨g, 0, none⟩) (n - 2) c)) qb _ _ := sb5.set_other (p := ⟨b, 1, none⟩) (by show qb ≠ b; exact hbb) _
          have f6 := b6.three
          have l6 := b6.lt
          have f7 := a6.three
          have l7 := a6.lt
          have f8 := c6.three
          have l8 := c6.lt
          have hwx : IntKind.u64.wrap (x1 + y1) = x1 + y1 := by have := HXY.out; simp only [IntKind.wrap_u64]; omega
          have hwt : IntKind.u64.wrap (tot - (x1 + y1)) = tot - (x1 + y1) := by have := HXY.out; simp only [IntKind.wrap_u64]; omega
          have b7 : At ((w5.setCell ⟨b, 1, none⟩ (.slice (some ⟨g, 0, none⟩) (n - 2) c)).setCell ⟨b, 2, none⟩ (.int .u64 (tot - (x1 + y1)))).drew b _ _ := (b6.set_any 2 _ rfl).drew
          have a7 : At ((w5.setCell ⟨b, 1, none⟩ (.slice (some ⟨g, 0, none⟩) (n - 2) c)).setCell ⟨b, 2, none⟩ (.int .u64 (tot - (x1 + y1)))).drew qa _ _ := (a6.set_other (p := ⟨b, 2, none⟩) (by show qa ≠ b; exact hab) _).drew
          have c7 : At ((w5.setCell ⟨b, 1, none⟩ (.slice (some ⟨g, 0, none⟩) (n - 2) c)).setCell ⟨b, 2, none⟩ (.int .u64 (tot - (x1 + y1)))).drew qb _ _ := (c6.set_other (p := ⟨b, 2, none⟩) (by show qb ≠ b; exact hbb) _).drew
          have HF7 : Hid (Frame (b :: blk (some ⟨g, 0, none⟩)) W ((w5.setCell ⟨b, 1, none⟩ (.slice (some ⟨g, 0, none⟩) (n - 2) c)).setCell ⟨b, 2, none⟩ (.int .u64 (tot - (x1 + y1)))).drew) := (((HF5.out.mono fun k hk => by simp [blk] at hk ⊢; exact .inr hk).setc (.inl (by simp)) _ _).setc (.inl (by simp)) _ _).drew
          have HO7 : Hid (Own3 0 ((w5.setCell ⟨b, 1, none⟩ (.slice (some ⟨g, 0, none⟩) (n - 2) c)).setCell ⟨b, 2, none⟩ (.int .u64 (tot - (x1 + y1)))).drew (some ⟨g, 0, none⟩) c (out2 ks at0)) :=
            ((HO5.out.frame (Frame.set [b] _ b 1 _ (by simp)) (fun k hk e => by simp [blk] at hk e; omega)).frame (Frame.set [b] _ b 2 _ (by simp)) (fun k hk e => by simp [blk] at hk e; omega)).below (Below.refl _ _).drew
          have f9 := b7.three
          have l9 := b7.lt
          have f10 := a7.three
          have l10 := a7.lt
          have f11 := c7.three
          have l11 := c7.lt
          clear b6 a6 c6 sB5 sa5 sb5
          go_wp2
          go_region
          clear f5 l5 f6 l6 f7 l7 f8 l8
          have HSK : Hid (SkR ((w5.setCell ⟨b, 1, none⟩ (.slice (some ⟨g, 0, none⟩) (n - 2) c)).setCell ⟨b, 2, none⟩ (.int .u64 (tot - (x1 + y1)))).drew b (b :: blk (some ⟨g, 0, none⟩)) most (out2 ks at0) (tot - (x1 + y1))) := by
            refine ⟨_, c, rfl, ?_, HO7.out, HBNE.out⟩
            rw [HOL.out]
            exact b7
          clear b7 a7 c7
          generalize ((w5.setCell ⟨b, 1, none⟩ (.slice (some ⟨g, 0, none⟩) (n - 2) c)).setCell ⟨b, 2, none⟩ (.int .u64 (tot - (x1 + y1)))).drew = W7 at HSK HF7 HO7 f9 l9 f10 l10 f11 l11 ⊢
          have HBO := HBOTH
          go_wp2_with fail
          refine (klay_any b _ most (tot - (x1 + y1)) (out2 ks at0) (x1 + y1) x2 (max x3 y3) W7 HSK.out (HGD.out.sub (out2_sub _ _)) (by rw [HOL.out]; omega) (by have := HXY.out; omega) (by have := HXY.out; omega) (by have := HXY.out; omega) (by have := HXY.out; have := HSO.out; omega)).mono ?_
          rintro e w8 ⟨rfl, S8, hg8, hS8, hF8⟩
          have HJ8 : Hid (PrsJ w w8 b S most ls (press1 ks)) := by
            refine ⟨S8, ?_, press1_gd HGD.out (by rw [HKN.out]; omega), ?_, ?_, fun k hk => ?_, ?_, ?_⟩
            · rw [press1_sum (by rw [HKN.out]; omega), HTOT.out]
              unfold press1
              rw [HAT.out, HBO.out]
              rw [show tot - (x1 + y1) + (x1 + y1, x2, (max x3 y3)).1 = tot by dsimp only; omega] at hS8
              exact hS8
            · rw [← press_step (by omega) (by rw [HKN.out]; have := HGT.out; omega)]; exact HPE.out
            · rw [press1_sum (by rw [HKN.out]; omega)]; exact HSE.out
            · rcases hg8 k hk with h | h
              · exact HGR.out k h
              · exact .inr (by have := HF7.out.size; have := HB2'.out.size; have := HFW.out.size; omega)
            · exact PrsF HGR.out HFW.out HB2'.out HF7.out hF8
            · have := press1_len (ls := ks) (by rw [HKN.out]; omega); rw [HKN.out] at this; have := HLE.out; have := HKN.out; omega
          clear hg8 hS8 hF8
          go_wp2
          go_step3
          refine ⟨rfl, ?_, ?_⟩
          · exact ⟨press1 ks, _, rfl, rfl, HJ8⟩
          · show lenK w8 b < lenK w1 b
            obtain ⟨S9, h9, _⟩ := HJ8.out
            rw [show lenK w8 b = (press1 ks).length from h9.lenK, HLK.out]
            have := press1_len (ls := ks) (by rw [HKN.out]; omega)
            rw [HKN.out] at this
            exact this
        · skip
          go_simp
          try rw [hpa]
          refine hK.out _ _ (HeldS.mk' HV2.out.1) (fun hHeld => ?_)
          clear hK K
          refine wpAnyH_ready (rs := [15]) (by kernel_rfl) (by simp) ?_
          refine AllReadyH.cons rfl (fun K hK => ?_) (AllReadyH.nil)
          go_simp
          try rw [hpa]
          refine hK.out _ _ (HeldS.mk' HV2.out.2.1) (fun hHeld => ?_)
          clear hK K hpa TK1 hV1
          obtain ⟨qa, hqa⟩ : ∃ q, pa + 1 = q := ⟨_, rfl⟩
          obtain ⟨qb, hqb⟩ : ∃ q, pa = q := ⟨_, rfl⟩
          have HQ : Hid (qa ≠ qb ∧ w1.heap.size ≤ qa ∧ w1.heap.size ≤ qb) := by
            have h1 := hbW0.size
            have h2 := HPA.out
            refine ⟨by omega, by omega, by omega⟩
          have a7 := A2
          have a8 := A1
          rw [hqa] at a7
          rw [hqb] at a8
          rw [hqa]
          rw [hqb]
          have hVV := HV2.out.2.2
          have TKK := HV2.out.2.1
          clear hqa hqb A1 A2 HV2 hV2 TK2
          have hbV := keep1 hbW0 hVV
          generalize (WD.alloc (.cells #[.int .u64 0, .int .i64 0, .int .i64 0] 71)).alloc (.cells #[.int .u64 0, .int .i64 0, .int .i64 0] 71) = V2 at a7 a8 hVV TKK hbV ⊢
          have hsz := HSKR.out.lt
          have hab : qa ≠ b := by have := HQ.out; have := hsz b (by simp); omega
          have hbb : qb ≠ b := by have := HQ.out; have := hsz b (by simp); omega
          have hag : qa ≠ g := by have := HQ.out; have := hsz g (by simp [blk]); omega
          have hbg2 : qb ≠ g := by have := HQ.out; have := hsz g (by simp [blk]); omega
          have hq7 := a7.three
          have lq7 := a7.lt
          have hq8 := a8.three
          have lq8 := a8.lt
          have hbx := ((hbV.setCell HQ.out.2.1 (p := ⟨qa, 0, none⟩) (.int .u64 x1)).setCell HQ.out.2.1 (p := ⟨qa, 1, none⟩) (.int .i64 x2)).setCell HQ.out.2.1 (p := ⟨qa, 2, none⟩) (.int .i64 x3)
          have hby := ((hbx.setCell HQ.out.2.2 (p := ⟨qb, 0, none⟩) (.int .u64 y1)).setCell HQ.out.2.2 (p := ⟨qb, 1, none⟩) (.int .i64 y2)).setCell HQ.out.2.2 (p := ⟨qb, 2, none⟩) (.int .i64 y3)
          have sV := TKK.1
          have TK3 := ((TKK.set qa 0 (.int .u64 x1) hab.symm hag.symm).set qa 1 (.int .i64 x2) hab.symm hag.symm).set qa 2 (.int .i64 x3) hab.symm hag.symm
          have TK4 := ((TK3.set qb 0 (.int .u64 y1) hbb.symm hbg2.symm).set qb 1 (.int .i64 y2) hbb.symm hbg2.symm).set qb 2 (.int .i64 y3) hbb.symm hbg2.symm
          have a73 := ((a7.set_any 0 (.int .u64 x1) rfl).set_any 1 (.int .i64 x2) rfl).set_any 2 (.int .i64 x3) rfl
          have a83 := ((a8.set_other (p := ⟨qa, 0, none⟩) (by show qb ≠ qa; exact HQ.out.1.symm) (.int .u64 x1)).set_other (p := ⟨qa, 1, none⟩) (by show qb ≠ qa; exact HQ.out.1.symm) (.int .i64 x2)).set_other (p := ⟨qa, 2, none⟩) (by show qb ≠ qa; exact HQ.out.1.symm) (.int .i64 x3)
          have hq83 := a83.three
          have lq83 := a83.lt
          have sa2 := ((a73.set_other (p := ⟨qb, 0, none⟩) (by show qa ≠ qb; exact HQ.out.1) (.int .u64 y1)).set_other (p := ⟨qb, 1, none⟩) (by show qa ≠ qb; exact HQ.out.1) (.int .i64 y2)).set_other (p := ⟨qb, 2, none⟩) (by show qa ≠ qb; exact HQ.out.1) (.int .i64 y3)
          have sb2 := ((a83.set_any 0 (.int .u64 y1) rfl).set_any 1 (.int .i64 y2) rfl).set_any 2 (.int .i64 y3) rfl
          have HTK := Lib.hid (And.intro TK3 TK4)
          clear a7 a8 a73 a83 TKK TK3 TK4 sV hbV hbx
          refine wpAnyH_ready (rs := [17]) (by kernel_rfl) (by simp) ?_
          refine AllReadyH.cons rfl (fun K hK => ?_) (AllReadyH.nil)
          go_simp
          go_wp2
          refine hK.out _ _ (HeldS.mk' HTK.out.1) (fun hHeld => ?_)
          clear hK K hq7 lq7 hq8 lq8
          refine wpAnyH_ready (rs := [18]) (by kernel_rfl) (by simp) ?_
          refine AllReadyH.cons rfl (fun K hK => ?_) (AllReadyH.nil)
          go_simp
          go_wp2
          refine hK.out _ _ (HeldS.mk' HTK.out.2) (fun hHeld => ?_)
          clear hK K hq83 lq83
          refine wpAnyH_done (by kernel_rfl) ?_ _
          refine NoPanic.normal ?_
          have sB2 := HTK.out.2.1
          have hbW := hby
          clear hHeld HTK hby
          generalize (((((V2.setCell ⟨qa, 0, none⟩ (.int .u64 x1)).setCell ⟨qa, 1, none⟩ (.int .i64 x2)).setCell ⟨qa, 2, none⟩ (.int .i64 x3)).setCell ⟨qb, 0, none⟩ (.int .u64 y1)).setCell ⟨qb, 1, none⟩ (.int .i64 y2)).setCell ⟨qb, 2, none⟩ (.int .i64 y3) = W at sB2 hbW sa2 sb2 ⊢
          have HOW := Lib.hid (HO.out.below hbW)
          have f2 := sB2.three
          have l2 := sB2.lt
          have HB2' := Lib.hid hbW
          have HDEL := Lib.hid (delete_any 0 g c at0 ks W (HOW.out) (by rw [HKN.out]; exact hpk) (by rw [HKN.out]; omega))
          rw [HKN.out] at HDEL
          go_wp2_with fail
          refine HDEL.out.mono ?_
          rintro e w5 ⟨rfl, ho5, hF5⟩
          rw [HKN.out]
          have HO5 : Hid (Own3 0 w5 (some ⟨g, 0, none⟩) c (out2 ks at0)) := ho5
          have sB5 := hF5.at sB2 (fun h => hbg (by simpa using h))
          have sa5 := hF5.at sa2 (fun h => hag (by simpa using h))
          have sb5 := hF5.at sb2 (fun h => hbg2 (by simpa using h))
          have HF5 := Lib.hid hF5
          clear ho5 hF5 sB2 sa2 sb2 HDEL f2 l2
          have f5 := sB5.three
          have l5 := sB5.lt
          have b6 : At (w5.setCell ⟨b, 1, none⟩ (.slice (some ⟨g, 0, none⟩) (n - 2) c)) b _ _ := sB5.set_any 1 _ rfl
          have a6 : At (w5.setCell ⟨b, 1, none⟩ (.slice (some ⟨g, 0, none⟩) (n - 2) c)) qa _ _ := sa5.set_other (p := ⟨b, 1, none⟩) (by show qa ≠ b; exact hab) _
          have c6 : At (w5.setCell ⟨b, 1, none⟩ (.slice (some ⟨g, 0, none⟩) (n - 2) c)) qb _ _ := sb5.set_other (p := ⟨b, 1, none⟩) (by show qb ≠ b; exact hbb) _
          have f6 := b6.three
          have l6 := b6.lt
          have f7 := a6.three
          have l7 := a6.lt
          have f8 := c6.three
          have l8 := c6.lt
          have hwx : IntKind.u64.wrap (x1 + y1) = x1 + y1 := by have := HXY.out; simp only [IntKind.wrap_u64]; omega
          have hwt : IntKind.u64.wrap (tot - (x1 + y1)) = tot - (x1 + y1) := by have := HXY.out; simp only [IntKind.wrap_u64]; omega
          have b7 : At ((w5.setCell ⟨b, 1, none⟩ (.slice (some ⟨g, 0, none⟩) (n - 2) c)).setCell ⟨b, 2, none⟩ (.int .u64 (tot - (x1 + y1)))).drew b _ _ := (b6.set_any 2 _ rfl).drew
          have a7 : At ((w5.setCell ⟨b, 1, none⟩ (.slice (some ⟨g, 0, none⟩) (n - 2) c)).setCell ⟨b, 2, none⟩ (.int .u64 (tot - (x1 + y1)))).drew qa _ _ := (a6.set_other (p := ⟨b, 2, none⟩) (by show qa ≠ b; exact hab) _).drew
          have c7 : At ((w5.setCell ⟨b, 1, none⟩ (.slice (some ⟨g, 0, none⟩) (n - 2) c)).setCell ⟨b, 2, none⟩ (.int .u64 (tot - (x1 + y1)))).drew qb _ _ := (c6.set_other (p := ⟨b, 2, none⟩) (by show qb ≠ b; exact hbb) _).drew
          have HF7 : Hid (Frame (b :: blk (some ⟨g, 0, none⟩)) W ((w5.setCell ⟨b, 1, none⟩ (.slice (some ⟨g, 0, none⟩) (n - 2) c)).setCell ⟨b, 2, none⟩ (.int .u64 (tot - (x1 + y1)))).drew) := (((HF5.out.mono fun k hk => by simp [blk] at hk ⊢; exact .inr hk).setc (.inl (by simp)) _ _).setc (.inl (by simp)) _ _).drew
          have HO7 : Hid (Own3 0 ((w5.setCell ⟨b, 1, none⟩ (.slice (some ⟨g, 0, none⟩) (n - 2) c)).setCell ⟨b, 2, none⟩ (.int .u64 (tot - (x1 + y1)))).drew (some ⟨g, 0, none⟩) c (out2 ks at0)) :=
            ((HO5.out.frame (Frame.set [b] _ b 1 _ (by simp)) (fun k hk e => by simp [blk] at hk e; omega)).frame (Frame.set [b] _ b 2 _ (by simp)) (fun k hk e => by simp [blk] at hk e; omega)).below (Below.refl _ _).drew
          have f9 := b7.three
          have l9 := b7.lt
          have f10 := a7.three
          have l10 := a7.lt
          have f11 := c7.three
          have l11 := c7.lt
          clear b6 a6 c6 sB5 sa5 sb5
          go_wp2
          go_region
          clear f5 l5 f6 l6 f7 l7 f8 l8
          have HSK : Hid (SkR ((w5.setCell ⟨b, 1, none⟩ (.slice (some ⟨g, 0, none⟩) (n - 2) c)).setCell ⟨b, 2, none⟩ (.int .u64 (tot - (x1 + y1)))).drew b (b :: blk (some ⟨g, 0, none⟩)) most (out2 ks at0) (tot - (x1 + y1))) := by
            refine ⟨_, c, rfl, ?_, HO7.out, HBNE.out⟩
            rw [HOL.out]
            exact b7
          clear b7 a7 c7
          generalize ((w5.setCell ⟨b, 1, none⟩ (.slice (some ⟨g, 0, none⟩) (n - 2) c)).setCell ⟨b, 2, none⟩ (.int .u64 (tot - (x1 + y1)))).drew = W7 at HSK HF7 HO7 f9 l9 f10 l10 f11 l11 ⊢
          have HBO := HBOTH
          go_wp2_with fail
          refine (klay_any b _ most (tot - (x1 + y1)) (out2 ks at0) (x1 + y1) x2 (max x3 y3) W7 HSK.out (HGD.out.sub (out2_sub _ _)) (by rw [HOL.out]; omega) (by have := HXY.out; omega) (by have := HXY.out; omega) (by have := HXY.out; omega) (by have := HXY.out; have := HSO.out; omega)).mono ?_
          rintro e w8 ⟨rfl, S8, hg8, hS8, hF8⟩
          have HJ8 : Hid (PrsJ w w8 b S most ls (press1 ks)) := by
            refine ⟨S8, ?_, press1_gd HGD.out (by rw [HKN.out]; omega), ?_, ?_, fun k hk => ?_, ?_, ?_⟩
            · rw [press1_sum (by rw [HKN.out]; omega), HTOT.out]
              unfold press1
              rw [HAT.out, HBO.out]
              rw [show tot - (x1 + y1) + (x1 + y1, x2, (max x3 y3)).1 = tot by dsimp only; omega] at hS8
              exact hS8
            · rw [← press_step (by omega) (by rw [HKN.out]; have := HGT.out; omega)]; exact HPE.out
            · rw [press1_sum (by rw [HKN.out]; omega)]; exact HSE.out
            · rcases hg8 k hk with h | h
              · exact HGR.out k h
              · exact .inr (by have := HF7.out.size; have := HB2'.out.size; have := HFW.out.size; omega)
            · exact PrsF HGR.out HFW.out HB2'.out HF7.out hF8
            · have := press1_len (ls := ks) (by rw [HKN.out]; omega); rw [HKN.out] at this; have := HLE.out; have := HKN.out; omega
          clear hg8 hS8 hF8
          go_wp2
          go_step3
          refine ⟨rfl, ?_, ?_⟩
          · exact ⟨press1 ks, _, rfl, rfl, HJ8⟩
          · show lenK w8 b < lenK w1 b
            obtain ⟨S9, h9, _⟩ := HJ8.out
            rw [show lenK w8 b = (press1 ks).length from h9.lenK, HLK.out]
            have := press1_len (ls := ks) (by rw [HKN.out]; omega)
            rw [HKN.out] at this
            exact this
end Go.Proofs.Ytbmnebpjjghkpaa

