/- Contract of package lumps: lay. -/
import Derived.Test.YtbmnebpjjghkpaaProg
import Derived.Test.YtbmnebpjjghkpaaLumpSk
namespace Go.Proofs.Ytbmnebpjjghkpaa
open Go.RowKit

theorem flatL_set (ls : List Lu) (k : Nat) (v : Int) (hk : k < ls.length) : flatL (ls.set k (v, (lget ls k).2.1, (lget ls k).2.2)) = (flatL ls).set (k * 3) (.int .u64 v) := by
  induction ls generalizing k with
  | nil => simp at hk
  | cons x ls ih =>
    cases k with
    | zero => simp [flatL, lget]
    | succ k =>
      have := ih k (by simpa using hk)
      rw [List.set_cons_succ, show lget (x :: ls) (k + 1) = lget ls k from rfl, show flatL (x :: ls) = [.int .u64 x.1, .int .i64 x.2.1, .int .i64 x.2.2] ++ flatL ls from rfl, show (k + 1) * 3 = k * 3 + 1 + 1 + 1 by omega]
      show [Value.int .u64 x.1, .int .i64 x.2.1, .int .i64 x.2.2] ++ flatL _ = _
      rw [this]
      simp only [List.cons_append, List.nil_append, List.set_cons_succ]
/-- A store into a row of the call's own. -/
theorem own_setCell {base k elem g n cap o : Nat} {xs : List Value} {w : World} (h : w.ownsRow base elem k (.slice (some ⟨g, 0, none⟩) n cap) n xs) (ho : o < n * k) (v : Value) :
    (w.setCell ⟨g, o, none⟩ v).ownsRow base elem k (.slice (some ⟨g, 0, none⟩) n cap) n (xs.set o v) := by
  have hl := h.1
  rcases h.2 with ⟨h, _⟩ | ⟨g', cap', cur, h, hbg, hg, hnc, hcm, hcs, htake⟩
  · simp at h
  · simp only [Value.slice.injEq, Option.some.injEq, Addr.mk.injEq, and_true, true_and] at h
    obtain ⟨rfl, rfl⟩ := h
    rw [setCell_eq_setRow w g o cur elem (0, 0) v hg]
    refine ⟨by rw [List.length_set]; exact hl, .inr ⟨g, cap, _, rfl, hbg, setRow_heap w g cur _ elem _ hg, hnc, hcm, by simpa using hcs, ?_⟩⟩
    rw [Array.toList_setIfInBounds, ← htake]
    apply List.ext_getElem?
    intro j
    simp only [List.getElem?_take, List.getElem?_set, List.length_take, Array.length_toList]
    have hnk : n * k ≤ cap * k := Nat.mul_le_mul_right _ hnc
    by_cases e : o = j
    · subst e
      simp only [ho, if_true]
      rw [Nat.min_eq_left (by omega)]
      simp [ho]
      omega
    · simp [e]
theorem own3_frz {w : World} {g c : Nat} {ls : List Lu} (h : Own3 0 w (some ⟨g, 0, none⟩) c ls) (o : Nat) : w.frozen? ⟨g, o, none⟩ = false := by
  rcases h.2 with ⟨e, _⟩ | ⟨g', cp, cur, e, _, hc, _⟩
  · cases e
  · simp only [Value.slice.injEq, Option.some.injEq, Addr.mk.injEq] at e
    obtain ⟨⟨rfl, _⟩, _⟩ := e
    simp [World.frozen?, hc]
theorem own3_set {w : World} {g c k : Nat} {v : Int} {ls : List Lu} (h : Own3 0 w (some ⟨g, 0, none⟩) c ls) (hk : k < ls.length) : Own3 0 (w.setCell ⟨g, k * 3, none⟩ (.int .u64 v)) (some ⟨g, 0, none⟩) c (ls.set k (v, (lget ls k).2.1, (lget ls k).2.2)) := by
  have hown := own_setCell h (o := k * 3) (by omega) (.int .u64 v)
  rw [← flatL_set ls k v hk] at hown
  show World.ownsRow _ _ _ _ _ _ _
  rw [List.length_set]
  exact hown

/-- What lay leaves. -/
def LayR (b : Nat) (S : List Nat) (most : Int) (ls : List Lu) (tot : Int) (l : Lu) (w w' : World) : Prop :=
  ∃ S', GrownS S S' w.heap.size ∧ SkR w' b S' most (laid ls l) (tot + l.1) ∧ Frame S w w'

/-- What the region's loads read. -/
def LayS (b lB n c : Nat) (A : Option Addr) (most tot l1 l2 l3 : Int) (W : World) : Prop := At W b #[.int .i64 most, .slice A n c, .int .u64 tot] 75 ∧ At W lB #[.int .u64 l1, .int .i64 l2, .int .i64 l3] 71

set_option maxRecDepth 100000 in
set_option maxHeartbeats 4000000 in
theorem klay_any (b : Nat) (S : List Nat) (most tot : Int) (ls : List Lu) (l1 l2 l3 : Int) (w : World) (h : SkR w b S most ls tot) (hg : GdL ls) (hl : ls.length ≤ 1048576) (h1 : 0 < l1) (h0 : 0 ≤ tot) (ht : tot + l1 ≤ 9223372036854775807) (hs : sumN ls + l1 ≤ 9223372036854775807) :
    Calls Try.prog 35 #[.pointer (some ⟨b, 0, none⟩), .agg #[.int .u64 l1, .int .i64 l2, .int .i64 l3]] w fun e w' => e = .returned (.tuple #[]) ∧ LayR b S most ls tot (l1, l2, l3) w w' := by
  have hlt := h.lt
  obtain ⟨A, c, rfl, hB⟩ := h
  have s1 := hB.at'
  obtain ⟨n, hn⟩ : ∃ n, ls.length = n := ⟨_, rfl⟩
  have HNN := Lib.hid hn
  rw [hn] at s1 hl
  have aL := At.new w #[.int .u64 l1, .int .i64 l2, .int .i64 l3] 71
  have hbL : Below w.heap.size w (w.alloc (.cells #[.int .u64 l1, .int .i64 l2, .int .i64 l3] 71)) := (Below.refl _ _).alloc (Nat.le_refl _) _
  obtain ⟨lB, hlB⟩ : ∃ lB, w.heap.size = lB := ⟨_, rfl⟩
  have HLB : Hid (w.heap.size = lB ∧ ∀ k ∈ b :: blk A, k < lB) := ⟨hlB, by rw [← hlB]; exact hlt⟩
  rw [hlB] at aL
  have HG := Lib.hid hg
  have HH : Hid (0 < l1 ∧ 0 ≤ tot ∧ tot + l1 ≤ 9223372036854775807 ∧ sumN ls + l1 ≤ 9223372036854775807) := ⟨h1, h0, ht, hs⟩
  have HBS := Lib.hid hB
  have HBL := Lib.hid hbL
  have b1 := (s1.below hbL).drew
  have aL1 := aL.drew
  clear hB hlt hg h1 h0 ht hs hn
  go_enter Try.func35, Try.ntmps35
  go_wp2
  try rw [hlB]
  clear hlB
  obtain ⟨W1, hW1⟩ : ∃ W1, (w.alloc (.cells #[.int .u64 l1, .int .i64 l2, .int .i64 l3] 71)).drew = W1 := ⟨_, rfl⟩
  rw [hW1] at b1 aL1
  have HB1 : Hid (Below w.heap.size w W1) := by rw [← hW1]; exact hbL.drew
  haveI : Nonempty (Held (LayS b lB n c A most tot l1 l2 l3)) := ⟨⟨W1, b1, aL1⟩⟩
  have hfar1 := fun z : Held (LayS b lB n c A most tot l1 l2 l3) => z.held.1.three
  have hfar2 := fun z : Held (LayS b lB n c A most tot l1 l2 l3) => z.held.2.three
  refine wp_region_noPanic ?_
  refine wp_region_held_drew (S := HeldS (LayS b lB n c A most tot l1 l2 l3)) (by kernel_rfl) (HeldS.mk' (hW1 ▸ ⟨b1, aL1⟩)) (fun hHeld => ?_)
  rw [hW1] at hHeld ⊢
  clear hW1 hbL s1 aL
  refine wpAnyH_run0 [true, true, true, true, true] 6 (by kernel_rfl) (by kernel_rfl) (fun _ _ _ _ h => h) (by kernel_rfl) hHeld ?_
  simp only [runOps_true, runOps_false, runOps_nil]
  repeat (first | go_big_quiet_skip | (go_big_quiet_want; go_big_quiet_op; go_big_quiet_on))
  refine wpQuiet_nil ?_
  refine wpAnyH_ready (rs := [5]) (by kernel_rfl) (by simp) ?_
  refine AllReadyH.cons rfl (fun K hK => ?_) AllReadyH.nil
  go_simp
  go_wp2_with (go_at_call 43; refine (bsfl_any A c n ls l1 l2 l3 W1 HNN.out (HBS.out.own.rd.below HB1.out) HG.out (by omega)).mono ?_; rintro e w2 ⟨⟨k, f, rfl, hp, hf⟩, hb⟩)
  refine hK.out _ _ ?_ (fun hHeld => ?_)
  clear hK K
  · exact HeldS.mk' ⟨b1.below hb, aL1.below hb⟩
  have HB2 := Lib.hid (keep1 HB1.out hb)
  have b2 := b1.below hb
  have aL2 := aL1.below hb
  have HP : Hid (PosL ls (l1, l2, l3) k) := hp
  have HF : Hid (f = true ↔ k < ls.length ∧ lsame (lget ls k) (l1, l2, l3)) := hf
  have hkn : k ≤ n := by have := hp.le; have := HNN.out; omega
  clear hb b1 aL1 hp hf hfar1 hfar2
  refine wpAnyH_run0 [false, false, false, false, false, false, true, true, true, true, true] 0 (by kernel_rfl) (by kernel_rfl) (fun _ _ _ _ h => h) (by kernel_rfl) hHeld ?_
  simp only [runOps_true, runOps_false, runOps_nil]
  repeat (first | go_big_quiet_skip | (go_big_quiet_want; go_big_quiet_op; go_big_quiet_on))
  refine wpQuiet_nil ?_
  refine wpAnyH_done (by kernel_rfl) ?_ _
  refine NoPanic.normal ?_
  clear hHeld HB1
  have HO2 := Lib.hid (HBS.out.own.below HB2.out)
  cases f with
  | true =>
    obtain ⟨hk, hsm⟩ := HF.out.1 rfl
    rw [HNN.out] at hk
    have HLD := Lib.hid (laid_found HG.out HP.out (by rw [HNN.out]; exact hk) hsm)
    obtain ⟨g, rfl⟩ : ∃ g, A = some ⟨g, 0, none⟩ := by
      rcases HO2.out.2 with ⟨_, h0⟩ | ⟨g, cp, cur, h, _⟩
      · have := HNN.out; omega
      · simp only [Value.slice.injEq] at h; exact ⟨g, h.1⟩
    obtain ⟨g', o', e, hg', c1, c2, c3⟩ := HO2.out.rd.at' k (by rw [HNN.out]; exact hk)
    cases e
    rw [Nat.zero_add] at c1
    obtain ⟨y, hy⟩ : ∃ y, (lget ls k).1 = y := ⟨_, rfl⟩
    have HY := Lib.hid hy
    rw [hy] at c1
    have hyl : 0 < y ∧ y ≤ sumN ls := by
      rw [← hy]
      refine ⟨HG.out.pos _ (mem_lget (by rw [HNN.out]; exact hk)), ?_⟩
      have := sumI_le (p := fun _ => true) (ls := ls.take k ++ ls.drop (k + 1)) (fun x hx => HG.out.pos x ((List.mem_append.1 hx).elim List.mem_of_mem_take List.mem_of_mem_drop))
      have e : sumN ls = sumN (ls.take k) + ((lget ls k).1 + sumN (ls.drop (k + 1))) := by
        conv => lhs; rw [← List.take_append_drop k ls, ldrop_cons (by rw [HNN.out]; exact hk)]
        rw [sumN_append, sumN_cons]
      rw [sumI_true, sumN_append] at this
      omega
    have hw : IntKind.u64.wrap (y + l1) = y + l1 := by have := HH.out; simp only [IntKind.wrap_u64]; omega
    have hw2 : IntKind.u64.wrap (tot + l1) = tot + l1 := by have := HH.out; simp only [IntKind.wrap_u64]; omega
    have hbg : b ≠ g := fun e => HBS.out.ne (by simp [blk, e])
    have hlg : g ≠ lB := fun e => by have := HLB.out.2 g (by simp [blk]); omega
    have hlb : b ≠ lB := fun e => by have := HLB.out.2 b (by simp); omega
    have hfz := own3_frz HO2.out (k * 3)
    have k0 : (0 : Int) ≤ k := by omega
    have k1 : (k : Int) < n := by omega
    have f2 := b2.three
    have l2' := b2.lt
    have g2 := aL2.three
    have m2 := aL2.lt
    have b3 : At (w2.setCell ⟨g, k * 3, none⟩ (.int .u64 (y + l1))).drew b _ _ := (b2.set_other (p := ⟨g, k * 3, none⟩) (by show b ≠ g; exact hbg) (.int .u64 (y + l1))).drew
    have a3 : At (w2.setCell ⟨g, k * 3, none⟩ (.int .u64 (y + l1))).drew lB _ _ := (aL2.set_other (p := ⟨g, k * 3, none⟩) (by show lB ≠ g; omega) (.int .u64 (y + l1))).drew
    have HR : Hid (LayR b (b :: blk (some ⟨g, 0, none⟩)) most ls tot (l1, l2, l3) w ((((w2.setCell ⟨g, k * 3, none⟩ (.int .u64 (y + l1))).drew).setCell ⟨b, 2, none⟩ (.int .u64 (tot + l1))).drew)) := by
      have ho3 := own3_set (v := y + l1) HO2.out (by rw [HNN.out]; exact hk)
      have e1 : ls.set k (y + l1, (lget ls k).2.1, (lget ls k).2.2) = laid ls (l1, l2, l3) := by rw [HLD.out, HY.out]
      rw [e1] at ho3
      have hll : (laid ls (l1, l2, l3)).length = n := by rw [← e1, List.length_set, HNN.out]
      refine ⟨_, GrownS.refl _ _, ⟨_, c, rfl, ?_, ?_, HBS.out.ne⟩, ?_⟩
      · rw [hll]
        exact (b3.set_any 2 _ rfl).drew
      · exact ((ho3.below (Below.refl _ _).drew).frame (Frame.set [b] _ b 2 _ (by simp)) (fun k hk e => by simp [blk] at hk e; omega)).below (Below.refl _ _).drew
      · exact ((((Frame.of_below HB2.out).setc (.inl (by simp [blk])) _ _).drew).setc (.inl (by simp)) _ _).drew
    have f3 := b3.three
    have l3' := b3.lt
    have g3 := a3.three
    have m3 := a3.lt
    clear b2 aL2 HO2 hyl hy b3 a3 hsm
    go_wp2
    go_region
    go_wp2
    go_region
    exact bodyPost_end (results_none rfl _ _ _) rfl ⟨rfl, HR.out⟩
  | false =>
    have HLD := Lib.hid (laid_none HG.out HP.out (fun h => by have := HF.out.2 h; cases this))
    have hw2 : IntKind.u64.wrap (tot + l1) = tot + l1 := by have := HH.out; simp only [IntKind.wrap_u64]; omega
    have b3 := b2.drew
    have a3 := aL2.drew
    have HO3 := Lib.hid (HO2.out.below (Below.refl _ _).drew)
    have HB3 := Lib.hid (HB2.out.drew)
    clear HO2 HF hw2
    go_wp2
    obtain ⟨W3, hW3⟩ : ∃ W3, w2.drew = W3 := ⟨_, rfl⟩
    rw [hW3] at b3 a3 HO3 HB3
    have TK : LayS b lB n c A most tot l1 l2 l3 W3 := ⟨b3, a3⟩
    refine wp_region_noPanic ?_
    refine wp_region_until (S := HeldS (LayS b lB n c A most tot l1 l2 l3)) 11 (by kernel_rfl) ?_
    rw [hW3]
    have hHeld : HeldS (LayS b lB n c A most tot l1 l2 l3) W3 := HeldS.mk' TK
    have hne : Nonempty (Held (LayS b lB n c A most tot l1 l2 l3)) := ⟨⟨W3, TK⟩⟩
    have hneF : Nonempty (Held fun _ => True) := ⟨⟨W3, trivial⟩⟩
    have hfar1 := fun z : Held (LayS b lB n c A most tot l1 l2 l3) => z.held.1.three
    have hfar2 := fun z : Held (LayS b lB n c A most tot l1 l2 l3) => z.held.2.three
    clear hW3 b2 aL2 TK
    refine wpAnyU_run0F [true, true, true, true, false, true] 7 (by kernel_rfl) (by kernel_rfl) (fun _ _ _ _ h => h) (by kernel_rfl) hHeld ?_
    simp only [runOps_true, runOps_false, runOps_nil]
    repeat (first | go_big_quiet_skip | (go_big_quiet_want; go_big_quiet_op; go_big_quiet_on))
    refine wpQuiet_nil ?_
    refine wpAnyU_run0 [false, false, false, false, true, false, true] 5 (by kernel_rfl) (by kernel_rfl) (fun _ _ _ _ h => h) (by kernel_rfl) hHeld ?_
    simp only [runOps_true, runOps_false, runOps_nil]
    repeat (first | go_big_quiet_skip | (go_big_quiet_want; go_big_quiet_op; go_big_quiet_on))
    refine wpQuiet_nil ?_
    clear hfar1 hfar2 hHeld
    obtain ⟨vB, hvB⟩ : ∃ vB, W3.heap.size = vB := ⟨_, rfl⟩
    have hbV : Below W3.heap.size W3 (W3.alloc (.cells #[.int .u64 l1, .int .i64 l2, .int .i64 l3] 71)) := (Below.refl _ _).alloc (Nat.le_refl _) _
    have aV := At.new W3 #[.int .u64 l1, .int .i64 l2, .int .i64 l3] 71
    have HVB : Hid (W3.heap.size = vB) := hvB
    rw [hvB] at aV
    have b4 := b3.below hbV
    have a4 := a3.below hbV
    have HO4 := Lib.hid (HO3.out.below hbV)
    have HB4 := Lib.hid (keep1 HB3.out hbV)
    clear hbV b3 a3 HO3
    refine wpAnyU_ready (rs := [7]) (by kernel_rfl) (by simp) ?_
    refine AllReadyU.cons rfl (fun K hK => ?_) (AllReadyU.nil)
    go_simp
    try rw [hvB]
    clear hvB
    generalize W3.alloc (.cells #[.int .u64 l1, .int .i64 l2, .int .i64 l3] 71) = W4 at aV b4 a4 HO4 HB4 ⊢
    refine hK.out _ _ (fun _ => HeldS.mk' ⟨b4, a4⟩) ?_
    clear hK K
    have HINS := Lib.hid (insert_any 0 A c k ls (l1, l2, l3) vB W4 HO4.out HP.out.le (by rw [HNN.out]; exact hl) aV (fun k hk e => by have h1 := HLB.out.2 k (by simp [hk]); have h2 := HB3.out.size; have h3 := HVB.out; have := HLB.out.1; omega) (Nat.zero_le _))
    rw [HNN.out] at HINS
    refine wpAnyU_ready (rs := [8]) (by kernel_rfl) (by simp) ?_
    refine AllReadyU.cons rfl (fun K hK => ?_) (AllReadyU.nil)
    go_simp
    go_wp2_with (go_at_call 44; refine HINS.out.mono ?_; rintro e w5 ⟨A5, c5, rfl, ho5, hF5, hk5⟩)
    have hbA : b ∉ blk A := HBS.out.ne
    have hlA : lB ∉ blk A := fun h => by have := HLB.out.2 lB (by simp [h]); omega
    rw [HNN.out]
    have b5 := hF5.at b4 hbA
    have a5 := hF5.at a4 hlA
    refine hK.out _ _ (fun _ => HeldS.mk' ⟨b5, a5⟩) ?_
    clear hK K HINS
    have hHeld : HeldS (LayS b lB n c A most tot l1 l2 l3) w5 := HeldS.mk' ⟨b5, a5⟩
    refine wpAnyU_run0F [false, false, false, false, false, false, false, false, false, true, true] 1 (by kernel_rfl) (by kernel_rfl) (fun _ _ _ _ h => h) (by kernel_rfl) hHeld ?_
    simp only [runOps_true, runOps_false, runOps_nil]
    repeat (first | go_big_quiet_skip | (go_big_quiet_want; go_big_quiet_op; go_big_quiet_on))
    refine wpQuiet_nil ?_
    clear hHeld hne hneF
    have f5 := b5.three
    have m5 := b5.lt
    have hlb : lB ≠ b := fun e => by have := HLB.out.2 b (by simp); omega
    have hw2 : IntKind.u64.wrap (tot + l1) = tot + l1 := by have := HH.out; simp only [IntKind.wrap_u64]; omega
    have b6 : At (w5.setCell ⟨b, 1, none⟩ (.slice A5 (n + 1) c5)) b _ _ := b5.set_any 1 _ rfl
    have a6 : At (w5.setCell ⟨b, 1, none⟩ (.slice A5 (n + 1) c5)) lB _ _ := a5.set_other (p := ⟨b, 1, none⟩) (by show lB ≠ b; exact hlb) _
    have HR : Hid (LayR b (b :: blk A) most ls tot (l1, l2, l3) w (((w5.setCell ⟨b, 1, none⟩ (.slice A5 (n + 1) c5)).setCell ⟨b, 2, none⟩ (.int .u64 (tot + l1))).drew)) := by
      have hll : (laid ls (l1, l2, l3)).length = n + 1 := by rw [HLD.out, List.length_append, List.length_cons, List.length_take, List.length_drop, HNN.out]; omega
      have hbn : b ∉ blk A5 := fun hm => by
        rcases hk5 b hm with h | h
        · exact hbA h
        · have := HLB.out.2 b (by simp); have h2 := HB4.out.size; have := HLB.out.1; omega
      refine ⟨b :: blk A5, fun k hk => ?_, ⟨A5, c5, rfl, ?_, ?_, hbn⟩, ?_⟩
      · rcases List.mem_cons.1 hk with rfl | hk
        · exact .inl (by simp)
        · rcases hk5 k hk with h | h
          · exact .inl (by simp [h])
          · exact .inr (Nat.le_trans HB4.out.size h)
      · rw [hll]
        exact (b6.set_any 2 _ rfl).drew
      · rw [HLD.out]
        exact ((ho5.frame (Frame.set [b] _ b 1 _ (by simp)) (fun k hk e => by simp at e; subst e; exact hbn hk)).frame (Frame.set [b] _ b 2 _ (by simp)) (fun k hk e => by simp at e; subst e; exact hbn hk)).below (Below.refl _ _).drew
      · exact ((((Frame.of_below HB4.out).trans (hF5.mono fun k hk => by simp [hk])).setc (.inl (by simp)) _ _).setc (.inl (by simp)) _ _).drew
    have f6 := b6.three
    have m6 := b6.lt
    have g6 := a6.three
    have n6 := a6.lt
    clear b4 a4 b5 a5 aV ho5 hF5 hk5 hbA hlA
    refine wpAnyU_ready (rs := [11]) (by kernel_rfl) (by simp) ?_
    refine AllReadyU.cons rfl (fun K hK => ?_) (AllReadyU.nil)
    go_simp
    go_wp2
    refine hK.out _ _ (fun h => late_no h (by kernel_rfl)) ?_
    clear hK K
    refine wpAnyU_done (by kernel_rfl) ?_ _
    refine NoPanic.normal ?_
    clear f5 m5 b6 a6
    go_wp2
    go_region
    exact bodyPost_end (results_none rfl _ _ _) rfl ⟨rfl, HR.out⟩
end Go.Proofs.Ytbmnebpjjghkpaa

