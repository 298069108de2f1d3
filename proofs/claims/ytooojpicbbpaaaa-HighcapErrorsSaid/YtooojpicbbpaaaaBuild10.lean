/- What is played: build. -/
import Derived.Test.YtooojpicbbpaaaaProg
import Derived.Test.YtooojpicbbpaaaaAlive10
namespace Go.Proofs.Ytooojpicbbpaaaa
open Go.RowKit

/-- Both lie side by side. -/
def Both (B : Nat) (w wr : World) (b m : Nat) (S T : List Nat) (most : Int) (l : List (Int × Int)) : Prop :=
  Two B w wr S T (High wr b S most (keptP sd most (allOf l)) (sumP l)) (DocL wr m T most (allOf l))
theorem Both.abide {B : Nat} {w wr w' : World} {b m : Nat} {S T : List Nat} {most : Int} {l : List (Int × Int)} (h : Both B w wr b m S T most l) (hb : Below wr.heap.size wr w') : Both B w w' b m S T most l :=
  Two.belowW h hb (fun k => k.below hb) (fun k => k.below hb)

/-- What the region's loads read. -/
def BlS (pB m n c : Nat) (A : Option Addr) (x y most : Int) (W : World) : Prop := At W pB #[.int .i64 x, .int .u64 y] 34 ∧ At W m #[.int .i64 most, .slice A n c] 31

theorem docL_at {w : World} {m : Nat} {T : List Nat} {most : Int} {ps : List (Int × Int)} (h : DocL w m T most ps) : ∃ A c, At w m #[.int .i64 most, .slice A ps.length c] 31 ∧ RdP w A ps ∧ T = m :: blk A := by
  obtain ⟨A, c, e, h⟩ := h
  exact ⟨A, c, h.at', h.own.rd, e⟩
/-- The document's row goes on. -/
theorem docL_set {w0 w w' : World} {m B : Nat} {T : List Nat} {most : Int} {ps qs : List (Int × Int)} {A : Option Addr} {c n : Nat} (h : DocL w m T most ps) (hb : Below w.heap.size w w') (ho : Own2 w.heap.size w' A c qs) (hn : qs.length = n) :
    DocL (w'.setCell ⟨m, 1, none⟩ (.slice A n c)) m (m :: blk A) most qs ∧ GrownS T (m :: blk A) w.heap.size ∧ (∀ k ∈ m :: blk A, k < (w'.setCell ⟨m, 1, none⟩ (.slice A n c)).heap.size) ∧ Frame T w (w'.setCell ⟨m, 1, none⟩ (.slice A n c)) := by
  obtain ⟨A0, c0, rfl, h⟩ := h
  have hk : ∀ k ∈ blk A, w.heap.size ≤ k ∧ k < w'.heap.size := fun k hk => by
    cases A with
    | none => simp [blk] at hk
    | some a => simp only [blk, List.mem_singleton] at hk; subst hk; exact ho.base_le a rfl
  have hm := h.at'.lt
  have hmn : m ∉ blk A := fun hm' => by have := (hk m hm').1; omega
  have hD : DocL (w'.setCell ⟨m, 1, none⟩ (.slice A n c)) m (m :: blk A) most qs := by
    subst hn
    exact ⟨A, c, rfl, (h.at'.below hb).set_any 1 _ rfl, (ho.mono (Nat.zero_le _)).frame (Frame.set [m] _ m 1 _ (by simp)) (fun k hk' e => by simp at e; subst e; exact hmn hk'), hmn⟩
  refine ⟨hD, fun k hk' => ?_, hD.lt, (Frame.of_below hb).setc (.inl (by simp)) 1 _⟩
  rcases List.mem_cons.1 hk' with rfl | hk'
  · exact .inl (by simp)
  · exact .inr (hk k hk').1

set_option maxRecDepth 100000 in
set_option maxHeartbeats 2000000 in
theorem build_any (A : Option Addr) (len cap : Nat) (l : List (Int × Int)) (most : Int) (w : World) (hl : l.length = len) (hR : RdP w A l) (hok : okP l) (hsm : Small most l) :
    Calls Try.prog 23 #[.int .i64 most, .slice A len cap] w fun e w' => ∃ b m S T, e = .returned (.tuple #[.pointer (some ⟨b, 0, none⟩), .pointer (some ⟨m, 0, none⟩)]) ∧ Both w.heap.size w w' b m S T most l := by
  have HR := Lib.hid hR
  have HO := Lib.hid hok
  have HLN := Lib.hid hl
  have HSM := Lib.hid hsm
  have hln60 : len ≤ 120 := by have := hsm.n; omega
  clear hR hok hl hsm
  go_enter Try.func23, Try.ntmps23
  go_wp2_with fail
  refine (lnew_any most w HSM.out.m.1 HSM.out.m.2).mono ?_
  rintro e w1 ⟨⟨b, S0, rfl, hbw, hWi, hHigh⟩, hb1⟩
  have HT : Hid (Two w.heap.size w w1 S0 [] (High w1 b S0 most [] 0) True) := ⟨hHigh, trivial, hWi, fun k hk => by simp at hk, fun k hk hn => by simp at hn, hb1, hb1.size⟩
  clear hbw hWi hHigh hb1
  obtain ⟨m, hm⟩ : ∃ m, w1.heap.size = m := ⟨_, rfl⟩
  have HB2 : Hid (Both w.heap.size w (w1.alloc (.cells #[.int .i64 most, .slice none 0 0] 31)) b m S0 [m] most (l.take 0)) := by
    subst hm
    have a1 := At.new w1 #[.int .i64 most, .slice none 0 0] 31
    have hb : Below w1.heap.size w1 (w1.alloc (.cells #[.int .i64 most, .slice none 0 0] 31)) := (Below.refl _ _).alloc (Nat.le_refl _) _
    exact HT.out.newY hb (fun k => k.below hb) (fun k hk => by have := a1.lt; simp at hk; subst hk; omega) ⟨none, 0, rfl, a1, Own2.nil _ _, by simp [blk]⟩
  go_wp2
  try rw [hm]
  generalize w1.alloc (.cells #[.int .i64 most, .slice none 0 0] 31) = w2 at HB2 ⊢
  clear HT hm
  go_loopw [10, 21] (fun _ i wr => ∃ k : Nat, ∃ S T, k ≤ len ∧ i = .int .i64 k ∧ Hid (Both w.heap.size w wr b m S T most (l.take k))) (fun _ i _ => len - (intOf i).toNat)
  case atStart => exact ⟨0, S0, [m], by omega, rfl, HB2⟩
  case round =>
    obtain ⟨k, S, T, hk, rfl, H⟩ := hrel
    clear HB2
    by_cases hlt : k < len
    · obtain ⟨g, o, rfl, hg, c1, c2⟩ := (HR.out.below (Two.below H.out)).at k (by have := HLN.out; omega)
      obtain ⟨⟨b1, b2⟩, b3, b4⟩ := HO.out.at k (by have := HLN.out; omega)
      have HK := Lib.hid (HSM.out.keptR k (by have := HLN.out; omega))
      have HA := Lib.hid (allOf_take l k (by have := HLN.out; omega))
      have HS := Lib.hid (sumP_take l k (by have := HLN.out; omega))
      have HX := Lib.hid (HSM.out.c _ (List.getElem_mem (show k < l.length by have := HLN.out; omega)))
      have HTS := Lib.hid (HSM.out.take k)
      have HOT : Hid (okP (allOf (l.take k))) := allOf_ok fun x hx => HO.out x (List.mem_of_mem_take hx)
      obtain ⟨⟨x, y⟩, hx⟩ : ∃ x, l[k]'(by have := HLN.out; omega) = x := ⟨_, rfl⟩
      rw [hx] at c1 c2 b1 b2 b3 b4 HK HA HS HX
      dsimp only at c1 c2 b1 b2 b3 b4 HK HA HS HX
      clear hx
      have HB : Hid (-9223372036854775808 ≤ x ∧ x ≤ 9223372036854775807) := ⟨b1, b2⟩
      have zH := Two.size H.out
      have hbp : Below wr.heap.size wr (wr.alloc (.cells #[.int .i64 x, .int .u64 y] 34)) := (Below.refl _ _).alloc (Nat.le_refl _) _
      have sP := At.new wr #[.int .i64 x, .int .u64 y] 34
      have HP : Hid (wr.heap.size ∉ S ∧ wr.heap.size ∉ T) := ⟨fun h => by have := (Two.ws H.out _ h).2; omega, fun h => by have := (Two.wt H.out _ h).2; omega⟩
      have H1 := Lib.hid (Both.abide H.out hbp)
      obtain ⟨pB, hpB⟩ : ∃ pB, wr.heap.size = pB := ⟨_, rfl⟩
      rw [hpB] at sP HP
      clear H hbp b1 b2 b3 b4
      go_wp2_with fail
      refine (ladd_any b S most _ x y _ _ (Two.x H1.out) HX.out.1 (by have := HTS.out.sum; have := HX.out; omega) HB.out).mono ?_
      rintro e w4 ⟨rfl, S3, hg3, hC3, hF3⟩
      replace sP := hF3.at sP HP.out.1
      have H3 := Two.stepX H1.out hg3 hC3 hC3.lt hF3 ((Two.y H1.out).frame hF3 (Two.ap H1.out).symm)
      rw [← HK.out, ← HS.out] at H3
      replace H3 := Lib.hid H3
      clear hF3 hg3 hC3 H1
      obtain ⟨A2, cap2, d1, hrd, _⟩ := docL_at (Two.y H3.out)
      have HRD := Lib.hid hrd
      have HLE : Hid ((allOf (l.take k)).length ≤ 120) := HTS.out.len
      obtain ⟨n, hn⟩ : ∃ n, (allOf (l.take k)).length = n := ⟨_, rfl⟩
      have HN := Lib.hid hn
      rw [hn] at d1
      obtain ⟨n2, hn2⟩ : ∃ n2, (rowAdd (allOf (l.take k)) x y).length = n2 := ⟨_, rfl⟩
      have HN2 := Lib.hid hn2
      have H4 : Hid (Two w.heap.size w w4.drew S3 T (High w4.drew b S3 most (keptP sd most (allOf (l.take (k + 1)))) (sumP (l.take (k + 1)))) (DocL w4.drew m T most (allOf (l.take k)))) := H3.out.belowW (Below.refl _ _).drew (fun k => k.below (Below.refl _ _).drew) (fun k => k.below (Below.refl _ _).drew)
      clear hrd hn hn2
      go_wp2
      try rw [hpB]
      obtain ⟨W4, hW4⟩ : ∃ W4, w4.drew = W4 := ⟨_, rfl⟩
      have sP4 := sP.drew
      have d4 := d1.drew
      have HRD4 := Lib.hid (HRD.out.below (Below.refl _ _).drew)
      rw [hW4] at sP4 d4 HRD4 H4
      have TK : BlS pB m n cap2 A2 x y most W4 := ⟨sP4, d4⟩
      refine wp_region_noPanic ?_
      refine wp_region_until (S := HeldS (BlS pB m n cap2 A2 x y most)) 12 (by kernel_rfl) ?_
      rw [hW4]
      have hHeld : HeldS (BlS pB m n cap2 A2 x y most) W4 := HeldS.mk' TK
      have hne : Nonempty (Held (BlS pB m n cap2 A2 x y most)) := ⟨⟨W4, TK⟩⟩
      have hneF : Nonempty (Held fun _ => True) := ⟨⟨W4, trivial⟩⟩
      have hfar1 := fun z : Held (BlS pB m n cap2 A2 x y most) => z.held.1.two
      have hfar2 := fun z : Held (BlS pB m n cap2 A2 x y most) => z.held.2.two
      clear hW4 sP d1 TK H3 HRD
      refine wpAnyU_run0F [true, true, true, true, false, true, false, true] 7 (by kernel_rfl) (by kernel_rfl) (fun _ _ _ _ h => h) (by kernel_rfl) hHeld ?_
      simp only [runOps_true, runOps_false, runOps_nil]
      repeat (first | go_big_quiet_skip | (go_big_quiet_want; go_big_quiet_op; go_big_quiet_on))
      refine wpQuiet_nil ?_
      refine wpAnyU_run0 [false, false, false, false, true, false, true, false, true] 4 (by kernel_rfl) (by kernel_rfl) (fun _ _ _ _ h => h) (by kernel_rfl) hHeld ?_
      simp only [runOps_true, runOps_false, runOps_nil]
      repeat (first | go_big_quiet_skip | (go_big_quiet_want; go_big_quiet_op; go_big_quiet_on))
      refine wpQuiet_nil ?_
      refine wpAnyU_ready (rs := [9]) (by kernel_rfl) (by simp) ?_
      refine AllReadyU.cons rfl (fun K hK => ?_) (AllReadyU.nil)
      go_simp
      go_wp2_with (go_at_call 12; refine (radd06_any A2 n cap2 _ x y W4 HN.out (by have := HLE.out; have := HN.out; omega) HRD4.out HOT.out HB.out (by have := HX.out; omega)).mono ?_; rintro e w5 ⟨A5, cap5, rfl, ho5, hb5⟩)
      rw [HN2.out]
      have H5 := docL_set (w0 := w) (B := 0) (Two.y H4.out) hb5 ho5 HN2.out
      have H6 := Two.stepY H4.out H5.2.1 H5.1 H5.2.2.1 H5.2.2.2 ((Two.x H4.out).frame H5.2.2.2 (Two.ap H4.out))
      rw [← HA.out] at H6
      replace H6 := Lib.hid H6
      replace sP4 := sP4.below hb5
      replace d4 := d4.below hb5
      have f4 := d4.two
      have l4 := d4.lt
      refine hK.out _ _ (fun _ => HeldS.mk' ⟨sP4, d4⟩) ?_
      clear hK K hfar1 hfar2 H5 ho5 hb5 H4
      replace hHeld : HeldS (BlS pB m n cap2 A2 x y most) w5 := HeldS.mk' ⟨sP4, d4⟩
      refine wpAnyU_run0F [false, false, false, false, false, false, false, false, false, false, true, true] 1 (by kernel_rfl) (by kernel_rfl) (fun _ _ _ _ h => h) (by kernel_rfl) hHeld ?_
      simp only [runOps_true, runOps_false, runOps_nil]
      repeat (first | go_big_quiet_skip | (go_big_quiet_want; go_big_quiet_op; go_big_quiet_on))
      refine wpQuiet_nil ?_
      clear hHeld hne hneF
      refine wpAnyU_ready (rs := [12]) (by kernel_rfl) (by simp) ?_
      refine AllReadyU.cons rfl (fun K hK => ?_) (AllReadyU.nil)
      go_simp
      go_wp2
      refine hK.out _ _ (fun h => late_no h (by kernel_rfl)) ?_
      clear hK K
      refine wpAnyU_done (by kernel_rfl) ?_ _
      refine NoPanic.normal ?_
      go_wp2
      go_roundw
      case rel => exact ⟨k + 1, S3, m :: blk A5, by omega, by simp, H6⟩
      case measure => simp [intOf]; omega
    · obtain rfl : k = len := by omega
      have H1' := H.out
      rw [List.take_of_length_le (by have := HLN.out; omega)] at H1'
      replace H1' := Lib.hid H1'
      clear H
      go_wp2
      go_ret2
      exact ⟨_, _, S, T, rfl, H1'.out⟩
end Go.Proofs.Ytooojpicbbpaaaa

