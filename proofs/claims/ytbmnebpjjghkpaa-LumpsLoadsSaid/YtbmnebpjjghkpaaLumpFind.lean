/- The order of lumps; slices.BinarySearchFunc at lumps. -/
import Derived.Test.YtbmnebpjjghkpaaProg
import Derived.Test.YtbmnebpjjghkpaaLumpRow
import Derived.Test.YtbmnebpjjghkpaaFar
import Derived.BigQuiet
import Derived.Deep.QuietTactic
namespace Go.Proofs.Ytbmnebpjjghkpaa
open Go.RowKit

/-- Ahead, the same, or behind. -/
def ordV (a b : Lu) : Int := if lless a b then -1 else if lsame a b then 0 else 1
theorem ordV_neg {a b : Lu} : ordV a b < 0 ↔ lless a b := by
  unfold ordV
  split
  · next h => exact ⟨fun _ => h, fun _ => by omega⟩
  · next h =>
    split
    · exact ⟨fun k => by omega, fun k => absurd k h⟩
    · exact ⟨fun k => by omega, fun k => absurd k h⟩
theorem ordV_zero {a b : Lu} : ordV a b = 0 ↔ lsame a b := by
  unfold ordV
  split
  · next h => exact ⟨fun k => by omega, fun k => absurd k (lless_not_same h)⟩
  · split
    · next h => exact ⟨fun _ => h, fun _ => rfl⟩
    · next h => exact ⟨fun k => by omega, fun k => absurd k h⟩
abbrev lv (a : Lu) : Value := .agg #[.int .u64 a.1, .int .i64 a.2.1, .int .i64 a.2.2]
theorem order_any (n1 l1 h1 n2 l2 h2 : Int) (w : World) :
    Calls Try.prog 33 #[.agg #[.int .u64 n1, .int .i64 l1, .int .i64 h1], .agg #[.int .u64 n2, .int .i64 l2, .int .i64 h2]] w fun e w' => e = .returned (.int .i64 (ordV (n1, l1, h1) (n2, l2, h2))) ∧ Below w.heap.size w w' := by
  rcases Int.lt_trichotomy l1 l2 with hl | hl | hl
  · have HE : Hid (ordV (n1, l1, h1) (n2, l2, h2) = -1) := by show _ = _; unfold ordV; rw [if_pos (.inl hl)]
    rw [HE.out]
    go_enter Try.func33, Try.ntmps33
    go_wp2
    go_ret
    exact ⟨rfl, (by repeat (first | with_reducible assumption | with_reducible exact Below.refl _ _ | with_reducible refine Below.drew ?_ | with_reducible refine Below.drewN ?_ _ | with_reducible refine Below.setCell ?_ (by first | omega | (simp; done) | (simp; omega)) _ | with_reducible refine Below.alloc ?_ (by first | omega | (simp; done) | (simp; omega) | (simp [World.setCell]; omega)) _))⟩
  · subst hl
    have hd0 : decide (l1 < l1) = false := decide_eq_false (by omega)
    rcases Int.lt_trichotomy h1 h2 with hh | hh | hh
    · have HE : Hid (ordV (n1, l1, h1) (n2, l1, h2) = -1) := by show _ = _; unfold ordV; rw [if_pos (.inr ⟨rfl, hh⟩)]
      rw [HE.out]
      go_enter Try.func33, Try.ntmps33
      go_wp2
      go_ret
      exact ⟨rfl, (by repeat (first | with_reducible assumption | with_reducible exact Below.refl _ _ | with_reducible refine Below.drew ?_ | with_reducible refine Below.drewN ?_ _ | with_reducible refine Below.setCell ?_ (by first | omega | (simp; done) | (simp; omega)) _ | with_reducible refine Below.alloc ?_ (by first | omega | (simp; done) | (simp; omega) | (simp [World.setCell]; omega)) _))⟩
    · subst hh
      have HE : Hid (ordV (n1, l1, h1) (n2, l1, h1) = 0) := ordV_zero.2 ⟨rfl, rfl⟩
      rw [HE.out]
      go_enter Try.func33, Try.ntmps33
      go_wp2
      go_ret
      exact ⟨rfl, (by repeat (first | with_reducible assumption | with_reducible exact Below.refl _ _ | with_reducible refine Below.drew ?_ | with_reducible refine Below.drewN ?_ _ | with_reducible refine Below.setCell ?_ (by first | omega | (simp; done) | (simp; omega)) _ | with_reducible refine Below.alloc ?_ (by first | omega | (simp; done) | (simp; omega) | (simp [World.setCell]; omega)) _))⟩
    · have HE : Hid (ordV (n1, l1, h1) (n2, l1, h2) = 1) := by
        show _ = _
        have e1 : ¬ lless (n1, l1, h1) (n2, l1, h2) := by unfold lless; dsimp only; omega
        have e2 : ¬ lsame (n1, l1, h1) (n2, l1, h2) := by unfold lsame; dsimp only; omega
        unfold ordV
        rw [if_neg e1, if_neg e2]
      have n1' : ¬ h1 < h2 := by omega
      have n2' : (h1 == h2) = false := beq_eq_false_iff_ne.2 (by omega)
      have hd1 : decide (h1 < h2) = false := decide_eq_false n1'
      clear n1' hh
      rw [HE.out]
      go_enter Try.func33, Try.ntmps33
      go_wp2
      go_ret
      exact ⟨rfl, (by repeat (first | with_reducible assumption | with_reducible exact Below.refl _ _ | with_reducible refine Below.drew ?_ | with_reducible refine Below.drewN ?_ _ | with_reducible refine Below.setCell ?_ (by first | omega | (simp; done) | (simp; omega)) _ | with_reducible refine Below.alloc ?_ (by first | omega | (simp; done) | (simp; omega) | (simp [World.setCell]; omega)) _))⟩
  · have HE : Hid (ordV (n1, l1, h1) (n2, l2, h2) = 1) := by
      show _ = _
      have e1 : ¬ lless (n1, l1, h1) (n2, l2, h2) := by unfold lless; dsimp only; omega
      have e2 : ¬ lsame (n1, l1, h1) (n2, l2, h2) := by unfold lsame; dsimp only; omega
      unfold ordV
      rw [if_neg e1, if_neg e2]
    have hd0 : decide (l1 < l2) = false := decide_eq_false (by omega)
    have n2' : (l1 == l2) = false := beq_eq_false_iff_ne.2 (by omega)
    clear hl
    rw [HE.out]
    go_enter Try.func33, Try.ntmps33
    go_wp2
    go_ret
    exact ⟨rfl, (by repeat (first | with_reducible assumption | with_reducible exact Below.refl _ _ | with_reducible refine Below.drew ?_ | with_reducible refine Below.drewN ?_ _ | with_reducible refine Below.setCell ?_ (by first | omega | (simp; done) | (simp; omega)) _ | with_reducible refine Below.alloc ?_ (by first | omega | (simp; done) | (simp; omega) | (simp [World.setCell]; omega)) _))⟩

/-- Where a lump stands in a row, or would. -/
structure PosL (ls : List Lu) (q : Lu) (k : Nat) : Prop where
  le : k ≤ ls.length
  under : ∀ j, j < k → lless (lget ls j) q
  over : ∀ j, k ≤ j → j < ls.length → ¬ lless (lget ls j) q
/-- What BinarySearchFunc answers. -/
def BflR (ls : List Lu) (q : Lu) (e : Ending) : Prop := ∃ k : Nat, ∃ f : Bool, e = .returned (.tuple #[.int .i64 k, .bool f]) ∧ PosL ls q k ∧ (f = true ↔ k < ls.length ∧ lsame (lget ls k) q)
theorem gdl_lt {ls : List Lu} (h : GdL ls) {i j : Nat} (hij : i < j) (hj : j < ls.length) : lless (lget ls i) (lget ls j) := by
  unfold lget
  rw [List.getD_eq_getElem?_getD, List.getD_eq_getElem?_getD, List.getElem?_eq_getElem (by omega), List.getElem?_eq_getElem hj]
  exact List.pairwise_iff_getElem.1 h.srt i j (by omega) hj hij

set_option maxRecDepth 100000 in
set_option maxHeartbeats 2000000 in
theorem bsfl_any (A : Option Addr) (c len : Nat) (ls : List Lu) (qn ql qh : Int) (w : World) (hlen : ls.length = len) (h : RdL w A ls) (hg : GdL ls) (hl : len ≤ 1099511627776) :
    Calls Try.prog 43 #[.slice A len c, .agg #[.int .u64 qn, .int .i64 ql, .int .i64 qh], .func (.func 33) #[] #[]] w fun e w' => BflR ls (qn, ql, qh) e ∧ Below w.heap.size w w' := by
  have HA := Lib.hid (fun j (hj : j < ls.length) => h.at' j hj)
  have HS := Lib.hid (fun (x y : Nat) (h : x < y) (hy : y < ls.length) => gdl_lt hg h hy)
  rw [hlen] at HA HS
  replace hlen := Lib.hid hlen
  clear h hg
  obtain ⟨q, hq⟩ : ∃ q : Lu, (qn, ql, qh) = q := ⟨_, rfl⟩
  have HQ := Lib.hid hq
  rw [hq]
  clear hq
  have aT := At.new w #[.int .u64 qn, .int .i64 ql, .int .i64 qh] 71
  have hbT : Below w.heap.size w (w.alloc (.cells #[.int .u64 qn, .int .i64 ql, .int .i64 qh] 71)) := (Below.refl _ _).alloc (Nat.le_refl _) _
  obtain ⟨tB, htB⟩ : ∃ tB, w.heap.size = tB := ⟨_, rfl⟩
  rw [htB] at aT
  have HTB := Lib.hid htB
  go_enter Try.func43, Try.ntmps43
  go_wp2
  try rw [htB]
  clear htB
  generalize w.alloc (.cells #[.int .u64 qn, .int .i64 ql, .int .i64 qh] 71) = W0 at aT hbT ⊢
  go_loopw [9, 10, 11] (fun I J _ wr => ∃ i j : Nat, i ≤ j ∧ j ≤ len ∧ I = .int .i64 i ∧ J = .int .i64 j ∧ Hid (∀ x, x < i → lless (lget ls x) q) ∧ Hid (∀ x, j ≤ x → x < len → ¬ lless (lget ls x) q) ∧ Below W0.heap.size W0 wr) (fun I J _ _ => (intOf J).toNat - (intOf I).toNat)
  case atStart => exact ⟨0, len, by omega, by omega, rfl, rfl, Lib.hid (fun x hx => by omega), Lib.hid (fun x h1 h2 => by omega), Below.refl _ _⟩
  case round =>
    obtain ⟨i, j, hij, hjn, rfl, rfl, Hlo, Hhi, hB⟩ := hrel
    have sT := aT.below hB
    by_cases hlt : i < j
    · have hlt' : (i : Int) < j := by omega
      obtain ⟨H, hH⟩ : ∃ H, (i + j) / 2 = H := ⟨_, rfl⟩
      obtain ⟨g, o, rfl, hg, hc1, hc2, hc3⟩ := HA.out H (by omega)
      have v1 : ((i : Int) + j) / 2 = (H : Int) := by omega
      have hHj : i ≤ H ∧ H < j := by omega
      obtain ⟨⟨yn, yl, yh⟩, hy⟩ : ∃ y, lget ls H = y := ⟨_, rfl⟩
      rw [hy] at hc1 hc2 hc3
      dsimp only at hc1 hc2 hc3
      replace hc1 := cellB hB (Nat.lt_of_lt_of_le hg hbT.size) (cellB hbT hg hc1)
      replace hc2 := cellB hB (Nat.lt_of_lt_of_le hg hbT.size) (cellB hbT hg hc2)
      replace hc3 := cellB hB (Nat.lt_of_lt_of_le hg hbT.size) (cellB hbT hg hc3)
      replace hy := Lib.hid hy
      have k0 : (0 : Int) ≤ H := by omega
      have k1 : (H : Int) < len := by omega
      have v2 : IntKind.i64.wrap ((H : Int) + 1) = H + 1 := by simp only [IntKind.wrap_i64]; omega
      have fT := sT.three
      have lT := sT.lt
      clear hH
      have gW : g < wr.heap.size := Nat.lt_of_lt_of_le hg (Nat.le_trans hbT.size hB.size)
      have hfa1 := fun x : Far wr => x.cell gW hc1
      have hfa2 := fun x : Far wr => x.cell gW hc2
      have hfa3 := fun x : Far wr => x.cell gW hc3
      go_wp2
      have hfar1 := fun x : Far wr => (x.at sT).three
      refine wp_region_far (by kernel_rfl) (by kernel_rfl) ?_
      repeat (first | go_big_quiet_skip | (go_big_quiet_want; go_big_quiet_op; first | go_big_quiet_on | (apply Exists.intro; refine ⟨fun _ => ?_, ?_⟩; (focus (first | (refine far_of (order_any yn yl yh qn ql qh _)))); go_big_quiet_on)))
      refine wpQuiet_nil ?_
      rintro _ ⟨xq, rfl⟩
      clear hfar1
      clear hfa1 hfa2 hfa3
      rw [HQ.out]
      replace hB := Below.trans hB (Below.mono (Far.below xq) hB.size)
      by_cases hym : lless (yn, yl, yh) q
      · have hv : ordV (yn, yl, yh) q < 0 := ordV_neg.2 hym
        obtain ⟨b, hbv⟩ : ∃ b, ordV (yn, yl, yh) q = b := ⟨_, rfl⟩
        rw [hbv] at hv ⊢
        have Hlo2 : Hid (∀ x, x < H + 1 → lless (lget ls x) q) := fun x hx => by
          by_cases e : x = H
          · subst e; rw [hy.out]; exact hym
          · exact lless_trans (HS.out x H (by omega) (by omega)) (by rw [hy.out]; exact hym)
        clear Hlo hbv hym fT
        go_wp2
        go_roundw
        case rel => exact ⟨H + 1, j, by omega, hjn, by go_num, rfl, Hlo2, Hhi, hB⟩
        case measure => simp [intOf]; omega
      · have hv : ¬ ordV (yn, yl, yh) q < 0 := fun k => hym (ordV_neg.1 k)
        have Hhi2 : Hid (∀ x, H ≤ x → x < len → ¬ lless (lget ls x) q) := fun x h1 h2 k => by
          by_cases e : x = H
          · subst e; rw [hy.out] at k; exact hym k
          · have := HS.out H x (by omega) h2
            rw [hy.out] at this
            exact hym (lless_trans this k)
        obtain ⟨b, hbv⟩ : ∃ b, ordV (yn, yl, yh) q = b := ⟨_, rfl⟩
        rw [hbv] at hv ⊢
        clear Hhi hbv hym fT
        go_wp2
        go_roundw
        case rel => exact ⟨i, H, by omega, by omega, rfl, rfl, Hlo, Hhi2, hB⟩
        case measure => simp [intOf]; omega
    · obtain rfl : i = j := by omega
      have HAt : Hid (PosL ls q i) := ⟨by rw [hlen.out]; omega, Hlo.out, fun j h1 h2 => Hhi.out j h1 (by rw [← hlen.out]; exact h2)⟩
      have HBT : Hid (Below w.heap.size w W0) := hbT
      clear Hlo Hhi HS
      by_cases hin : i < len
      · obtain ⟨g, o, rfl, hg, hc1, hc2, hc3⟩ := HA.out i hin
        obtain ⟨⟨yn, yl, yh⟩, hy⟩ : ∃ y, lget ls i = y := ⟨_, rfl⟩
        rw [hy] at hc1 hc2 hc3
        dsimp only at hc1 hc2 hc3
        replace hc1 := cellB hB (Nat.lt_of_lt_of_le hg hbT.size) (cellB hbT hg hc1)
        replace hc2 := cellB hB (Nat.lt_of_lt_of_le hg hbT.size) (cellB hbT hg hc2)
        replace hc3 := cellB hB (Nat.lt_of_lt_of_le hg hbT.size) (cellB hbT hg hc3)
        replace hy := Lib.hid hy
        have k0 : (0 : Int) ≤ i := by omega
        have k1 : (i : Int) < len := by omega
        have fT := sT.three
        have lT := sT.lt
        have gW : g < wr.heap.size := Nat.lt_of_lt_of_le hg (Nat.le_trans hbT.size hB.size)
        have hfa1 := fun x : Far wr => x.cell gW hc1
        have hfa2 := fun x : Far wr => x.cell gW hc2
        have hfa3 := fun x : Far wr => x.cell gW hc3
        go_wp2
        have hfar1 := fun x : Far wr => (x.at sT).three
        refine wp_region_far (by kernel_rfl) (by kernel_rfl) ?_
        repeat (first | go_big_quiet_skip | (go_big_quiet_want; go_big_quiet_op; first | go_big_quiet_on | (apply Exists.intro; refine ⟨fun _ => ?_, ?_⟩; (focus (first | (refine far_of (order_any yn yl yh qn ql qh _)))); go_big_quiet_on)))
        refine wpQuiet_nil ?_
        rintro _ ⟨xq, rfl⟩
        clear hfar1
        clear hfa1 hfa2 hfa3
        rw [HQ.out]
        replace hB := keep1 HBT.out (Below.trans hB (Below.mono (Far.below xq) hB.size))
        by_cases e : lsame (yn, yl, yh) q
        · have HE : Hid (lsame (lget ls i) q) := by show lsame _ _; rw [hy.out]; exact e
          have hv : ordV (yn, yl, yh) q = 0 := ordV_zero.2 e
          rw [hv]
          clear e hv fT
          go_wp2
          go_ret2
          exact ⟨⟨i, true, rfl, HAt.out, ⟨fun _ => ⟨by rw [hlen.out]; exact hin, HE.out⟩, fun _ => rfl⟩⟩, hB⟩
        · have hv : (ordV (yn, yl, yh) q == 0) = false := beq_eq_false_iff_ne.2 (fun k => e (ordV_zero.1 k))
          have HNe := Lib.hid e
          obtain ⟨b, hbv⟩ : ∃ b, ordV (yn, yl, yh) q = b := ⟨_, rfl⟩
          rw [hbv] at hv ⊢
          clear hbv e fT
          go_wp2
          go_ret2
          exact ⟨⟨i, (b == 0), rfl, HAt.out, ⟨fun h => (by rw [hv] at h; cases h), fun h => absurd h.2 (by rw [hy.out]; exact HNe.out)⟩⟩, hB⟩
      · obtain rfl : i = len := by omega
        have hin' : ¬ (i : Int) < i := by omega
        have hB2 := keep1 HBT.out hB
        clear HA
        go_wp2
        go_quiet (fail)
        go_wp2
        go_ret2
        exact ⟨⟨i, false, rfl, HAt.out, ⟨fun h => (by cases h), fun h => absurd (h.1) (by rw [hlen.out]; exact Nat.lt_irrefl _)⟩⟩, hB2.drewN _⟩
end Go.Proofs.Ytbmnebpjjghkpaa

