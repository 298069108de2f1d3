/- Contracts of package runs: by, Find; slices.BinarySearchFunc at pairs. -/
import Derived.Test.YtondkkhagbcadaaGreatProg
import Derived.Test.YtondkkhagbcadaaGreatPairsR
namespace Go.Proofs.YtondkkhagbcadaaGreat
open Go.RowKit

theorem RdP.at' {w : World} {A : Option Addr} {ps : List (Int × Int)} (h : RdP w A ps) (j : Nat) (hj : j < ps.length) :
    ∃ g o, A = some ⟨g, o, none⟩ ∧ g < w.heap.size ∧ w.cell? ⟨g, o + j * 2, none⟩ = some (.int .i64 (ps.getD j (0, 0)).1) ∧ w.cell? ⟨g, o + j * 2 + 1, none⟩ = some (.int .u64 (ps.getD j (0, 0)).2) := by
  have := h.at j hj
  rw [List.getD_eq_getElem?_getD, List.getElem?_eq_getElem hj]
  exact this

/-- Before, at, or behind. -/
def byV (x q : Int) : Int := if x < q then -1 else if q < x then 1 else 0
theorem byV_ne {x q : Int} (h : x ≠ q) : byV x q ≠ 0 := by
  unfold byV
  split
  · omega
  · split <;> omega
theorem by_any (x y q : Int) (w : World) :
    Calls Tryz.prog 118 #[.agg #[.int .i64 x, .int .u64 y], .int .i64 q] w fun e w' => e = .returned (.int .i64 (byV x q)) ∧ Below w.heap.size w w' := by
  by_cases h1 : x < q
  · have HE : Hid (byV x q = -1) := by show _ = _; unfold byV; rw [if_pos h1]
    rw [HE.out]
    go_enter Tryz.func118, Tryz.ntmps118
    go_wp2
    go_ret
    exact ⟨rfl, (by repeat (first | with_reducible assumption | with_reducible exact Below.refl _ _ | with_reducible refine Below.drew ?_ | with_reducible refine Below.drewN ?_ _ | with_reducible refine Below.setCell ?_ (by first | omega | (simp; done) | (simp; omega)) _ | with_reducible refine Below.alloc ?_ (by first | omega | (simp; done) | (simp; omega) | (simp [World.setCell]; omega)) _))⟩
  · by_cases h2 : q < x
    · have HE : Hid (byV x q = 1) := by show _ = _; unfold byV; rw [if_neg h1, if_pos h2]
      rw [HE.out]
      go_enter Tryz.func118, Tryz.ntmps118
      go_wp2
      go_ret
      exact ⟨rfl, (by repeat (first | with_reducible assumption | with_reducible exact Below.refl _ _ | with_reducible refine Below.drew ?_ | with_reducible refine Below.drewN ?_ _ | with_reducible refine Below.setCell ?_ (by first | omega | (simp; done) | (simp; omega)) _ | with_reducible refine Below.alloc ?_ (by first | omega | (simp; done) | (simp; omega) | (simp [World.setCell]; omega)) _))⟩
    · have HE : Hid (byV x q = 0) := by show _ = _; unfold byV; rw [if_neg h1, if_neg h2]
      rw [HE.out]
      go_enter Tryz.func118, Tryz.ntmps118
      go_wp2
      go_ret
      exact ⟨rfl, (by repeat (first | with_reducible assumption | with_reducible exact Below.refl _ _ | with_reducible refine Below.drew ?_ | with_reducible refine Below.drewN ?_ _ | with_reducible refine Below.setCell ?_ (by first | omega | (simp; done) | (simp; omega)) _ | with_reducible refine Below.alloc ?_ (by first | omega | (simp; done) | (simp; omega) | (simp [World.setCell]; omega)) _))⟩

/-- Where an index stands in a row, or would. -/
structure Posn (ps : List (Int × Int)) (q : Int) (k : Nat) : Prop where
  le : k ≤ ps.length
  under : ∀ j, j < k → (ps.getD j (0, 0)).1 < q
  over : ∀ j, k ≤ j → j < ps.length → q ≤ (ps.getD j (0, 0)).1
/-- What BinarySearchFunc answers. -/
def BfR (ps : List (Int × Int)) (q : Int) (e : Ending) : Prop := ∃ k : Nat, ∃ f : Bool, e = .returned (.tuple #[.int .i64 k, .bool f]) ∧ Posn ps q k ∧ (f = true ↔ k < ps.length ∧ (ps.getD k (0, 0)).1 = q)

set_option maxRecDepth 100000 in
set_option maxHeartbeats 2000000 in
theorem bsf_any (A : Option Addr) (c len : Nat) (ps : List (Int × Int)) (q : Int) (w : World) (hlen : ps.length = len) (h : RdP w A ps) (hg : Gd ps) (hl : len ≤ 1099511627776) :
    Calls Tryz.prog 117 #[.slice A len c, .int .i64 q, .func (.func 118) #[] #[]] w fun e w' => BfR ps q e ∧ Below w.heap.size w w' := by
  have HA := Lib.hid (fun j (hj : j < ps.length) => h.at' j hj)
  have HS := Lib.hid (fun (x y : Nat) (h : x ≤ y) (hy : y < ps.length) => hg.le h hy)
  rw [hlen] at HA HS
  replace hlen := Lib.hid hlen
  clear h hg
  obtain ⟨n, hn⟩ : ∃ n, len = n := ⟨_, rfl⟩
  subst hn
  go_enter Tryz.func117, Tryz.ntmps117
  go_wp2
  go_loopw [9, 10] (fun I J wr => ∃ i j : Nat, i ≤ j ∧ j ≤ len ∧ I = .int .i64 i ∧ J = .int .i64 j ∧ Hid (∀ x, x < i → (ps.getD x (0, 0)).1 < q) ∧ Hid (∀ x, j ≤ x → x < len → q ≤ (ps.getD x (0, 0)).1) ∧ Below w.heap.size w wr) (fun I J _ => (intOf J).toNat - (intOf I).toNat)
  case atStart => exact ⟨0, len, by omega, by omega, rfl, rfl, Lib.hid (fun x hx => by omega), Lib.hid (fun x h1 h2 => by omega), Below.refl _ _⟩
  case round =>
    obtain ⟨i, j, hij, hjn, rfl, rfl, Hlo, Hhi, hB⟩ := hrel
    by_cases hlt : i < j
    · have hlt' : (i : Int) < j := by omega
      obtain ⟨H, hH⟩ : ∃ H, (i + j) / 2 = H := ⟨_, rfl⟩
      obtain ⟨g, o, rfl, hg, hc1, hc2⟩ := HA.out H (by omega)
      have v1 : ((i : Int) + j) / 2 = (H : Int) := by omega
      have hHj : i ≤ H ∧ H < j := by omega
      obtain ⟨y, hy⟩ : ∃ y, (ps.getD H (0, 0)).1 = y := ⟨_, rfl⟩
      obtain ⟨z, hz⟩ : ∃ z, (ps.getD H (0, 0)).2 = z := ⟨_, rfl⟩
      rw [hy] at hc1
      rw [hz] at hc2
      replace hc1 := cellB hB hg hc1
      replace hc2 := cellB hB hg hc2
      replace hy := Lib.hid hy
      have k0 : (0 : Int) ≤ H := by omega
      have k1 : (H : Int) < len := by omega
      have v2 : IntKind.i64.wrap ((H : Int) + 1) = H + 1 := by simp only [IntKind.wrap_i64]; omega
      clear hH hz
      go_wp2_with fail
      refine (by_any y z q _).mono ?_
      rintro e w1 ⟨rfl, hb⟩
      replace hB := keep1 hB hb
      by_cases hym : y < q
      · have hv : byV y q = -1 := by unfold byV; rw [if_pos hym]
        rw [hv]
        have Hlo2 : Hid (∀ x, x < H + 1 → (ps.getD x (0, 0)).1 < q) := fun x hx => by
          have := HS.out x H (by omega) (by omega)
          rw [hy.out] at this
          omega
        clear Hlo hb hv
        go_wp2
        go_roundw
        case rel => exact ⟨H + 1, j, by omega, hjn, by go_num, rfl, Hlo2, Hhi, hB⟩
        case measure => simp [intOf]; omega
      · have hv : ¬ byV y q < 0 := by unfold byV; rw [if_neg hym]; split <;> omega
        have Hhi2 : Hid (∀ x, H ≤ x → x < len → q ≤ (ps.getD x (0, 0)).1) := fun x h1 h2 => by
          have := HS.out H x h1 h2
          rw [hy.out] at this
          omega
        obtain ⟨b, hbv⟩ : ∃ b, byV y q = b := ⟨_, rfl⟩
        rw [hbv] at hv ⊢
        clear Hhi hb hbv
        go_wp2
        go_roundw
        case rel => exact ⟨i, H, by omega, by omega, rfl, rfl, Hlo, Hhi2, hB⟩
        case measure => simp [intOf]; omega
    · obtain rfl : i = j := by omega
      have HAt : Hid (Posn ps q i) := ⟨by rw [hlen.out]; omega, Hlo.out, fun j h1 h2 => Hhi.out j h1 (by rw [← hlen.out]; exact h2)⟩
      clear Hlo Hhi HS
      by_cases hin : i < len
      · obtain ⟨g, o, rfl, hg, hc1, hc2⟩ := HA.out i hin
        obtain ⟨y, hy⟩ : ∃ y, (ps.getD i (0, 0)).1 = y := ⟨_, rfl⟩
        obtain ⟨z, hz⟩ : ∃ z, (ps.getD i (0, 0)).2 = z := ⟨_, rfl⟩
        rw [hy] at hc1
        rw [hz] at hc2
        replace hc1 := cellB hB hg hc1
        replace hc2 := cellB hB hg hc2
        replace hy := Lib.hid hy
        have k0 : (0 : Int) ≤ i := by omega
        have k1 : (i : Int) < len := by omega
        clear hz
        go_wp2_with fail
        refine (by_any y z q _).mono ?_
        rintro e w1 ⟨rfl, hb⟩
        replace hB := keep1 hB hb
        by_cases e : y = q
        · have HE : Hid ((ps.getD i (0, 0)).1 = q) := hy.out.trans e
          have hv : byV y q = 0 := by unfold byV; rw [if_neg (by omega), if_neg (by omega)]
          rw [hv]
          clear e hv hb
          go_wp2
          go_ret2
          exact ⟨⟨i, true, rfl, HAt.out, ⟨fun _ => ⟨by rw [hlen.out]; exact hin, HE.out⟩, fun _ => rfl⟩⟩, hB⟩
        · have hv : (byV y q == 0) = false := beq_eq_false_iff_ne.2 (byV_ne e)
          have HNe := Lib.hid e
          obtain ⟨b, hbv⟩ : ∃ b, byV y q = b := ⟨_, rfl⟩
          rw [hbv] at hv ⊢
          clear hb hbv e
          go_wp2
          go_ret2
          exact ⟨⟨i, false, rfl, HAt.out, ⟨fun h => (by cases h), fun h => absurd (hy.out.symm.trans h.2) HNe.out⟩⟩, hB⟩
      · obtain rfl : i = len := by omega
        have hin' : ¬ (i : Int) < i := by omega
        clear HA
        go_wp2
        go_ret2
        exact ⟨⟨i, false, rfl, HAt.out, ⟨fun h => (by cases h), fun h => absurd (h.1) (by rw [hlen.out]; exact Nat.lt_irrefl _)⟩⟩, hB⟩

theorem rfind06_any (A : Option Addr) (c len : Nat) (ps : List (Int × Int)) (q : Int) (w : World) (hlen : ps.length = len) (h : RdP w A ps) (hg : Gd ps) (hl : len ≤ 1099511627776) :
    Calls Tryz.prog 112 #[.slice A len c, .int .i64 q] w fun e w' => BfR ps q e ∧ Below w.heap.size w w' := by
  have HC := Lib.hid (bsf_any A c len ps q w hlen h hg hl)
  clear h
  go_enter Tryz.func112, Tryz.ntmps112
  go_wp2_with fail
  refine HC.out.mono ?_
  rintro e w1 ⟨⟨k, f, rfl, hp, hf⟩, hB⟩
  have HP : Hid (Posn ps q k ∧ (f = true ↔ k < ps.length ∧ (ps.getD k (0, 0)).1 = q)) := ⟨hp, hf⟩
  clear HC hp hf
  go_wp2
  go_ret2
  exact ⟨⟨k, f, rfl, HP.out.1, HP.out.2⟩, hB⟩
end Go.Proofs.YtondkkhagbcadaaGreat
