/- Load of what a sketch tells; what Load answers of any row. -/
import Derived.Test.YtnkkdciecjhpoaaDoorProg
import Derived.Test.YtnkkdciecjhpoaaDoorHdrLoad
import Derived.Test.YtnkkdciecjhpoaaDoorPlayAll
import Derived.Test.YtnkkdciecjhpoaaDoorGood
namespace Go.Proofs.YtnkkdciecjhpoaaDoor
open Go.RowKit

theorem eLow_bd {l : List (Int × Int)} (h : VOk l) : (-9223372036854775808 ≤ eLow l ∧ eLow l ≤ 9223372036854775807) ∧ (-9223372036854775808 ≤ eHigh l ∧ eHigh l ≤ 9223372036854775807) ∧ eLow l ≤ eHigh l := by
  by_cases h0 : l = []
  · subst h0
    have e1 : eLow [] = 0 := rfl
    have e2 : eHigh [] = 0 := rfl
    rw [e1, e2]
    omega
  · obtain ⟨⟨v, mv, ev⟩, ⟨v', mv', ev'⟩⟩ := eLow_mem h0
    have r1 := (h.ok v mv).1
    have r2 := (h.ok v' mv').1
    have r3 := eLow_le mv
    rw [ev] at r1 r3
    rw [ev'] at r2
    omega
theorem loadOk_v {d : Int} {l : List (Int × Int)} (h : VOk l) : HloadOk d (rowV (partD d) true l) (rowV (partD d) false l) (zeroV l) (eLow l) (eHigh l) := by
  have ht := (h.total (part := partD d)).1
  have hs := h.sum
  refine ⟨rowV_load h true, rowV_load h false, by omega, (eLow_bd h).2.2, fun h0 => ?_⟩
  have : l = [] := h.empty.1 (by omega)
  subst this
  exact ⟨rfl, rfl⟩
theorem hload_v (d : Int) (A0 : Option Addr) (n0 cp0 : Nat) (A1 : Option Addr) (n1 cp1 : Nat) (l : List (Int × Int)) (w : World) (hT : TensAt w) (h1 : 1 ≤ d) (h4 : d ≤ 4) (hv : VOk l) (hn : l.length ≤ 4096)
    (k0 : (rowV (partD d) true l).length = n0) (k1 : (rowV (partD d) false l).length = n1) (R0 : RdP w A0 (rowV (partD d) true l)) (R1 : RdP w A1 (rowV (partD d) false l)) :
    Calls Tryd.prog 22 #[.agg #[.int .i64 d, .int .u64 0], .slice A0 n0 cp0, .slice A1 n1 cp1, .int .u64 (zeroV l), .int .i64 (eLow l), .int .i64 (eHigh l)] w fun e w' => (∃ b S, e = .returned (.tuple #[.pointer (some ⟨b, 0, none⟩), .int .i64 0]) ∧ Within S w.heap.size w'.heap.size ∧ HdV w' b S d 0 l) ∧ Below w.heap.size w w' := by
  have hpr : ∀ a, 0 < a → a ≤ 9223372036854775808 → -9223372036854775808 ≤ partD d a ∧ partD d a ≤ 9223372036854775807 := fun a h0 h1 => by
    have := partD_rng (d := d) h0 h1
    omega
  have l0 := rowV_len (part := partD d) (below := true) (l := l)
  have l1 := rowV_len (part := partD d) (below := false) (l := l)
  obtain ⟨t1, t2⟩ := hv.total (part := partD d)
  have g0 := sumP_nonneg (rowV_gd (part := partD d) (below := true) hv.pos (by have := hv.sum; omega)).pos
  have g1 := sumP_nonneg (rowV_gd (part := partD d) (below := false) hv.pos (by have := hv.sum; omega)).pos
  have hs := hv.sum
  have hb := eLow_bd hv
  refine (hload_any d 0 A0 n0 cp0 _ A1 n1 cp1 _ (zeroV l) (eLow l) (eHigh l) w hT h1 h4 (by omega) (by omega) k0 k1 (by omega) (by omega) R0 R1 (rowV_ok hpr hv.ok) (rowV_ok hpr hv.ok) t2 (by omega) hb.1 hb.2.1).mono ?_
  rintro e w' ⟨⟨_, b, S, rfl, hW, hH⟩ | ⟨hno, _⟩, hb⟩
  · exact ⟨⟨b, S, rfl, hW, hH⟩, hb⟩
  · exact absurd (loadOk_v hv) hno
/-- What Load of a row below 0 answers. -/
def LoadS (d : Int) (q : List (Int × Int)) (lo hi : Int) (w : World) (dv : Option Addr) (cd : Int) (w' : World) : Prop :=
  (HloadOk d q [] 1 lo hi ∧ cd = 0 ∧ ∃ b S, dv = some ⟨b, 0, none⟩ ∧ Within S w.heap.size w'.heap.size ∧ Hd w' b S d 0 q [] 1 lo hi) ∨ (¬ HloadOk d q [] 1 lo hi ∧ cd = 1 ∧ dv = none)
theorem hload_s (d : Int) (A0 : Option Addr) (n0 cp0 : Nat) (q : List (Int × Int)) (lo hi : Int) (w : World) (hT : TensAt w) (h1 : 1 ≤ d) (h4 : d ≤ 4)
    (k0 : q.length = n0) (m0 : n0 ≤ 4096) (R0 : RdP w A0 q) (o0 : okP q)
    (hlo : -9223372036854775808 ≤ lo ∧ lo ≤ 9223372036854775807) (hhi : -9223372036854775808 ≤ hi ∧ hi ≤ 9223372036854775807) :
    Calls Tryd.prog 22 #[.agg #[.int .i64 d, .int .u64 0], .slice A0 n0 cp0, .slice none 0 0, .int .u64 1, .int .i64 lo, .int .i64 hi] w fun e w' => (∃ dv cd, e = .returned (.tuple #[.pointer dv, .int .i64 cd]) ∧ LoadS d q lo hi w dv cd w') ∧ Below w.heap.size w w' := by
  refine (hload_any d 0 A0 n0 cp0 q none 0 0 [] 1 lo hi w hT h1 h4 (by omega) (by omega) k0 rfl m0 (by omega) R0 (Rd.nil _ _) o0 (fun x hx => by simp at hx) (by omega) (by omega) hlo hhi).mono ?_
  rintro e w' ⟨⟨hok, b, S, rfl, hW, hH⟩ | ⟨hno, rfl⟩, hb⟩
  · exact ⟨⟨_, _, rfl, .inl ⟨hok, rfl, b, S, rfl, hW, hH⟩⟩, hb⟩
  · exact ⟨⟨_, _, rfl, .inr ⟨hno, rfl, rfl⟩⟩, hb⟩
theorem LoadS.below {d : Int} {q : List (Int × Int)} {lo hi cd : Int} {w w1 w2 : World} {dv : Option Addr} (h : LoadS d q lo hi w dv cd w1) (hb : Below w1.heap.size w1 w2) : LoadS d q lo hi w dv cd w2 := by
  rcases h with ⟨h1, h2, b, S, h3, h4, h5⟩ | h
  · exact .inl ⟨h1, h2, b, S, h3, h4.mono hb.size, h5.below hb⟩
  · exact .inr h
theorem htotal_hd (b : Nat) (S : List Nat) (d : Int) (q : List (Int × Int)) (lo hi z : Int) (w : World) (h : Hd w b S d 0 q [] 1 lo hi) (hz : sumP q + 1 = z) (hm : z ≤ 9223372036854775807) :
    Calls Tryd.prog 27 #[.pointer (some ⟨b, 0, none⟩)] w fun e w' => e = .returned (.int .u64 z) ∧ Below w.heap.size w w' := by
  obtain ⟨sp, b0, b1, S0, S1, rfl, h⟩ := h
  refine (htotal_at _ _ _ _ _ _ _ _ _ _ _ _ _ w h (by omega) (by rw [sumP_nil]; omega)).mono fun e w' hR => ?_
  rw [sumP_nil, Int.add_zero, hz] at hR
  exact hR
/-- The last index. -/
theorem topD_part (d : Int) : partD d 9223372036854775808 = topD d := by
  have hg := gOf_le d
  unfold partD topD idxN qN kN
  have hl : Nat.log2 9223372036854775808 = 63 := by decide +kernel
  rw [hl]
  congr 1
  have e : (9223372036854775808 : Nat) = 2 ^ gOf d * 2 ^ (63 - gOf d) := by rw [← Nat.pow_add, show gOf d + (63 - gOf d) = 63 by omega]
  rw [e, Nat.mul_div_cancel _ (Nat.two_pow_pos _), show 64 - gOf d = (63 - gOf d) + 1 by omega, Nat.add_mul, Nat.one_mul]
/-- While the row is looked through: what holds of its first pairs. -/
structure LwK (d : Int) (q : List (Int × Int)) (lo hi : Int) (k : Nat) (z : Int) : Prop where
  gm : GdM q
  le : lo ≤ hi
  bd : ∀ x ∈ q.take k, 0 < x.1 ∧ x.1 ≤ topD d
  sm : z = 1 + sumP (q.take k)
  hi : z ≤ 9223372036854775807
theorem LwK.start {d : Int} {q : List (Int × Int)} {lo hi : Int} (h : GdM q) (hl : lo ≤ hi) : LwK d q lo hi 0 1 := ⟨h, hl, fun x hx => by simp at hx, by simp [sumP_nil], by omega⟩
theorem LwK.step {d : Int} {q : List (Int × Int)} {lo hi z : Int} {k : Nat} (h : LwK d q lo hi k z) (hk : k < q.length) (h1 : 1 ≤ (q[k]'hk).1) (h2 : (q[k]'hk).1 ≤ topD d) (h3 : z + (q[k]'hk).2 ≤ 9223372036854775807) : LwK d q lo hi (k + 1) (z + (q[k]'hk).2) := by
  refine ⟨h.gm, h.le, fun x hx => ?_, by rw [sumP_take q k hk, h.sm]; omega, h3⟩
  rw [List.take_succ_eq_append_getElem hk] at hx
  rcases List.mem_append.1 hx with hx | hx
  · exact h.bd x hx
  · rw [List.mem_singleton] at hx; subst hx; omega
theorem LwK.done {d : Int} {q : List (Int × Int)} {lo hi z : Int} {k : Nat} (h : LwK d q lo hi k z) (hk : q.length ≤ k) : HloadOk d q [] 1 lo hi ∧ sumP q + 1 = z := by
  have h3 := h.bd
  have h4 := h.sm
  rw [List.take_of_length_le hk] at h3 h4
  have h5 := h.hi
  exact ⟨⟨⟨h.gm.gd, h3, by omega⟩, RowOk.nil _, by rw [sumP_nil]; omega, h.le, fun h0 => by have := sumP_nonneg h.gm.gd.pos; rw [sumP_nil] at h0; omega⟩, by omega⟩
theorem HloadOk.gdm {d : Int} {q : List (Int × Int)} {lo hi : Int} (h : HloadOk d q [] 1 lo hi) : GdM q :=
  ⟨h.r0.gd, fun x hx => by
    obtain ⟨i, hi, rfl⟩ := List.getElem_of_mem hx
    have h1 := sumP_take q i hi
    have h2 := (vsum_take h.r0.gd.pos (i + 1)).2
    have h3 := (vsum_take h.r0.gd.pos i).1
    have := h.r0.sm
    omega⟩
theorem HloadOk.at {d : Int} {q : List (Int × Int)} {lo hi : Int} (h : HloadOk d q [] 1 lo hi) {k : Nat} (hk : k < q.length) : (1 ≤ (q[k]'hk).1 ∧ (q[k]'hk).1 ≤ topD d) ∧ 1 + sumP (q.take k) + (q[k]'hk).2 ≤ 9223372036854775807 := by
  have h0 := h.r0.bd _ (List.getElem_mem hk)
  have h1 := sumP_take q k hk
  have h2 := (vsum_take h.r0.gd.pos (k + 1)).2
  have h3 := h.sm
  rw [sumP_nil] at h3
  omega
/-- A row of one value below 0. -/
theorem rowV_one {part : Nat → Int} {x c : Int} (hx : x < 0) (hc : 0 < c) (hc' : c < 18446744073709551616) : rowV part true [(x, c)] = [(part x.natAbs, c)] := by
  have := rowV_snoc (part := part) (below := true) (l := []) (x, c)
  rw [List.nil_append, rowV_nil, sgn_true, if_pos (decide_eq_true hx)] at this
  rw [this]
  exact rowAdd_end Gd.nil (fun y hy => by simp at hy) hc hc'
end Go.Proofs.YtnkkdciecjhpoaaDoor
