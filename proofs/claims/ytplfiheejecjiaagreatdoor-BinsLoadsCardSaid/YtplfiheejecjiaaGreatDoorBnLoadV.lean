/- Load of bins that hold values; of their own rows. -/
import Derived.Test.YtplfiheejecjiaaGreatDoorProg
import Derived.Test.YtplfiheejecjiaaGreatDoorBnLoad
import Derived.Test.YtplfiheejecjiaaGreatDoorBnV
namespace Go.Proofs.YtplfiheejecjiaaGreatDoor
open Go.RowKit

theorem rowV_all {P : Int → Prop} {part : Nat → Int} {l : List (Int × Int)} {below : Bool} (hP : ∀ v ∈ l, sgn below v.1 = true → P (part v.1.natAbs)) : ∀ x ∈ rowV part below l, P x.1 := by
  intro x hx
  have key : ∀ (k ps : List (Int × Int)), (∀ y ∈ ps, P y.1) → (∀ y ∈ k, P y.1) → ∀ y ∈ addAll ps k, P y.1 := by
    intro k
    induction k with
    | nil => intro ps hp _ y hy; exact hp y hy
    | cons z k ih =>
      intro ps hp hk
      refine ih (rowAdd ps z.1 z.2) (fun y hy => ?_) fun y hy => hk y (by simp [hy])
      unfold rowAdd at hy
      rcases List.mem_append.1 hy with hy | hy
      · rcases List.mem_append.1 hy with hy | hy
        · exact hp y (List.mem_filter.1 hy).1
        · split at hy
          · rw [List.mem_singleton] at hy; subst hy; exact hk z (by simp)
          · simp at hy
      · exact hp y (List.mem_filter.1 hy).1
  refine key _ [] (fun y hy => by simp at hy) (fun y hy => ?_) x hx
  unfold selV at hy
  obtain ⟨v, hv, rfl⟩ := List.mem_map.1 hy
  obtain ⟨v1, v2⟩ := List.mem_filter.1 hv
  exact hP v v1 v2
theorem mem_le_sum : ∀ {ks : List (Int × Int)} {v : Int × Int}, (∀ v ∈ ks, 0 < v.2) → v ∈ ks → v.2 ≤ sumP ks
  | [], _, _, h => by simp at h
  | a :: ks, v, hk, hm => by
    rw [sumP_cons]
    have h1 := sumP_nonneg (ps := ks) fun y hy => hk y (by simp [hy])
    have h2 := hk a (by simp)
    rcases List.mem_cons.1 hm with rfl | hm
    · omega
    · have := mem_le_sum (fun y hy => hk y (by simp [hy])) hm; omega
theorem sload_kept {s : Bool} {most : Int} {row : List (Int × Int)} (h : Gd row) (hs : sumP row ≤ 9223372036854775807) (hm : 1 ≤ most) : SLoad s most (keptP s most row) (sumP row - sumP (keptP s most row)) := by
  have g := kept_gd (s := s) (most := most) h
  refine ⟨⟨g, fun x hx => ?_⟩, win_len g (kept_win h hm) hm, by omega, kept_win h hm, fun e => ?_⟩
  · have := mem_le_sum h.pos (kept_sub hx); omega
  · by_cases hn : row = []
    · subst hn; rw [kept_nil]; omega
    · exact absurd e (kept_end h hm hn).1
/-- What bins tell of themselves can be loaded. -/
theorem bload_ok {w : World} {b : Nat} {S : List Nat} {k s : Bool} {part : Nat → Int} {rep : Int → Int} {most : Int} {l l' : List (Int × Int)} (h : BnV w b S k part rep s most l') (hv : VOk l) :
    BLoad rep s most (keptP s most (rowV part true l)) (keptP s most (rowV part false l)) (negV l - sumP (keptP s most (rowV part true l))) (posV l - sumP (keptP s most (rowV part false l))) (zeroV l) := by
  have hm := h.m14
  obtain ⟨PB, pa, c0, c1, S0, S1, rfl, h⟩ := h
  have hp := h.prt
  obtain ⟨t1, t2, t3, t4⟩ := hv.three
  have hs := hv.sum
  have hr : ∀ bl, RepOk rep (keptP s most (rowV part bl l)) := fun bl x hx => by
    refine rowV_all (P := fun i => 0 ≤ i ∧ rep i ≠ 0) (fun v hv1 hs1 => ?_) x (kept_sub hx)
    have v3 := (hv.ok v hv1).1
    have v4 : v.1 ≠ 0 := fun e => by unfold sgn at hs1; rw [e] at hs1; simp at hs1
    have a := hp.rng v.1.natAbs (by omega) (by omega)
    have b := hp.some v.1.natAbs (by omega) (by omega)
    exact ⟨a.1, by omega⟩
  have g0 := rowV_gd (part := part) (below := true) hv.pos (by omega)
  have g1 := rowV_gd (part := part) (below := false) hv.pos (by omega)
  have e0 := negV_row (part := part) hv.pos (by omega)
  have e1 := posV_row (part := part) hv.pos (by omega)
  have k0 := sload_kept (s := s) (most := most) g0 (by omega) hm.1
  have k1 := sload_kept (s := s) (most := most) g1 (by omega) hm.1
  rw [e0] at k0
  rw [e1] at k1
  exact ⟨hr true, hr false, k0, k1, by omega⟩
theorem bload_v (b : Nat) (S : List Nat) (k : Bool) (part : Nat → Int) (rep : Int → Int) (s : Bool) (most : Int) (l : List (Int × Int))
    (A0 : Option Addr) (n0 cp0 : Nat) (q0 : List (Int × Int)) (A1 : Option Addr) (n1 cp1 : Nat) (q1 : List (Int × Int)) (lo0 lo1 zero : Int) (w : World)
    (h : BnV w b S k part rep s most l) (k0 : q0.length = n0) (k1 : q1.length = n1) (m0 : n0 ≤ 9223372036854775807) (m1 : n1 ≤ 9223372036854775807) (R0 : RdP w A0 q0) (R1 : RdP w A1 q1) (o0 : okP q0) (o1 : okP q1)
    (hl0 : 0 ≤ lo0 ∧ lo0 < 18446744073709551616) (hl1 : 0 ≤ lo1 ∧ lo1 < 18446744073709551616) (hz : 0 ≤ zero ∧ zero < 18446744073709551616) :
    Calls Tryz.prog 23 #[.pointer (some ⟨b, 0, none⟩), .agg #[.slice A0 n0 cp0, .slice A1 n1 cp1], .agg #[.int .u64 lo0, .int .u64 lo1], .int .u64 zero] w fun e w' => BLoadR b S k part rep s most q0 q1 lo0 lo1 zero w e w' := by
  obtain ⟨PB, pa, c0, c1, S0, S1, rfl, h⟩ := h
  exact bload_at PB b k pa part rep s most c0 c1 S0 S1 _ _ _ _ _ A0 n0 cp0 q0 A1 n1 cp1 q1 lo0 lo1 zero w h k0 k1 m0 m1 R0 R1 o0 o1 hl0 hl1 hz
/-- Of what other bins of the same parts tell. -/
theorem bload_own (b : Nat) (S : List Nat) (k : Bool) (part : Nat → Int) (rep : Int → Int) (s : Bool) (most : Int) (l' l : List (Int × Int)) (A0 : Option Addr) (n0 cp0 : Nat) (A1 : Option Addr) (n1 cp1 : Nat) (w : World)
    (h : BnV w b S k part rep s most l') (hv : VOk l) (k0 : (keptP s most (rowV part true l)).length = n0) (k1 : (keptP s most (rowV part false l)).length = n1) (R0 : RdP w A0 (keptP s most (rowV part true l))) (R1 : RdP w A1 (keptP s most (rowV part false l))) :
    Calls Tryz.prog 23 #[.pointer (some ⟨b, 0, none⟩), .agg #[.slice A0 n0 cp0, .slice A1 n1 cp1], .agg #[.int .u64 (negV l - sumP (keptP s most (rowV part true l))), .int .u64 (posV l - sumP (keptP s most (rowV part false l)))], .int .u64 (zeroV l)] w fun e w' =>
      e = .returned (.int .i64 0) ∧ BpvR b S k part rep s most l w w' := by
  have hok := bload_ok h hv
  have hm := h.m14
  have hr := h.rng
  obtain ⟨t1, t2, t3, t4⟩ := hv.three
  have hs := hv.sum
  have hpr : ∀ a, 0 < a → a ≤ 9223372036854775808 → -9223372036854775808 ≤ part a ∧ part a ≤ 9223372036854775807 := fun a h0 h1 => by
    have := hr a h0 h1
    omega
  have e0 := hok.l0.ln
  have e1 := hok.l1.ln
  have p0 := hok.l0.sm
  have p1 := hok.l1.sm
  have s0 := sumP_nonneg hok.l0.gm.gd.pos
  have s1 := sumP_nonneg hok.l1.gm.gd.pos
  have g0 := rowV_gd (part := part) (below := true) hv.pos (by omega)
  have g1 := rowV_gd (part := part) (below := false) hv.pos (by omega)
  have f0 := negV_row (part := part) hv.pos (by omega)
  have f1 := posV_row (part := part) hv.pos (by omega)
  have u0 := (sumP_filter_le g0.pos fun x => decide (gap s (endP s (rowV part true l)) x.1 < most)).2
  have u1 := (sumP_filter_le g1.pos fun x => decide (gap s (endP s (rowV part false l)) x.1 < most)).2
  replace u0 : sumP (keptP s most (rowV part true l)) ≤ sumP (rowV part true l) := u0
  replace u1 : sumP (keptP s most (rowV part false l)) ≤ sumP (rowV part false l) := u1
  refine (bload_v b S k part rep s most l' A0 n0 cp0 _ A1 n1 cp1 _ _ _ (zeroV l) w h k0 k1 (by omega) (by omega) R0 R1 ((rowV_ok hpr hv.ok).filter _) ((rowV_ok hpr hv.ok).filter _) (by omega) (by omega) (by omega)).mono ?_
  rintro e w' (⟨_, rfl, S', hg, hB, hF⟩ | ⟨hno, _⟩)
  · refine ⟨rfl, S', hg, ?_, hF⟩
    rw [show sumP (keptP s most (rowV part true l)) + (negV l - sumP (keptP s most (rowV part true l))) = negV l by omega, show sumP (keptP s most (rowV part false l)) + (posV l - sumP (keptP s most (rowV part false l))) = posV l by omega] at hB
    exact hB
  · exact absurd hok hno
/-! ## What loaded bins tell. -/
section
variable {b : Nat} {S : List Nat} {k s : Bool} {part : Nat → Int} {rep : Int → Int} {most : Int} {ps0 ps1 : List (Int × Int)} {t0 t1 zero : Int}
theorem brows_b (w : World) (h : Bn w b S k part rep s most ps0 ps1 t0 t1 zero) : Calls Tryz.prog 22 #[.pointer (some ⟨b, 0, none⟩)] w fun e w' => RowsR ps0 ps1 w e w' := by
  obtain ⟨PB, pa, c0, c1, S0, S1, rfl, h⟩ := h
  exact brows_at _ _ _ _ _ _ _ _ _ _ _ _ _ _ _ _ _ w h
theorem bzero_b (w : World) (h : Bn w b S k part rep s most ps0 ps1 t0 t1 zero) : Calls Tryz.prog 24 #[.pointer (some ⟨b, 0, none⟩)] w fun e w' => e = .returned (.int .u64 zero) ∧ w = w' := by
  obtain ⟨PB, pa, c0, c1, S0, S1, rfl, h⟩ := h
  exact bzero_at _ _ _ _ _ _ _ w h.at'
theorem btot_b (w : World) (h : Bn w b S k part rep s most ps0 ps1 t0 t1 zero) (t : Int) (hz : 0 ≤ zero) (he : t0 + zero + t1 = t) (ht : t ≤ 9223372036854775807) : Calls Tryz.prog 27 #[.pointer (some ⟨b, 0, none⟩)] w fun e w' => e = .returned (.int .u64 t) ∧ Below w.heap.size w w' := by
  obtain ⟨PB, pa, c0, c1, S0, S1, rfl, h⟩ := h
  exact btot_at _ _ _ _ _ _ _ _ _ _ _ _ _ _ _ _ _ t w h hz he ht
end
end Go.Proofs.YtplfiheejecjiaaGreatDoor
