/- Texts of this claim, joined, indents halved: RelP, CoreStart. -/
import Derived.Test.YtlbnlmhcpephbaaGreatDoorProg
import Derived.Test.YtlbnlmhcpephbaaGreatDoorKa13
namespace Go.Proofs.YtlbnlmhcpephbaaGreatDoor
open Go.RowKit
theorem upV_all {l : List (Int × Int)} (h : okP l) : upV l 9223372036854775807 = sumP l := by
 unfold upV
 rw [List.filter_eq_self.2 fun v hv => decide_eq_true (h v hv).1.2]
theorem ends_rng {l : List (Int × Int)} (hv : VOk l) {r x : Int} (hx : ∃ y ∈ l, y.1 = x) (h1 : eLow l ≤ r) (h2 : r ≤ eHigh l) : -9223372036854775808 ≤ r ∧ r ≤ 9223372036854775807 := by
 obtain ⟨y, hy, _⟩ := hx
 have hne : l ≠ [] := List.ne_nil_of_mem hy
 obtain ⟨⟨v1, mv, ev⟩, ⟨v2, mv', ev'⟩⟩ := eLow_mem hne
 have r1 := (hv.ok v1 mv).1
 have r2 := (hv.ok v2 mv').1
 rw [ev] at r1
 rw [ev'] at r2
 omega
def keptV (part : Nat → Int) (s : Bool) (most : Int) (l : List (Int × Int)) (x : Int) : Prop := gap s (endP s (rowV part (decide (x < 0)) l)) (part x.natAbs) < most
theorem cnt_keptV {u v : Int} {part : Nat → Int} {rep stand : Int → Int} {s : Bool} {most x : Int} {l : List (Int × Int)} (hc : Cs u v 0 false part rep stand) (hv : VOk l) (hx0 : x ≠ 0) (hmem : ∃ y ∈ l, y.1 = x) :
  cnt (keptP s most (rowV part (decide (x < 0)) l)) (part x.natAbs) = 0 ↔ ¬ keptV part s most l x := by
 have hs := hv.sum
 obtain ⟨y, hy, rfl⟩ := hmem
 have hsg : sgn (decide (y.1 < 0)) y.1 = true := by
  unfold sgn
  rw [decide_eq_true hx0]
  simp
 obtain ⟨r, hr, er⟩ := rowV_mem (part := part) hv.pos (by omega) hy hsg
 have gd := rowV_gd (part := part) (below := decide (y.1 < 0)) hv.pos (by omega)
 have hpos := (cnt_mem gd).1 ⟨r, hr, er⟩
 rw [cnt_kept]
 unfold keptV
 constructor
 ·intro h hk
  rw [if_pos hk] at h
  omega
 ·intro h
  rw [if_neg h]
theorem quant_log {u v : Int} {part : Nat → Int} {rep stand : Int → Int} {s : Bool} {most a d : Int} {l : List (Int × Int)} (hc : Cs u v 0 false part rep stand) (hv : VOk l) (hn : l ≠ []) (ha : 0 ≤ a) (hg : goodF a d = true) :
  placeE a d (sumP l) = 0 ∧ ∃ x, exactV l (placeT a d (sumP l)) = some x ∧ (∃ y ∈ l, y.1 = x) ∧
   (((x = 0 ∨ keptV part s most l x) ∧ quantL part stand s most l (eLow l) (eHigh l) a d = (min (max (stand x) (eLow l)) (eHigh l), 0)) ∨ (x ≠ 0 ∧ ¬ keptV part s most l x ∧ quantL part stand s most l (eLow l) (eHigh l) a d = (0, 9))) := by
 have hs := hv.sum
 have h0 : 0 < sumP l := by have := hv.sum0; have : sumP l ≠ 0 := fun e => hn (hv.empty.1 e); omega
 have hip := placeT_is ha h0 (by omega) hg
 have hE : placeE a d (sumP l) = 0 := by unfold placeE; rw [if_pos hg, if_neg (by omega)]
 obtain ⟨x, hx, hix⟩ := exactV_some hv.pos hip.one hip.le
 refine ⟨hE, x, hx, hix.mem, ?_⟩
 unfold quantL
 rw [if_pos hE]
 unfold docFind13
 rw [hx]
 dsimp only
 by_cases h : x ≠ 0 ∧ cnt (keptP s most (rowV part (decide (x < 0)) l)) (part x.natAbs) = 0
 ·rw [if_pos h]
  exact .inr ⟨h.1, (cnt_keptV hc hv h.1 hix.mem).1 h.2, rfl⟩
 ·rw [if_neg h]
  refine .inl ⟨?_, rfl⟩
  by_cases h0 : x = 0
  ·exact .inl h0
  ·refine .inr ?_
   have h1 : ¬ cnt (keptP s most (rowV part (decide (x < 0)) l)) (part x.natAbs) = 0 := fun e => h ⟨h0, e⟩
   rw [cnt_keptV hc hv h0 hix.mem] at h1
   exact Classical.not_not.1 h1
theorem quant_rel {u v : Int} {part : Nat → Int} {rep stand : Int → Int} {s : Bool} {most a d : Int} {l : List (Int × Int)} (hc : Cs u v 0 false part rep stand) (hv : VOk l) (hn : l ≠ []) (ha : 0 ≤ a) (hg : goodF a d = true) :
  placeE a d (sumP l) = 0 ∧ ∃ x, exactV l (placeT a d (sumP l)) = some x ∧ (-9223372036854775808 ≤ x ∧ x ≤ 9223372036854775807) ∧
   ((∃ r, quantL part stand s most l (eLow l) (eHigh l) a d = (r, 0) ∧ (-9223372036854775808 ≤ r ∧ r ≤ 9223372036854775807) ∧ (gapZ r x : Int) * v ≤ x.natAbs * u) ∨ quantL part stand s most l (eLow l) (eHigh l) a d = (0, 9)) := by
 obtain ⟨hE, x, hx, hm, h⟩ := quant_log (s := s) (most := most) hc hv hn ha hg
 have hxr : -9223372036854775808 ≤ x ∧ x ≤ 9223372036854775807 := by
  obtain ⟨y, hy, rfl⟩ := hm
  exact (hv.ok y hy).1
 have hel : eLow l ≤ x ∧ x ≤ eHigh l := by
  obtain ⟨y, hy, rfl⟩ := hm
  exact eLow_le hy
 refine ⟨hE, x, hx, hxr, ?_⟩
 rcases h with ⟨_, h⟩ | ⟨_, _, h⟩
 ·exact .inl ⟨_, h, ends_rng hv hm (by omega) (by omega), hc.close hxr.1 hxr.2 hel.1 hel.2⟩
 ·exact .inr h
theorem quant_hdr {dg a d : Int} {l : List (Int × Int)} (hv : VOk l) (hn : l ≠ []) (ha : 0 ≤ a) (hg : goodF a d = true) :
  placeE a d (sumP l) = 0 ∧ ∃ x, exactV l (placeT a d (sumP l)) = some x ∧ (-9223372036854775808 ≤ x ∧ x ≤ 9223372036854775807) ∧
   ∃ r, quantD (standV (repM (gOf dg))) l a d = r ∧ (-9223372036854775808 ≤ r ∧ r ≤ 9223372036854775807) ∧ gapZ r x * Hh.tenD dg ≤ x.natAbs := by
 have hs := hv.sum
 have h0 : 0 < sumP l := by have := hv.sum0; have : sumP l ≠ 0 := fun e => hn (hv.empty.1 e); omega
 have hip := placeT_is ha h0 (by omega) hg
 have hE : placeE a d (sumP l) = 0 := by unfold placeE; rw [if_pos hg, if_neg (by omega)]
 obtain ⟨x, hx, hix⟩ := exactV_some hv.pos hip.one hip.le
 have hxr : -9223372036854775808 ≤ x ∧ x ≤ 9223372036854775807 := by
  obtain ⟨y, hy, rfl⟩ := hix.mem
  exact (hv.ok y hy).1
 have hel : eLow l ≤ x ∧ x ≤ eHigh l := by
  obtain ⟨y, hy, rfl⟩ := hix.mem
  exact eLow_le hy
 refine ⟨hE, x, hx, hxr, _, rfl, ?_⟩
 have hq : quantD (standV (repM (gOf dg))) l a d = min (max (standV (repM (gOf dg)) x) (eLow l)) (eHigh l) := by unfold quantD; rw [if_pos hE, hx]; rfl
 rw [hq]
 exact ⟨ends_rng hv hix.mem (by omega) (by omega), Hh.quant_close hxr.1 hxr.2 hel.1 hel.2 (Hh.tenD_le dg)⟩
end Go.Proofs.YtlbnlmhcpephbaaGreatDoor

namespace Go.Proofs.YtlbnlmhcpephbaaGreatDoor
open Go.RowKit
def RelR (c : Cfg) (x0 x f : Int) : Prop :=
 (c.kd = 1 ∧ ((f = 0 ∧ (-9223372036854775808 ≤ x ∧ x ≤ 9223372036854775807) ∧ (gapZ x x0 : Int) * c.pd ≤ x0.natAbs * c.pn) ∨ f = 9)) ∨
 (c.kd = 2 ∧ f = 0 ∧ (-9223372036854775808 ≤ x ∧ x ≤ 9223372036854775807) ∧ (1 ≤ c.dg ∧ c.dg ≤ 4) ∧ gapZ x x0 * Hh.tenD c.dg ≤ x0.natAbs)
theorem rel_says {w : World} {b : Nat} {S : List Nat} {c : Cfg} {l : List (Int × Int)} {a d : Int} (h : SkV w b S c l) (hv : VOk l) (hn : l ≠ []) (ha : 0 ≤ a) (hg : goodF a d = true) :
  placeE a d (sumP l) = 0 ∧ ∃ x0, exactV l (placeT a d (sumP l)) = some x0 ∧ (-9223372036854775808 ≤ x0 ∧ x0 ≤ 9223372036854775807) ∧ ∀ x f, QuantR c l a d x f → RelR c x0 x f := by
 obtain ⟨_, q, Q, _, _, h⟩ := h
 rcases h with ⟨k, _, s, part, rep, stand, h1, h2, h3, _⟩ | ⟨k, _, h1, _, _, _⟩
 ·obtain ⟨hE, x0, hx, hr, hq⟩ := quant_rel (s := s) (most := c.mo) h1 hv hn ha hg
  refine ⟨hE, x0, hx, hr, fun x f hQ => .inl ⟨k, ?_⟩⟩
  have hQ1 := hQ.1 k part rep stand s h1 h2
  rcases hq with ⟨r, hq, hrr, hc⟩ | hq
  ·rw [hq] at hQ1
   simp only [Prod.mk.injEq] at hQ1
   obtain ⟨rfl, rfl⟩ := hQ1
   exact .inl ⟨rfl, hrr, hc⟩
  ·rw [hq] at hQ1
   simp only [Prod.mk.injEq] at hQ1
   exact .inr hQ1.2
 ·obtain ⟨hE, x0, hx, hr, r, hq, hrr, hc⟩ := quant_hdr (dg := c.dg) hv hn ha hg
  refine ⟨hE, x0, hx, hr, fun x f hQ => .inr ⟨k, ?_⟩⟩
  obtain ⟨rfl, rfl⟩ := hQ.2 k
  rw [hE, hq]
  exact ⟨rfl, hrr, h1, hc⟩
end Go.Proofs.YtlbnlmhcpephbaaGreatDoor
