/- The plain law of Rank: what it tells holds the exact rank; where nothing is lost it is what lies ahead, and its own part. -/
import Derived.Test.YtplfiheejecjiaaGreatDoorProg
import Derived.Test.YtplfiheejecjiaaGreatDoorSame13
namespace Go.Proofs.YtplfiheejecjiaaGreatDoor
open Go.RowKit

theorem fsplit {l : List (Int × Int)} {P Q R : Int × Int → Prop} [DecidablePred P] [DecidablePred Q] [DecidablePred R] (h : ∀ v ∈ l, (R v ↔ P v ∨ Q v) ∧ (P v → ¬ Q v)) :
    sumP (l.filter fun v => decide (R v)) = sumP (l.filter fun v => decide (P v)) + sumP (l.filter fun v => decide (Q v)) :=
  filter_sum_add fun v hv => ⟨by rw [Bool.eq_iff_iff]; simp only [Bool.or_eq_true, decide_eq_true_eq]; exact (h v hv).1, fun hp => by simp only [decide_eq_true_eq, decide_eq_false_iff_not] at hp ⊢; exact (h v hv).2 hp⟩
theorem fcongr {l : List (Int × Int)} {P Q : Int × Int → Prop} [DecidablePred P] [DecidablePred Q] (h : ∀ v ∈ l, (P v ↔ Q v)) : sumP (l.filter fun v => decide (P v)) = sumP (l.filter fun v => decide (Q v)) :=
  congrArg sumP (List.filter_congr fun v hv => decide_eq_decide.2 (h v hv))
theorem fle {l : List (Int × Int)} {P Q : Int × Int → Prop} [DecidablePred P] [DecidablePred Q] (hp : ∀ v ∈ l, 0 < v.2) (h : ∀ v ∈ l, P v → Q v) : sumP (l.filter fun v => decide (P v)) ≤ sumP (l.filter fun v => decide (Q v)) := by
  have := fsplit (l := l) (P := P) (Q := fun v => Q v ∧ ¬ P v) (R := Q) fun v hv => ⟨⟨fun hq => by by_cases hP : P v; exact .inl hP; exact .inr ⟨hq, hP⟩, fun hh => hh.elim (h v hv) (·.1)⟩, fun hP hh => hh.2 hP⟩
  have h0 := (sumP_filter_le hp fun v => decide (Q v ∧ ¬ P v)).1
  omega
/-- A value lies with another: the same sign, the same part. -/
def withX (part : Nat → Int) (x y : Int) : Prop := (y < 0 ↔ x < 0) ∧ (y = 0 ↔ x = 0) ∧ (x = 0 ∨ part y.natAbs = part x.natAbs)
instance (part : Nat → Int) (x y : Int) : Decidable (withX part x y) := by unfold withX; infer_instance
def ownV (part : Nat → Int) (x : Int) (l : List (Int × Int)) : Int := sumP (l.filter fun v => decide (withX part x v.1))
def aheadV (part : Nat → Int) (x : Int) (l : List (Int × Int)) : Int := sumP (l.filter fun v => decide (¬ withX part x v.1 ∧ v.1 < x))
theorem stoBelow_doc {s : Bool} {most q : Int} {all : List (Int × Int)} (h : Gd all) (hm : 1 ≤ most) :
    (stoBelow s most (sumP all - sumP (keptP s most all)) (keptP s most all) q).1 ≤ upto all q ∧ upto all q ≤ (stoBelow s most (sumP all - sumP (keptP s most all)) (keptP s most all) q).2 ∧
    ((stoBelow s most (sumP all - sumP (keptP s most all)) (keptP s most all) q).1 = (stoBelow s most (sumP all - sumP (keptP s most all)) (keptP s most all) q).2 ∨ 0 < sumP all - sumP (keptP s most all)) := by
  cases s
  · exact Hi.lowBelow_doc h hm
  · exact Lo.lowBelow_doc h hm
theorem rank_doc {part : Nat → Int} {s : Bool} {most x : Int} {l : List (Int × Int)} (hm : 1 ≤ most) (hp : PartMono part) (hv : VOk l) (hx1 : -9223372036854775808 ≤ x) (hx2 : x ≤ 9223372036854775807) (r : Int × Int)
    (hr : binRank part s most (keptP s most (rowV part true l)) (keptP s most (rowV part false l)) (negV l) (posV l) (zeroV l) x = r) :
    (r.1 ≤ upV l x ∧ upV l x ≤ r.2) ∧ ((negV l - sumP (keptP s most (rowV part true l))) + (posV l - sumP (keptP s most (rowV part false l))) = 0 → if x = 0 then r.1 = aheadV part x l + ownV part x l ∧ r.2 = r.1 else r.1 = aheadV part x l ∧ r.2 = aheadV part x l + ownV part x l) := by
  have hs := hv.sum
  have hg0 := rowV_gd (part := part) (below := true) hv.pos (by omega)
  have hg1 := rowV_gd (part := part) (below := false) hv.pos (by omega)
  have e0 : sumP (rowV part true l) = negV l := negV_row hv.pos (by omega)
  have e1 : sumP (rowV part false l) = posV l := posV_row hv.pos (by omega)
  have k0 := (sumP_filter_le hg0.pos fun y => decide (gap s (endP s (rowV part true l)) y.1 < most)).2
  have k1 := (sumP_filter_le hg1.pos fun y => decide (gap s (endP s (rowV part false l)) y.1 < most)).2
  have D0 := fun q => stoBelow_doc (s := s) (q := q) hg0 hm
  have D1 := fun q => stoBelow_doc (s := s) (q := q) hg1 hm
  have U0 : ∀ q, upto (rowV part true l) q = sumP (l.filter fun v => decide (v.1 < 0 ∧ part v.1.natAbs ≤ q)) := fun q => by
    unfold upto
    rw [rowV_sum_p (fun i => decide (i ≤ q)) hv.pos (by omega)]
    exact congrArg sumP (List.filter_congr fun v _ => by rw [sgn_true, Bool.decide_and])
  have U1 : ∀ q, upto (rowV part false l) q = sumP (l.filter fun v => decide (0 < v.1 ∧ part v.1.natAbs ≤ q)) := fun q => by
    unfold upto
    rw [rowV_sum_p (fun i => decide (i ≤ q)) hv.pos (by omega)]
    exact congrArg sumP (List.filter_congr fun v _ => by rw [sgn_false, Bool.decide_and])
  have mv : ∀ v ∈ l, (v.1 ≠ 0 → v.1.natAbs ≤ x.natAbs → part v.1.natAbs ≤ part x.natAbs) ∧ (x ≠ 0 → x.natAbs ≤ v.1.natAbs → part x.natAbs ≤ part v.1.natAbs) := fun v hv' => by
    have := (hv.ok v hv').1
    exact ⟨fun a b => hp _ _ (by omega) b (by omega), fun a b => hp _ _ (by omega) b (by omega)⟩
  rw [e0] at D0 k0
  rw [e1] at D1 k1
  replace k0 : sumP (keptP s most (rowV part true l)) ≤ negV l := k0
  replace k1 : sumP (keptP s most (rowV part false l)) ≤ posV l := k1
  subst hr
  unfold binRank
  by_cases h0 : x = 0
  · rw [if_pos h0, if_pos h0]
    have a1 : upV l x = negV l + zeroV l := by
      unfold upV negV zeroV
      exact fsplit fun v _ => by omega
    have a2 : aheadV part x l = negV l := fcongr fun v _ => by unfold withX; omega
    have a3 : ownV part x l = zeroV l := fcongr fun v _ => by unfold withX; omega
    dsimp only
    exact ⟨⟨by omega, by omega⟩, fun _ => ⟨by omega, rfl⟩⟩
  · rw [if_neg h0, if_neg h0]
    by_cases hn : x < 0
    · rw [if_pos hn]
      have d1 := D0 (part x.natAbs)
      have d2 := D0 (part x.natAbs - 1)
      rw [U0] at d1 d2
      have s1 : negV l = sumP (l.filter fun v => decide (v.1 < 0 ∧ part v.1.natAbs ≤ part x.natAbs)) + sumP (l.filter fun v => decide (v.1 < 0 ∧ part x.natAbs < part v.1.natAbs)) := fsplit fun v _ => by omega
      have s2 : negV l = sumP (l.filter fun v => decide (v.1 < 0 ∧ part v.1.natAbs ≤ part x.natAbs - 1)) + sumP (l.filter fun v => decide (v.1 < 0 ∧ part x.natAbs - 1 < part v.1.natAbs)) := fsplit fun v _ => by omega
      have a1 : sumP (l.filter fun v => decide (v.1 < 0 ∧ part x.natAbs < part v.1.natAbs)) ≤ upV l x := fle hv.pos fun v hv' => by have := mv v hv'; omega
      have a2 : upV l x ≤ sumP (l.filter fun v => decide (v.1 < 0 ∧ part x.natAbs - 1 < part v.1.natAbs)) := fle hv.pos fun v hv' => by have := mv v hv'; omega
      have a3 : aheadV part x l = sumP (l.filter fun v => decide (v.1 < 0 ∧ part x.natAbs < part v.1.natAbs)) := fcongr fun v hv' => by have := mv v hv'; unfold withX; omega
      have a4 : sumP (l.filter fun v => decide (v.1 < 0 ∧ part x.natAbs - 1 < part v.1.natAbs)) = aheadV part x l + ownV part x l := fsplit fun v hv' => by have := mv v hv'; unfold withX; omega
      dsimp only
      exact ⟨⟨by omega, by omega⟩, fun _ => ⟨by omega, by omega⟩⟩
    · rw [if_neg hn]
      have d1 := D1 (part x.natAbs)
      have d2 := D1 (part x.natAbs - 1)
      rw [U1] at d1 d2
      have s1 : upV l x = (negV l + zeroV l) + sumP (l.filter fun v => decide (0 < v.1 ∧ v.1 ≤ x)) := by
        have t1 : sumP (l.filter fun v => decide (v.1 ≤ 0)) = negV l + zeroV l := fsplit fun v _ => by omega
        rw [← t1]
        exact fsplit fun v _ => by omega
      have a1 : sumP (l.filter fun v => decide (0 < v.1 ∧ part v.1.natAbs ≤ part x.natAbs - 1)) ≤ sumP (l.filter fun v => decide (0 < v.1 ∧ v.1 ≤ x)) := fle hv.pos fun v hv' => by have := mv v hv'; omega
      have a2 : sumP (l.filter fun v => decide (0 < v.1 ∧ v.1 ≤ x)) ≤ sumP (l.filter fun v => decide (0 < v.1 ∧ part v.1.natAbs ≤ part x.natAbs)) := fle hv.pos fun v hv' => by have := mv v hv'; omega
      have a3 : aheadV part x l = (negV l + zeroV l) + sumP (l.filter fun v => decide (0 < v.1 ∧ part v.1.natAbs ≤ part x.natAbs - 1)) := by
        have t1 : sumP (l.filter fun v => decide (v.1 ≤ 0)) = negV l + zeroV l := fsplit fun v _ => by omega
        rw [← t1]
        exact fsplit fun v hv' => by have := mv v hv'; unfold withX; omega
      have a4 : sumP (l.filter fun v => decide (0 < v.1 ∧ part v.1.natAbs ≤ part x.natAbs)) = sumP (l.filter fun v => decide (0 < v.1 ∧ part v.1.natAbs ≤ part x.natAbs - 1)) + ownV part x l := fsplit fun v hv' => by have := mv v hv'; unfold withX; omega
      dsimp only
      exact ⟨⟨by omega, by omega⟩, fun _ => ⟨by omega, by omega⟩⟩
end Go.Proofs.YtplfiheejecjiaaGreatDoor
