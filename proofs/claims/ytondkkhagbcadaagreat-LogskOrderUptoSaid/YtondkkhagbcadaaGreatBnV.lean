/- Bins that hold values: what they answer is the document's. -/
import Derived.Test.YtondkkhagbcadaaGreatProg
import Derived.Test.YtondkkhagbcadaaGreatBnRank
import Derived.Test.YtondkkhagbcadaaGreatBnMerge
import Derived.Test.YtondkkhagbcadaaGreatRef13
import Derived.Test.YtondkkhagbcadaaGreatVOk
namespace Go.Proofs.YtondkkhagbcadaaGreat
open Go.RowKit

/-- What parts, and what stands for them. -/
structure PS (part : Nat → Int) (rep : Int → Int) (stand : Int → Int) : Prop where
  mono : PartMono part
  rng : ∀ m : Nat, 0 < m → m ≤ 9223372036854775808 → 0 ≤ part m ∧ part m ≤ 1048576
  st : ∀ x : Int, x ≠ 0 → -9223372036854775808 ≤ x → x ≤ 9223372036854775807 → stand x = valZ rep (part x.natAbs) (decide (x < 0))
  s0 : stand 0 = 0
/-- Bins that hold values. -/
def BnV (w : World) (b : Nat) (S : List Nat) (k : Bool) (part : Nat → Int) (rep : Int → Int) (s : Bool) (most : Int) (l : List (Int × Int)) : Prop :=
  Bn w b S k part rep s most (keptP s most (rowV part true l)) (keptP s most (rowV part false l)) (negV l) (posV l) (zeroV l)
section
variable {w w' : World} {b : Nat} {S T : List Nat} {k s : Bool} {part : Nat → Int} {rep : Int → Int} {most : Int} {l : List (Int × Int)}
theorem BnV.frame (h : BnV w b S k part rep s most l) (hf : Frame T w w') (hn : Apart S T) : BnV w' b S k part rep s most l := Bn.frame h hf hn
theorem BnV.below (h : BnV w b S k part rep s most l) (hb : Below w.heap.size w w') : BnV w' b S k part rep s most l := Bn.below h hb
theorem BnV.lt (h : BnV w b S k part rep s most l) : ∀ j ∈ S, j < w.heap.size := Bn.lt h
theorem BnV.m14 (h : BnV w b S k part rep s most l) : 1 ≤ most ∧ most ≤ 4096 := by
  obtain ⟨PB, pa, c0, c1, S0, S1, rfl, h⟩ := h
  exact h.s0.m14
theorem BnV.rng (h : BnV w b S k part rep s most l) : ∀ m : Nat, 0 < m → m ≤ 9223372036854775808 → 0 ≤ part m ∧ part m ≤ 1048576 := by
  obtain ⟨PB, pa, c0, c1, S0, S1, rfl, h⟩ := h
  exact h.prt.rng
theorem BnV.new (h : Bn w b S k part rep s most [] [] 0 0 0) : BnV w b S k part rep s most [] := h
end
theorem btot_v (b : Nat) (S : List Nat) (k : Bool) (part : Nat → Int) (rep : Int → Int) (s : Bool) (most : Int) (l : List (Int × Int)) (w : World) (h : BnV w b S k part rep s most l) (hv : VOk l) :
    Calls Tryz.prog 34 #[.pointer (some ⟨b, 0, none⟩)] w fun e w' => e = .returned (.int .u64 (sumP l)) ∧ Below w.heap.size w w' := by
  obtain ⟨PB, pa, c0, c1, S0, S1, rfl, h⟩ := h
  obtain ⟨t1, t2, t3, t4⟩ := hv.three
  exact btot_at _ _ _ _ _ _ _ _ _ _ _ _ _ _ _ _ _ _ w h t3 t1 hv.sum
/-- What an addition leaves. -/
def BpvR (b : Nat) (S : List Nat) (k : Bool) (part : Nat → Int) (rep : Int → Int) (s : Bool) (most : Int) (l : List (Int × Int)) (w w' : World) : Prop := ∃ S', GrownS S S' w.heap.size ∧ BnV w' b S' k part rep s most l ∧ Frame S w w'
theorem badd_v (b : Nat) (S : List Nat) (k : Bool) (part : Nat → Int) (rep : Int → Int) (s : Bool) (most x c : Int) (l : List (Int × Int)) (w : World) (h : BnV w b S k part rep s most l) (hv : VOk l) (hx : -9223372036854775808 ≤ x ∧ x ≤ 9223372036854775807) (hc : 0 < c) (hs : sumP l + c ≤ 9223372036854775807) :
    Calls Tryz.prog 49 #[.pointer (some ⟨b, 0, none⟩), .int .i64 x, .int .u64 c] w fun e w' => e = .returned (.int .i64 0) ∧ BpvR b S k part rep s most (l ++ [(x, c)]) w w' := by
  have hm := h.m14
  obtain ⟨PB, pa, c0, c1, S0, S1, rfl, h⟩ := h
  obtain ⟨t1, t2, t3, t4⟩ := hv.three
  have hsm := hv.sum
  have e3 := zeroV_snoc (l := l) x c
  have e4 := rowV_snoc (part := part) (below := true) (l := l) (x, c)
  have e5 := rowV_snoc (part := part) (below := false) (l := l) (x, c)
  have e6 := negV_app l [(x, c)]
  have e7 := posV_app l [(x, c)]
  rw [sgn_true] at e4
  rw [sgn_false] at e5
  dsimp only at e4 e5
  have hn1 : negV [(x, c)] = if x < 0 then c else 0 := by unfold negV; by_cases hx0 : x < 0 <;> simp [hx0, sumP_cons, sumP_nil]
  have hp1 : posV [(x, c)] = if 0 < x then c else 0 := by unfold posV; by_cases hx0 : 0 < x <;> simp [hx0, sumP_cons, sumP_nil]
  have hcn : ∀ bl q, cnt (rowV part bl l) q + c < 18446744073709551616 := fun bl q => by
    have a1 := cnt_le_sumP (rowV_gd (part := part) (below := bl) hv.pos (by omega)).pos q
    have a2 := rowV_sum (part := part) (below := bl) hv.pos (by omega)
    have a3 := (vsum_filter hv.pos fun v => sgn bl v.1).2
    omega
  unfold BpvR BnV
  rw [e3, e4, e5, e6, e7, hn1, hp1]
  rcases Int.lt_trichotomy x 0 with h1 | rfl | h1
  · rw [if_neg (by omega : ¬ x = 0), if_pos (decide_eq_true h1), if_neg (by simp; omega), if_pos h1, if_neg (by omega), Int.add_zero, kept_rowAdd (rowV_gd hv.pos (by omega)) hm.1 hc (hcn _ _)]
    exact badd_neg _ _ _ _ _ _ _ _ _ _ _ _ _ _ _ _ _ _ _ _ w h t3 t1 hc hs hx.1 h1
  · rw [if_pos rfl]
    simp only [Int.lt_irrefl, decide_false, Bool.false_eq_true, if_false, Int.add_zero]
    exact badd_nought _ _ _ _ _ _ _ _ _ _ _ _ _ _ _ _ _ _ _ w h t3 t1 hc hs
  · rw [if_neg (by omega : ¬ x = 0), if_neg (by simp; omega), if_pos (decide_eq_true h1), if_neg (by omega), if_pos h1, Int.add_zero, kept_rowAdd (rowV_gd hv.pos (by omega)) hm.1 hc (hcn _ _)]
    exact badd_pos _ _ _ _ _ _ _ _ _ _ _ _ _ _ _ _ _ _ _ _ w h t3 t1 hc hs hx.2 h1
theorem badd_vfull (b : Nat) (S : List Nat) (k : Bool) (part : Nat → Int) (rep : Int → Int) (s : Bool) (most x c : Int) (l : List (Int × Int)) (w : World) (h : BnV w b S k part rep s most l) (hv : VOk l) (hc : 0 < c) (hc' : c < 18446744073709551616) (hs : 9223372036854775807 < sumP l + c) :
    Calls Tryz.prog 49 #[.pointer (some ⟨b, 0, none⟩), .int .i64 x, .int .u64 c] w fun e w' => e = .returned (.int .i64 6) ∧ Below w.heap.size w w' := by
  obtain ⟨PB, pa, c0, c1, S0, S1, rfl, h⟩ := h
  obtain ⟨t1, t2, t3, t4⟩ := hv.three
  exact badd_full _ _ _ _ _ _ _ _ _ _ _ _ _ _ _ _ _ _ _ _ w h t3 t1 hv.sum hc hc' hs
/-! ## Find. -/
theorem stoFind_doc {s : Bool} {most t : Int} {row : List (Int × Int)} (h : Gd row) (hs : sumP row < 18446744073709551616) (ht : 0 ≤ t) :
    stoFind s (sumP row - sumP (keptP s most row)) (keptP s most row) t = (match findP t 0 row with | some i => if gap s (endP s row) i < most then some i else none | none => none) := by
  cases s
  · exact Hi.lowFind_doc h hs ht
  · exact Lo.lowFind_doc h hs ht
theorem stoFind_cnt {s : Bool} {most t i : Int} {row : List (Int × Int)} (h : Gd row) (hs : sumP row < 18446744073709551616) (ht : 0 ≤ t) (hf : findP t 0 row = some i) :
    stoFind s (sumP row - sumP (keptP s most row)) (keptP s most row) t = if cnt (keptP s most row) i = 0 then none else some i := by
  rw [stoFind_doc h hs ht, hf]
  dsimp only
  rw [cnt_kept]
  obtain ⟨x, hx, e⟩ := Lo.findP_mem hf
  have hc := (cnt_mem h).1 ⟨x, hx, e⟩
  by_cases hg : gap s (endP s row) i < most
  · rw [if_pos hg, if_pos hg, if_neg (by omega)]
  · rw [if_neg hg, if_neg hg, if_pos rfl]
theorem binFind_doc {part : Nat → Int} {rep stand : Int → Int} {s : Bool} {most t : Int} {l : List (Int × Int)} (hp : PS part rep stand) (hv : VOk l) (ht : 0 ≤ t) :
    binFind rep s (keptP s most (rowV part true l)) (keptP s most (rowV part false l)) (negV l) (posV l) (zeroV l) t = docFind13 part stand s most l t := by
  obtain ⟨t1, t2, t3, t4⟩ := hv.three
  have hsm := hv.sum
  unfold binFind docFind13
  by_cases h0 : t = 0 ∨ negV l + zeroV l + posV l < t
  · rw [if_pos h0, exactV_none hv.pos (by omega)]
  · rw [if_neg h0]
    obtain ⟨x, hx, hE⟩ := exactV_some hv.pos (t := t) (by omega) (by omega)
    rw [hx]
    dsimp only
    obtain ⟨v, hvm, hvx⟩ := hE.mem
    have hr := (hv.ok v hvm).1
    rw [hvx] at hr
    have gn := rowV_gd (part := part) (below := true) hv.pos (by omega)
    have gp := rowV_gd (part := part) (below := false) hv.pos (by omega)
    have sn := negV_row (part := part) hv.pos (by omega)
    have sp := posV_row (part := part) hv.pos (by omega)
    rcases Int.lt_trichotomy x 0 with h1 | rfl | h1
    · obtain ⟨a1, a2⟩ := exact_neg hp.mono hv.ok hv.pos (by omega) hE h1 (by omega)
      have e := stoFind_cnt (s := s) (most := most) gn (by omega) (t := negV l - t + 1) (by omega) a2
      rw [sn] at e
      rw [if_pos a1, e, decide_eq_true h1]
      by_cases hc : cnt (keptP s most (rowV part true l)) (part x.natAbs) = 0
      · rw [if_pos hc, if_pos ⟨by omega, hc⟩]; rfl
      · rw [if_neg hc, if_neg (fun h => hc h.2)]
        show some _ = some _
        rw [hp.st x (by omega) hr.1 hr.2, decide_eq_true h1]
    · obtain ⟨a1, a2⟩ := exact_zero hv.pos hE
      rw [if_neg (by omega), if_pos a2, if_neg (by simp), hp.s0]
    · obtain ⟨a1, a2, a3⟩ := exact_pos hp.mono hv.ok hv.pos (by omega) hE h1
      have e := stoFind_cnt (s := s) (most := most) gp (by omega) (t := t - negV l - zeroV l) (by omega) a3
      rw [sp] at e
      rw [if_neg (by omega), if_neg (by omega), e, decide_eq_false (by omega : ¬ x < 0)]
      by_cases hc : cnt (keptP s most (rowV part false l)) (part x.natAbs) = 0
      · rw [if_pos hc, if_pos ⟨by omega, hc⟩]; rfl
      · rw [if_neg hc, if_neg (fun h => hc h.2)]
        show some _ = some _
        rw [hp.st x (by omega) hr.1 hr.2, decide_eq_false (by omega : ¬ x < 0)]
theorem bfind_v (b : Nat) (S : List Nat) (k : Bool) (part : Nat → Int) (rep stand : Int → Int) (s : Bool) (most t : Int) (l : List (Int × Int)) (w : World) (h : BnV w b S k part rep s most l) (hp : PS part rep stand) (hv : VOk l) (ht : 0 ≤ t ∧ t < 18446744073709551616) :
    Calls Tryz.prog 38 #[.pointer (some ⟨b, 0, none⟩), .int .u64 t] w fun e w' => e = .returned (optI (docFind13 part stand s most l t)) ∧ Below w.heap.size w w' := by
  obtain ⟨PB, pa, c0, c1, S0, S1, rfl, h⟩ := h
  obtain ⟨t1, t2, t3, t4⟩ := hv.three
  have := bfind_at _ _ _ _ _ _ _ _ _ _ _ _ _ _ _ _ _ t w h t3 (by rw [t1]; exact hv.sum) ht
  rw [binFind_doc hp hv ht.1] at this
  exact this
/-! ## The rest. -/
theorem blost_v (b : Nat) (S : List Nat) (k : Bool) (part : Nat → Int) (rep : Int → Int) (s : Bool) (most : Int) (l : List (Int × Int)) (w : World) (h : BnV w b S k part rep s most l) :
    Calls Tryz.prog 26 #[.pointer (some ⟨b, 0, none⟩)] w fun e w' => e = .returned (.tuple #[.int .u64 (negV l - sumP (keptP s most (rowV part true l))), .int .u64 (posV l - sumP (keptP s most (rowV part false l)))]) ∧ Below w.heap.size w w' := by
  obtain ⟨PB, pa, c0, c1, S0, S1, rfl, h⟩ := h
  exact blost_at _ _ _ _ _ _ _ _ _ _ _ _ _ _ _ _ _ w h
theorem brows_v (b : Nat) (S : List Nat) (k : Bool) (part : Nat → Int) (rep : Int → Int) (s : Bool) (most : Int) (l : List (Int × Int)) (w : World) (h : BnV w b S k part rep s most l) :
    Calls Tryz.prog 25 #[.pointer (some ⟨b, 0, none⟩)] w fun e w' => RowsR (keptP s most (rowV part true l)) (keptP s most (rowV part false l)) w e w' := by
  obtain ⟨PB, pa, c0, c1, S0, S1, rfl, h⟩ := h
  exact brows_at _ _ _ _ _ _ _ _ _ _ _ _ _ _ _ _ _ w h
theorem blike_v (b o : Nat) (S T : List Nat) (k k' : Bool) (part part' : Nat → Int) (rep rep' : Int → Int) (s : Bool) (most most' : Int) (l l' : List (Int × Int)) (w : World) (h : BnV w b S k part rep s most l) (h' : BnV w o T k' part' rep' s most' l') :
    Calls Tryz.prog 66 #[.pointer (some ⟨b, 0, none⟩), .pointer (some ⟨o, 0, none⟩)] w fun e w' => e = .returned (.bool (decide (most = most'))) ∧ Below w.heap.size w w' := by
  obtain ⟨PB, pa, c0, c1, S0, S1, rfl, h⟩ := h
  obtain ⟨PB', pa', d0, d1, U0, U1, rfl, h'⟩ := h'
  exact blike_at _ _ _ _ _ _ _ _ _ _ _ _ _ w h.at' h'.at'
theorem bmerge_vmatch (b o : Nat) (S T : List Nat) (k k' : Bool) (part part' : Nat → Int) (rep rep' : Int → Int) (s : Bool) (most most' : Int) (l l' : List (Int × Int)) (w : World) (h : BnV w b S k part rep s most l) (h' : BnV w o T k' part' rep' s most' l') (hne : most ≠ most') :
    Calls Tryz.prog 48 #[.pointer (some ⟨b, 0, none⟩), .pointer (some ⟨o, 0, none⟩)] w fun e w' => e = .returned (.int .i64 8) ∧ Below w.heap.size w w' := by
  obtain ⟨PB, pa, c0, c1, S0, S1, rfl, h⟩ := h
  obtain ⟨PB', pa', d0, d1, U0, U1, rfl, h'⟩ := h'
  exact bmerge_match _ _ _ _ _ _ _ _ _ _ _ _ _ w h.at' h'.at' hne
/-- Merged bins hold all values (of the same partition). -/
theorem bmerge_v (b o : Nat) (S T : List Nat) (k k' : Bool) (part : Nat → Int) (rep rep' : Int → Int) (s : Bool) (most : Int) (l l' : List (Int × Int)) (w : World) (h : BnV w b S k part rep s most l) (h' : BnV w o T k' part rep' s most l') (hap : Apart S T) (hv : VOk l) (hv' : VOk l') (hs : sumP l + sumP l' ≤ 9223372036854775807) :
    Calls Tryz.prog 48 #[.pointer (some ⟨b, 0, none⟩), .pointer (some ⟨o, 0, none⟩)] w fun e w' => e = .returned (.int .i64 0) ∧ BpvR b S k part rep s most (l ++ l') w w' ∧ BnV w' o T k' part rep' s most l' := by
  have hm := h.m14
  have H' := h'
  obtain ⟨PB, pa, c0, c1, S0, S1, rfl, h⟩ := h
  obtain ⟨PB', pa', d0, d1, U0, U1, rfl, h'⟩ := h'
  obtain ⟨t1, t2, t3, t4⟩ := hv.three
  obtain ⟨u1, u2, u3, u4⟩ := hv'.three
  refine (bmerge_at _ _ _ _ _ _ _ _ _ _ _ _ _ _ _ _ _ _ _ _ _ _ _ _ _ _ _ _ _ _ _ _ _ _ w h h' hap t3 u3 t1 u1 hs).mono ?_
  rintro e w' ⟨rfl, S', hg, hB, hF⟩
  have c2 : ∀ bl, capAll s most (keptP s most (rowV part bl l)) (keptP s most (rowV part bl l')) = keptP s most (rowV part bl (l ++ l')) := fun bl => by
    have a1 := rowV_sum (part := part) (below := bl) hv.pos (by have := hv.sum; omega)
    have a2 := rowV_sum (part := part) (below := bl) hv'.pos (by have := hv'.sum; omega)
    have a3 := (vsum_filter hv.pos fun v => sgn bl v.1).2
    have a4 := (vsum_filter hv'.pos fun v => sgn bl v.1).2
    rw [capAll_merge hm.1 (rowV_gd hv.pos (by have := hv.sum; omega)) (rowV_gd hv'.pos (by have := hv'.sum; omega)) (by omega), rowV_app hv.pos hv'.pos (by omega)]
  refine ⟨rfl, ⟨S', hg, ?_, hF⟩, H'.frame hF hap.symm⟩
  unfold BnV
  rw [negV_app, posV_app, zeroV_app, ← c2, ← c2]
  exact hB
end Go.Proofs.YtondkkhagbcadaaGreat
