/- Texts of this claim, joined, indents halved: VOk, BnV, Doc13, Empty13, Ls1, Ls2, Share, Compare, Less, Places, Ls3, Ls4, Ref15. -/
import Derived.Test.YtlbnlmhcpephbaaGreatDoorProg
import Derived.ScopeJumps
import Derived.Test.YtlbnlmhcpephbaaGreatDoorKc9
namespace Go.Proofs.YtlbnlmhcpephbaaGreatDoor
open Go.RowKit
structure VOk (l : List (Int × Int)) : Prop where
 ok : okP l
 pos : ∀ v ∈ l, 0 < v.2
 sum : sumP l ≤ 9223372036854775807
theorem VOk.nil : VOk [] := ⟨fun x hx => by simp at hx, fun x hx => by simp at hx, by rw [sumP_nil]; omega⟩
theorem VOk.sum0 {l : List (Int × Int)} (h : VOk l) : 0 ≤ sumP l := sumP_nonneg h.pos
theorem VOk.snoc {l : List (Int × Int)} (h : VOk l) {x c : Int} (hx : -9223372036854775808 ≤ x ∧ x ≤ 9223372036854775807) (hc : 0 < c) (hs : sumP l + c ≤ 9223372036854775807) : VOk (l ++ [(x, c)]) := by
 have h0 := h.sum0
 refine ⟨fun v hv => ?_, fun v hv => ?_, ?_⟩
 ·rcases List.mem_append.1 hv with h1 | h1
  ·exact h.ok v h1
  ·rw [List.mem_singleton] at h1; subst h1; exact ⟨hx, by dsimp only; omega, by dsimp only; omega⟩
 ·rcases List.mem_append.1 hv with h1 | h1
  ·exact h.pos v h1
  ·rw [List.mem_singleton] at h1; subst h1; exact hc
 ·rw [sumP_append, sumP_cons, sumP_nil]; dsimp only; omega
theorem VOk.total {l : List (Int × Int)} {part : Nat → Int} (h : VOk l) : sumP (rowV part true l) + zeroV l + sumP (rowV part false l) = sumP l ∧ 0 ≤ zeroV l := by
 have hs := h.sum
 rw [negV_row h.pos (by omega), posV_row h.pos (by omega), sum_three l]
 exact ⟨rfl, sumP_nonneg fun v hv => h.pos v (List.mem_filter.1 hv).1⟩
theorem VOk.empty {l : List (Int × Int)} (h : VOk l) : sumP l = 0 ↔ l = [] := by
  constructor
  · intro h0
    cases l with
    | nil => rfl
    | cons v l =>
      have h1 := h.pos v (by simp)
      have h2 := sumP_nonneg (ps := l) fun u hu => h.pos u (by simp [hu])
      rw [sumP_cons] at h0
      omega
  · rintro rfl; rfl
theorem eLow_snoc {l : List (Int × Int)} (h : VOk l) (x c : Int) : eLow (l ++ [(x, c)]) = (if sumP l = 0 then x else min (eLow l) x) ∧ eHigh (l ++ [(x, c)]) = (if sumP l = 0 then x else max (eHigh l) x) := by
 by_cases h0 : l = []
 ·subst h0
  rw [if_pos sumP_nil, if_pos sumP_nil]
  unfold eLow eHigh lowV highV
  simp
 ·have hl : l.length ≠ 0 := fun e => h0 (List.eq_nil_of_length_eq_zero e)
  rw [if_neg fun e => h0 (h.empty.1 e), if_neg fun e => h0 (h.empty.1 e)]
  have hh : (l ++ [(x, c)]).headD (0, 0) = l.headD (0, 0) := by
   cases l with
   | nil => exact absurd rfl h0
   | cons v l => rfl
  unfold eLow eHigh
  rw [if_neg hl, if_neg hl, if_neg (by simp), if_neg (by simp), hh, lowV_append, highV_append]
  exact ⟨rfl, rfl⟩
theorem zeroV_snoc {l : List (Int × Int)} (x c : Int) : zeroV (l ++ [(x, c)]) = if x = 0 then zeroV l + c else zeroV l := by
 unfold zeroV
 rw [List.filter_append, sumP_append]
 by_cases hx : x = 0
 ·rw [if_pos hx, List.filter_cons_of_pos (by simpa using hx), List.filter_nil, sumP_cons, sumP_nil]; dsimp only; omega
 ·rw [if_neg hx, List.filter_cons_of_neg (by simpa using hx), List.filter_nil, sumP_nil]; omega
theorem VOk.three {l : List (Int × Int)} (h : VOk l) : negV l + zeroV l + posV l = sumP l ∧ 0 ≤ negV l ∧ 0 ≤ zeroV l ∧ 0 ≤ posV l :=
 ⟨(sum_three l).symm, sumP_nonneg fun v hv => h.pos v (List.mem_filter.1 hv).1, sumP_nonneg fun v hv => h.pos v (List.mem_filter.1 hv).1, sumP_nonneg fun v hv => h.pos v (List.mem_filter.1 hv).1⟩
theorem exactV_none {l : List (Int × Int)} {t : Int} (hp : ∀ v ∈ l, 0 < v.2) (h : t < 1 ∨ sumP l < t) : exactV l t = none := by
  cases he : exactV l t with
  | none => rfl
  | some x =>
    exfalso
    have hx := exactV_is he
    have h1 := hx.lo
    have h2 := hx.hi
    have h3 : 0 ≤ lessV l x := sumP_nonneg fun v hv => hp v (List.mem_filter.1 hv).1
    have h4 : lessV l x + sameV l x ≤ sumP l := by rw [← upV_split]; exact (vsum_filter hp _).2
    omega
end Go.Proofs.YtlbnlmhcpephbaaGreatDoor

namespace Go.Proofs.YtlbnlmhcpephbaaGreatDoor
open Go.RowKit
structure PS (part : Nat → Int) (rep : Int → Int) (stand : Int → Int) : Prop where
 mono : PartMono part
 rng : ∀ m : Nat, 0 < m → m ≤ 9223372036854775808 → 0 ≤ part m ∧ part m ≤ 1048576
 st : ∀ x : Int, x ≠ 0 → -9223372036854775808 ≤ x → x ≤ 9223372036854775807 → stand x = valZ rep (part x.natAbs) (decide (x < 0))
 s0 : stand 0 = 0
def BnV (w : World) (b : Nat) (S : List Nat) (k : Bool) (part : Nat → Int) (rep : Int → Int) (s : Bool) (most : Int) (l : List (Int × Int)) : Prop :=
 Bn w b S k part rep s most (keptP s most (rowV part true l)) (keptP s most (rowV part false l)) (negV l) (posV l) (zeroV l)
section
variable {w w' : World} {b : Nat} {S T : List Nat} {k s : Bool} {part : Nat → Int} {rep : Int → Int} {most : Int} {l : List (Int × Int)}
theorem BnV.frame (h : BnV w b S k part rep s most l) (hf : Frame T w w') (hn : Apart S T) : BnV w' b S k part rep s most l := Bn.frame h hf hn
theorem BnV.below (h : BnV w b S k part rep s most l) (hb : Below w.heap.size w w') : BnV w' b S k part rep s most l := Bn.below h hb
end
theorem btot_v (b : Nat) (S : List Nat) (k : Bool) (part : Nat → Int) (rep : Int → Int) (s : Bool) (most : Int) (l : List (Int × Int)) (w : World) (h : BnV w b S k part rep s most l) (hv : VOk l) :
  Calls Tryz.prog 103 #[.pointer (some ⟨b, 0, none⟩)] w fun e w' => e = .returned (.int .u64 (sumP l)) ∧ Below w.heap.size w w' := by
 obtain ⟨PB, pa, c0, c1, S0, S1, rfl, h⟩ := h
 obtain ⟨t1, t2, t3, t4⟩ := hv.three
 exact btot_at _ _ _ _ _ _ _ _ _ _ _ _ _ _ _ _ _ _ w h t3 t1 hv.sum
def BpvR (b : Nat) (S : List Nat) (k : Bool) (part : Nat → Int) (rep : Int → Int) (s : Bool) (most : Int) (l : List (Int × Int)) (w w' : World) : Prop := ∃ S', GrownS S S' w.heap.size ∧ BnV w' b S' k part rep s most l ∧ Frame S w w'
theorem stoFind_doc {s : Bool} {most t : Int} {row : List (Int × Int)} (h : Gd row) (hs : sumP row < 18446744073709551616) (ht : 0 ≤ t) :
  stoFind s (sumP row - sumP (keptP s most row)) (keptP s most row) t = (match findP t 0 row with | some i => if gap s (endP s row) i < most then some i else none | none => none) := by
 cases s
 ·exact Hi.lowFind_doc h hs ht
 ·exact Lo.lowFind_doc h hs ht
theorem stoFind_cnt {s : Bool} {most t i : Int} {row : List (Int × Int)} (h : Gd row) (hs : sumP row < 18446744073709551616) (ht : 0 ≤ t) (hf : findP t 0 row = some i) :
  stoFind s (sumP row - sumP (keptP s most row)) (keptP s most row) t = if cnt (keptP s most row) i = 0 then none else some i := by
 rw [stoFind_doc h hs ht, hf]
 dsimp only
 rw [cnt_kept]
 obtain ⟨x, hx, e⟩ := Lo.findP_mem hf
 have hc := (cnt_mem h).1 ⟨x, hx, e⟩
 by_cases hg : gap s (endP s row) i < most
 ·rw [if_pos hg, if_pos hg, if_neg (by omega)]
 ·rw [if_neg hg, if_neg hg, if_pos rfl]
theorem binFind_doc {part : Nat → Int} {rep stand : Int → Int} {s : Bool} {most t : Int} {l : List (Int × Int)} (hp : PS part rep stand) (hv : VOk l) (ht : 0 ≤ t) :
  binFind rep s (keptP s most (rowV part true l)) (keptP s most (rowV part false l)) (negV l) (posV l) (zeroV l) t = docFind13 part stand s most l t := by
 obtain ⟨t1, t2, t3, t4⟩ := hv.three
 have hsm := hv.sum
 unfold binFind docFind13
 by_cases h0 : t = 0 ∨ negV l + zeroV l + posV l < t
 ·rw [if_pos h0, exactV_none hv.pos (by omega)]
 ·rw [if_neg h0]
  obtain ⟨x, hx, hE⟩ := exactV_some hv.pos (t := t) (by omega) (by omega)
  rw [hx]
  dsimp only
  obtain ⟨v, hvm, hvx⟩ := hE.mem
  have hr := (hv.ok v hvm).1
  rw [hvx] at hr
  have gn := rowV_gd (part := part) (below := true) hv.pos (by omega)
  have gp := rowV_gd (part := part) (below := false) hv.pos (by omega)
  have sn := negV_row (part := part) hv.pos (by omega)
  have sp := posV_row (part := part) hv.pos (by omega)
  rcases Int.lt_trichotomy x 0 with h1 | rfl | h1
  ·obtain ⟨a1, a2⟩ := exact_neg hp.mono hv.ok hv.pos (by omega) hE h1 (by omega)
   have e := stoFind_cnt (s := s) (most := most) gn (by omega) (t := negV l - t + 1) (by omega) a2
   rw [sn] at e
   rw [if_pos a1, e, decide_eq_true h1]
   by_cases hc : cnt (keptP s most (rowV part true l)) (part x.natAbs) = 0
   ·rw [if_pos hc, if_pos ⟨by omega, hc⟩]; rfl
   ·rw [if_neg hc, if_neg (fun h => hc h.2)]
    show some _ = some _
    rw [hp.st x (by omega) hr.1 hr.2, decide_eq_true h1]
  ·obtain ⟨a1, a2⟩ := exact_zero hv.pos hE
   rw [if_neg (by omega), if_pos a2, if_neg (by simp), hp.s0]
  ·obtain ⟨a1, a2, a3⟩ := exact_pos hp.mono hv.ok hv.pos (by omega) hE h1
   have e := stoFind_cnt (s := s) (most := most) gp (by omega) (t := t - negV l - zeroV l) (by omega) a3
   rw [sp] at e
   rw [if_neg (by omega), if_neg (by omega), e, decide_eq_false (by omega : ¬ x < 0)]
   by_cases hc : cnt (keptP s most (rowV part false l)) (part x.natAbs) = 0
   ·rw [if_pos hc, if_pos ⟨by omega, hc⟩]; rfl
   ·rw [if_neg hc, if_neg (fun h => hc h.2)]
    show some _ = some _
    rw [hp.st x (by omega) hr.1 hr.2, decide_eq_false (by omega : ¬ x < 0)]
theorem bfind_v (b : Nat) (S : List Nat) (k : Bool) (part : Nat → Int) (rep stand : Int → Int) (s : Bool) (most t : Int) (l : List (Int × Int)) (w : World) (h : BnV w b S k part rep s most l) (hp : PS part rep stand) (hv : VOk l) (ht : 0 ≤ t ∧ t < 18446744073709551616) :
  Calls Tryz.prog 187 #[.pointer (some ⟨b, 0, none⟩), .int .u64 t] w fun e w' => e = .returned (optI (docFind13 part stand s most l t)) ∧ Below w.heap.size w w' := by
 obtain ⟨PB, pa, c0, c1, S0, S1, rfl, h⟩ := h
 obtain ⟨t1, t2, t3, t4⟩ := hv.three
 have := bfind_at _ _ _ _ _ _ _ _ _ _ _ _ _ _ _ _ _ t w h t3 (by rw [t1]; exact hv.sum) ht
 rw [binFind_doc hp hv ht.1] at this
 exact this
end Go.Proofs.YtlbnlmhcpephbaaGreatDoor

namespace Go.Proofs.YtlbnlmhcpephbaaGreatDoor
open Go.RowKit
theorem partT_mono (L : List Nat) : PartMono (partT L) := fun x y hx hxy hy => by
 have : (L.filter fun z => decide (z ≤ x)).length ≤ (L.filter fun z => decide (z ≤ y)).length := by
  rw [← List.countP_eq_length_filter, ← List.countP_eq_length_filter]
  exact List.countP_mono_left fun z _ hz => by simp only [decide_eq_true_eq] at hz ⊢; omega
 unfold partT
 omega
def Cs (u v d : Int) (k : Bool) (part : Nat → Int) (rep stand : Int → Int) : Prop :=
 (k = true ∧ 1 ≤ d ∧ d ≤ 4 ∧ part = partD d ∧ rep = repD d ∧ stand = standV (repM (gOf d))) ∨ (k = false ∧ d = 0 ∧ ∃ (un vn : Nat) (L : List Nat), u = un ∧ v = vn ∧ TabOk un vn L ∧ part = partT L ∧ rep = repT un vn L ∧ stand = standV (repTN un vn L))
def CsNo (u v d : Int) : Prop := d = 0 ∧ (goodC u v = false ∨ ∃ un vn : Nat, u = un ∧ v = vn ∧ 0 < un ∧ un < vn ∧ vn ≤ 2147483648 ∧ cellsF un vn 4096 1 = none)
theorem standV_val {rep' : Nat → Nat} {rep : Int → Int} {part : Nat → Int} {x : Int} (hx : x ≠ 0) (h : rep (part x.natAbs) = (rep' x.natAbs : Nat)) : standV rep' x = valZ rep (part x.natAbs) (decide (x < 0)) := by
 unfold standV valZ
 rw [if_neg hx, h]
 by_cases h1 : 0 < x
 ·rw [if_pos h1, decide_eq_false (by omega), if_neg (by simp)]
 ·rw [if_neg h1, decide_eq_true (by omega), if_pos rfl]
section
variable {u v d : Int} {k : Bool} {part : Nat → Int} {rep stand : Int → Int}
theorem Cs.ps (h : Cs u v d k part rep stand) : PS part rep stand := by
 rcases h with ⟨_, h1, h4, rfl, rfl, rfl⟩ | ⟨_, _, un, vn, L, _, _, ht, rfl, rfl, rfl⟩
 ·exact ⟨partD_mono d, fun m a b => by have := partD_rng (d := d) a b; omega, fun x hx a b => standV_val hx (repD_part (by omega) (by omega)), rfl⟩
 ·exact ⟨partT_mono L, fun m a b => by have := ht.part (m := m) a; have := ht.len; omega, fun x hx a b => standV_val hx (repT_part un vn L _), rfl⟩
end
def DocAt (w : World) (m : Nat) (TB : List Nat) (u v d side most : Int) (A : Option Addr) (len cap : Nat) : Prop :=
 (1 ≤ d ∧ BinsAt w m (.slice none 0 0) (.slice none 0 0) d side most A len cap ∧ TB = [m]) ∨
 (d = 0 ∧ ∃ (un vn : Nat) (L : List Nat) (A1 : Option Addr) (c1 : Nat) (A2 : Option Addr) (c2 : Nat), u = un ∧ v = vn ∧ TabOk un vn L ∧ BinsAt w m (.slice A1 L.length c1) (.slice A2 L.length c2) 0 side most A len cap ∧ RdU w A1 (castL L) ∧ RdU w A2 (castL (L.map (repN un vn))) ∧ TB = m :: (blk A1 ++ blk A2))
section
variable {w w' : World} {m : Nat} {TB S : List Nat} {u v d side most : Int} {A : Option Addr} {len cap : Nat} {k : Bool} {part : Nat → Int} {rep stand : Int → Int}
end
theorem Cs.one {u v d : Int} {k k' : Bool} {part part' : Nat → Int} {rep stand rep' stand' : Int → Int} (h : Cs u v d k part rep stand) (h' : Cs u v d k' part' rep' stand') : k = k' ∧ part = part' ∧ rep = rep' ∧ stand = stand' := by
 rcases h with ⟨rfl, h1, h4, rfl, rfl, rfl⟩ | ⟨rfl, hd, un, vn, L, e1, e2, ht, rfl, rfl, rfl⟩
 ·rcases h' with ⟨rfl, _, _, rfl, rfl, rfl⟩ | ⟨_, hd, _⟩
  ·exact ⟨rfl, rfl, rfl, rfl⟩
  ·omega
 ·rcases h' with ⟨_, hd', _⟩ | ⟨rfl, _, un', vn', L', e1', e2', ht', rfl, rfl, rfl⟩
  ·omega
  ·obtain rfl : un = un' := by omega
   obtain rfl : vn = vn' := by omega
   obtain rfl : L = L' := Option.some.inj (ht.h.symm.trans ht'.h)
   exact ⟨rfl, rfl, rfl, rfl⟩
end Go.Proofs.YtlbnlmhcpephbaaGreatDoor

namespace Go.Proofs.YtlbnlmhcpephbaaGreatDoor
open Go.RowKit
end Go.Proofs.YtlbnlmhcpephbaaGreatDoor

namespace Go.Proofs.YtlbnlmhcpephbaaGreatDoor
open Go.RowKit
theorem At.seven {w : World} {b : Nat} {T : TypeId} {v0 v1 v2 v3 v4 v5 v6 : Value} (h : At w b #[v0, v1, v2, v3, v4, v5, v6] T) : (w.cell? ⟨b, 0, none⟩ = some v0 ∧ w.cell? ⟨b, 1, none⟩ = some v1 ∧ w.cell? ⟨b, 2, none⟩ = some v2 ∧ w.cell? ⟨b, 3, none⟩ = some v3 ∧ w.cell? ⟨b, 4, none⟩ = some v4 ∧ w.cell? ⟨b, 5, none⟩ = some v5 ∧ w.cell? ⟨b, 6, none⟩ = some v6) ∧
  w.frozen? ⟨b, 0, none⟩ = false ∧ w.frozen? ⟨b, 1, none⟩ = false ∧ w.frozen? ⟨b, 2, none⟩ = false ∧ w.frozen? ⟨b, 3, none⟩ = false ∧ w.frozen? ⟨b, 4, none⟩ = false ∧ w.frozen? ⟨b, 5, none⟩ = false ∧ w.frozen? ⟨b, 6, none⟩ = false :=
 ⟨⟨h.cell rfl, h.cell rfl, h.cell rfl, h.cell rfl, h.cell rfl, h.cell rfl, h.cell rfl⟩, h.frozen 0, h.frozen 1, h.frozen 2, h.frozen 3, h.frozen 4, h.frozen 5, h.frozen 6⟩
structure LsB (w : World) (b bb : Nat) (B : List Nat) (part : Nat → Int) (rep : Int → Int) (u v : Int) (s : Bool) (most : Int) (l : List (Int × Int)) (lo hi : Int) : Prop where
 at' : At w b #[.pointer (some ⟨bb, 0, none⟩), .int .u64 u, .int .u64 v, .int .i64 (sideZ s), .int .i64 most, .int .i64 lo, .int .i64 hi] 154
 bn : BnV w bb B false part rep s most l
 nb : b ∉ B
def Ls (w : World) (b : Nat) (S : List Nat) (part : Nat → Int) (rep : Int → Int) (u v : Int) (s : Bool) (most : Int) (l : List (Int × Int)) (lo hi : Int) : Prop := ∃ bb B, S = b :: B ∧ LsB w b bb B part rep u v s most l lo hi
def LsV (w : World) (b : Nat) (S : List Nat) (part : Nat → Int) (rep : Int → Int) (u v : Int) (s : Bool) (most : Int) (l : List (Int × Int)) : Prop := Ls w b S part rep u v s most l (eLow l) (eHigh l)
section
variable {w w' : World} {b bb : Nat} {B S T : List Nat} {part : Nat → Int} {rep : Int → Int} {u v : Int} {s : Bool} {most lo hi lo' hi' : Int} {l : List (Int × Int)}
theorem LsB.frame (h : LsB w b bb B part rep u v s most l lo hi) (hf : Frame T w w') (hb : b ∉ T) (hn : Apart B T) : LsB w' b bb B part rep u v s most l lo hi := ⟨hf.at h.at' hb, h.bn.frame hf hn, h.nb⟩
theorem LsB.below (h : LsB w b bb B part rep u v s most l lo hi) (hb : Below w.heap.size w w') : LsB w' b bb B part rep u v s most l lo hi := h.frame (T := []) (Frame.of_below hb) (by simp) (fun _ _ => by simp)
theorem Ls.frame (h : Ls w b S part rep u v s most l lo hi) (hf : Frame T w w') (hn : Apart S T) : Ls w' b S part rep u v s most l lo hi := by
 obtain ⟨bb, B, rfl, h⟩ := h
 exact ⟨bb, B, rfl, h.frame hf (hn b (by simp)) fun j hj => hn j (by simp [hj])⟩
theorem Ls.below (h : Ls w b S part rep u v s most l lo hi) (hb : Below w.heap.size w w') : Ls w' b S part rep u v s most l lo hi := h.frame (T := []) (Frame.of_below hb) (fun _ _ => by simp)
end
def LsNew (u v z most : Int) (w : World) (e : Ending) (w' : World) : Prop :=
 (∃ part rep stand s b S, Cs u v 0 false part rep stand ∧ z = sideZ s ∧ (1 ≤ most ∧ most ≤ 4096) ∧ e = .returned (.tuple #[.pointer (some ⟨b, 0, none⟩), .int .i64 0]) ∧ Within S w.heap.size w'.heap.size ∧ LsV w' b S part rep u v s most []) ∨
 (∃ f : Int, e = .returned (.tuple #[.pointer none, .int .i64 f]) ∧ (f = 1 ∨ f = 6) ∧ (goodC u v = false → f = 1))
end Go.Proofs.YtlbnlmhcpephbaaGreatDoor

namespace Go.Proofs.YtlbnlmhcpephbaaGreatDoor
open Go.RowKit
def MostW (b : Nat) (most : Int) (W : World) : Prop := W.cell? ⟨b, 6, none⟩ = some (.int .i64 most)
theorem MostW.at {b : Nat} {most : Int} {W : World} (h : MostW b most W) : W.cell? ⟨b, 6, none⟩ = some (.int .i64 most) := h
def LpvR (b : Nat) (S : List Nat) (part : Nat → Int) (rep : Int → Int) (u v : Int) (s : Bool) (most : Int) (l : List (Int × Int)) (w w' : World) : Prop := ∃ S', GrownS S S' w.heap.size ∧ LsV w' b S' part rep u v s most l ∧ Frame S w w'
end Go.Proofs.YtlbnlmhcpephbaaGreatDoor

namespace Go.Proofs.YtlbnlmhcpephbaaGreatDoor
open Go.RowKit
def goodF (n d : Int) : Bool := decide (0 < d ∧ n ≤ d)
theorem sgood_any (n d : Int) (w : World) (h1 : 0 ≤ n) (h2 : n < 18446744073709551616) (h3 : 0 ≤ d) (h4 : d < 18446744073709551616) :
  Calls Tryz.prog 189 #[.agg #[.int .u64 n, .int .u64 d]] w fun e w' => e = .returned (.bool (goodF n d)) ∧ Below w.heap.size w w' := by
 have HG : Hid (goodF n d = decide (0 < d ∧ n ≤ d)) := rfl
 by_cases hd : 0 < d
 ·go_enter Tryz.func189, Tryz.ntmps189
  go_wp2
  go_ret
  exact ⟨by rw [HG.out]; simp [hd], (by repeat (first | with_reducible assumption | with_reducible exact Below.refl _ _ | with_reducible refine Below.drew ?_ | with_reducible refine Below.drewN ?_ _ | with_reducible refine Below.setCell ?_ (by first | omega | (simp; done) | (simp; omega)) _ | with_reducible refine Below.alloc ?_ (by first | omega | (simp; done) | (simp; omega) | (simp [World.setCell]; omega)) _))⟩
 ·go_enter Tryz.func189, Tryz.ntmps189
  go_wp2
  go_ret
  exact ⟨by rw [HG.out]; simp; omega, (by repeat (first | with_reducible assumption | with_reducible exact Below.refl _ _ | with_reducible refine Below.drew ?_ | with_reducible refine Below.drewN ?_ _ | with_reducible refine Below.setCell ?_ (by first | omega | (simp; done) | (simp; omega)) _ | with_reducible refine Below.alloc ?_ (by first | omega | (simp; done) | (simp; omega) | (simp [World.setCell]; omega)) _))⟩
theorem rgood_any (n d : Int) (w : World) (h1 : 0 ≤ n) (h2 : n < 18446744073709551616) (h3 : 0 ≤ d) (h4 : d < 18446744073709551616) :
  Calls Tryz.prog 9 #[.agg #[.int .u64 n, .int .u64 d]] w fun e w' => e = .returned (.bool (goodF n d)) ∧ Below w.heap.size w w' := by
 have HG : Hid (goodF n d = decide (0 < d ∧ n ≤ d)) := rfl
 by_cases hd : d = 0
 ·subst hd
  go_enter Tryz.func9, Tryz.ntmps9
  go_wp2
  go_ret
  exact ⟨by rw [HG.out]; simp, (by repeat (first | with_reducible assumption | with_reducible exact Below.refl _ _ | with_reducible refine Below.drew ?_ | with_reducible refine Below.drewN ?_ _ | with_reducible refine Below.setCell ?_ (by first | omega | (simp; done) | (simp; omega)) _ | with_reducible refine Below.alloc ?_ (by first | omega | (simp; done) | (simp; omega) | (simp [World.setCell]; omega)) _))⟩
 ·have hd' : (d == 0) = false := beq_eq_false_iff_ne.2 hd
  have hd2 := Lib.hid hd
  by_cases hn : d < n
  ·go_enter Tryz.func9, Tryz.ntmps9
   go_wp2
   go_ret
   have hn' : d < n := by assumption
   exact ⟨by rw [HG.out]; simp; omega, (by repeat (first | with_reducible assumption | with_reducible exact Below.refl _ _ | with_reducible refine Below.drew ?_ | with_reducible refine Below.drewN ?_ _ | with_reducible refine Below.setCell ?_ (by first | omega | (simp; done) | (simp; omega)) _ | with_reducible refine Below.alloc ?_ (by first | omega | (simp; done) | (simp; omega) | (simp [World.setCell]; omega)) _))⟩
  ·go_enter Tryz.func9, Tryz.ntmps9
   go_wp2
   go_ret
   have hn' : n ≤ d := by assumption
   exact ⟨by rw [HG.out, decide_eq_true (⟨by have := hd2.out; omega, hn'⟩ : 0 < d ∧ n ≤ d)]; first | rfl | (simp; omega), (by repeat (first | with_reducible assumption | with_reducible exact Below.refl _ _ | with_reducible refine Below.drew ?_ | with_reducible refine Below.drewN ?_ _ | with_reducible refine Below.setCell ?_ (by first | omega | (simp; done) | (simp; omega)) _ | with_reducible refine Below.alloc ?_ (by first | omega | (simp; done) | (simp; omega) | (simp [World.setCell]; omega)) _))⟩
def placeT (a d n : Int) : Int := if goodF a d = true then (if n = 0 then 0 else max (ceilQ (a * n) d) 1) else 0
def placeE (a d n : Int) : Int := if goodF a d = true then (if n = 0 then 5 else 0) else 1
theorem max_if (x : Int) : (if x < 1 then 1 else x) = max x 1 := by split <;> omega
theorem place_any (a d n : Int) (w : World) (h1 : 0 ≤ a) (h2 : a < 18446744073709551616) (h3 : 0 ≤ d) (h4 : d < 18446744073709551616) (h5 : 0 ≤ n) (h6 : n < 18446744073709551616) :
  Calls Tryz.prog 186 #[.agg #[.int .u64 a, .int .u64 d], .int .u64 n] w fun e w' => e = .returned (.tuple #[.int .u64 (placeT a d n), .int .i64 (placeE a d n)]) ∧ Below w.heap.size w w' := by
 go_enter Tryz.func186, Tryz.ntmps186
 go_wp2_with fail
 refine (sgood_any a d _ h1 h2 h3 h4).mono ?_
 rintro e w1 ⟨rfl, hb⟩
 have s1 : At w1 w.heap.size #[.int .u64 a, .int .u64 d] 25 := At.below (At.new' _ _ _ rfl) hb
 have hB : Below w.heap.size w w1 := Below.trans (by repeat (first | with_reducible assumption | with_reducible exact Below.refl _ _ | with_reducible refine Below.drew ?_ | with_reducible refine Below.drewN ?_ _ | with_reducible refine Below.setCell ?_ (by first | omega | (simp; done) | (simp; omega)) _ | with_reducible refine Below.alloc ?_ (by first | omega | (simp; done) | (simp; omega) | (simp [World.setCell]; omega)) _)) (hb.mono (by first | omega | (simp; done) | (simp; omega) | (simp [World.setCell]; omega)))
 have f1 := s1.two
 have z1 := hB.size
 clear hb
 cases hg : goodF a d
 ·have e1 : Hid (placeT a d n = 0) := by show _ = _; unfold placeT; rw [hg]; rfl
  have e2 : Hid (placeE a d n = 1) := by show _ = _; unfold placeE; rw [hg]; rfl
  go_wp2
  go_ret2
  exact ⟨by rw [e1.out, e2.out]; rfl, hB⟩
 ·by_cases hn : n = 0
  ·have e1 : Hid (placeT a d n = 0) := by show _ = _; unfold placeT; rw [hg, if_pos rfl, if_pos hn]
   have e2 : Hid (placeE a d n = 5) := by show _ = _; unfold placeE; rw [hg, if_pos rfl, if_pos hn]
   subst hn
   go_wp2
   go_ret2
   exact ⟨by rw [e1.out, e2.out]; rfl, hB⟩
  ·have e1 : Hid (placeT a d n = max (ceilQ (a * n) d) 1) := by show _ = _; unfold placeT; rw [hg, if_pos rfl, if_neg hn]
   have e2 : Hid (placeE a d n = 0) := by show _ = _; unfold placeE; rw [hg, if_pos rfl, if_neg hn]
   have hn' : (n == 0) = false := beq_eq_false_iff_ne.2 hn
   go_wp2_with fail
   refine (ceil_any a n d _ h1 h2 h5 h6 h3 h4).mono ?_
   rintro e w2 ⟨rfl, hb⟩
   obtain ⟨q, hq⟩ : ∃ q, ceilQ (a * n) d = q := ⟨_, rfl⟩
   rw [hq] at e1 ⊢
   have hm := max_if q
   go_wp2
   go_ret2
   exact ⟨by rw [e1.out, e2.out]; first | rfl | simp, keep1 hB hb⟩
theorem rplace_any (a d n : Int) (w : World) (h1 : 0 ≤ a) (h2 : a < 18446744073709551616) (h3 : 0 ≤ d) (h4 : d < 18446744073709551616) (h5 : 0 ≤ n) (h6 : n < 18446744073709551616) :
  Calls Tryz.prog 12 #[.agg #[.int .u64 a, .int .u64 d], .int .u64 n] w fun e w' => e = .returned (.tuple #[.int .u64 (placeT a d n), .int .i64 (placeE a d n)]) ∧ Below w.heap.size w w' := by
 go_enter Tryz.func12, Tryz.ntmps12
 go_wp2_with fail
 refine (rgood_any a d _ h1 h2 h3 h4).mono ?_
 rintro e w1 ⟨rfl, hb⟩
 have s1 : At w1 w.heap.size #[.int .u64 a, .int .u64 d] 25 := At.below (At.new' _ _ _ rfl) hb
 have hB : Below w.heap.size w w1 := Below.trans (by repeat (first | with_reducible assumption | with_reducible exact Below.refl _ _ | with_reducible refine Below.drew ?_ | with_reducible refine Below.drewN ?_ _ | with_reducible refine Below.setCell ?_ (by first | omega | (simp; done) | (simp; omega)) _ | with_reducible refine Below.alloc ?_ (by first | omega | (simp; done) | (simp; omega) | (simp [World.setCell]; omega)) _)) (hb.mono (by first | omega | (simp; done) | (simp; omega) | (simp [World.setCell]; omega)))
 have f1 := s1.two
 have z1 := hB.size
 clear hb
 cases hg : goodF a d
 ·have e1 : Hid (placeT a d n = 0) := by show _ = _; unfold placeT; rw [hg]; rfl
  have e2 : Hid (placeE a d n = 1) := by show _ = _; unfold placeE; rw [hg]; rfl
  go_wp2
  go_ret2
  exact ⟨by rw [e1.out, e2.out]; rfl, hB⟩
 ·by_cases hn : n = 0
  ·have e1 : Hid (placeT a d n = 0) := by show _ = _; unfold placeT; rw [hg, if_pos rfl, if_pos hn]
   have e2 : Hid (placeE a d n = 5) := by show _ = _; unfold placeE; rw [hg, if_pos rfl, if_pos hn]
   subst hn
   go_wp2
   go_ret2
   exact ⟨by rw [e1.out, e2.out]; rfl, hB⟩
  ·have e1 : Hid (placeT a d n = max (ceilQ (a * n) d) 1) := by show _ = _; unfold placeT; rw [hg, if_pos rfl, if_neg hn]
   have e2 : Hid (placeE a d n = 0) := by show _ = _; unfold placeE; rw [hg, if_pos rfl, if_neg hn]
   have hn' : (n == 0) = false := beq_eq_false_iff_ne.2 hn
   have hq0 : 0 ≤ ceilQ (a * n) d := (ceilQ_bd _ _ (Int.mul_nonneg h1 h5) h3).1
   go_wp2_with fail
   refine (rceil_any a n d _ h1 h2 h5 h6 h3 h4).mono ?_
   rintro e w2 ⟨rfl, hb⟩
   obtain ⟨q, hq⟩ : ∃ q, ceilQ (a * n) d = q := ⟨_, rfl⟩
   rw [hq] at e1 hq0 ⊢
   by_cases h0 : q = 0
   ·subst h0
    go_wp2
    go_ret2
    exact ⟨by rw [e1.out, e2.out]; rfl, keep1 hB hb⟩
   ·have h0' : (q == 0) = false := beq_eq_false_iff_ne.2 h0
    have e3 := Lib.hid (show max q 1 = q by omega)
    go_wp2
    go_ret2
    exact ⟨by rw [e1.out, e2.out, e3.out]; rfl, keep1 hB hb⟩
end Go.Proofs.YtlbnlmhcpephbaaGreatDoor

namespace Go.Proofs.YtlbnlmhcpephbaaGreatDoor
open Go.RowKit
end Go.Proofs.YtlbnlmhcpephbaaGreatDoor

namespace Go.Proofs.YtlbnlmhcpephbaaGreatDoor
open Go.RowKit
def lessF (an ad bn bd : Int) : Bool := if ad = 0 then false else if bd = 0 then true else decide (an * bd < bn * ad)
end Go.Proofs.YtlbnlmhcpephbaaGreatDoor

namespace Go.Proofs.YtlbnlmhcpephbaaGreatDoor
theorem goodF_iff {a d : Int} : goodF a d = true ↔ 0 < d ∧ a ≤ d := by unfold goodF; exact decide_eq_true_iff
structure IsPlace (a d n t : Int) : Prop where
 one : 1 ≤ t
 le : t ≤ n
 up : a * n ≤ t * d
 least : t = 1 ∨ (t - 1) * d < a * n
theorem placeT_is {a d n : Int} (ha : 0 ≤ a) (hn : 0 < n) (hn' : n < 18446744073709551616) (hg : goodF a d = true) : IsPlace a d n (placeT a d n) := by
 obtain ⟨hd, had⟩ := goodF_iff.1 hg
 unfold placeT
 rw [if_pos hg, if_neg (by omega)]
 have h1 : a * n ≤ d * n := Int.mul_le_mul_of_nonneg_right had (by omega)
 have h2 : d * n ≤ d * 18446744073709551615 := Int.mul_le_mul_of_nonneg_left (by omega) (by omega)
 have h0 : 0 ≤ a * n := Int.mul_nonneg ha (by omega)
 unfold ceilQ
 rw [if_pos ⟨Int.le_trans h1 h2, hd⟩]
 obtain ⟨X, hX⟩ : ∃ X, a * n = X := ⟨_, rfl⟩
 rw [hX] at h0 h1 ⊢
 obtain ⟨c, hc⟩ : ∃ c, (X + d - 1) / d = c := ⟨_, rfl⟩
 have e1 := Int.ediv_mul_le (X + d - 1) (show d ≠ 0 by omega)
 have e2 := Int.lt_ediv_add_one_mul_self (X + d - 1) hd
 rw [hc] at e1 e2 ⊢
 rw [Int.add_mul, Int.one_mul] at e2
 have hc0 : 0 ≤ c := by rw [← hc]; exact Int.ediv_nonneg (by omega) (by omega)
 have hcn : c ≤ n := by
  rcases Int.lt_or_le n c with h | h
  ·exfalso
   have h3 : (n + 1) * d ≤ c * d := Int.mul_le_mul_of_nonneg_right (by omega) (by omega)
   rw [Int.add_mul, Int.one_mul, Int.mul_comm n d] at h3
   omega
  ·exact h
 refine ⟨by omega, by omega, ?_, ?_⟩
 ·have h3 : c * d ≤ max c 1 * d := Int.mul_le_mul_of_nonneg_right (by omega) (by omega)
  omega
 ·rcases (show max c 1 = 1 ∨ (max c 1 = c ∧ 1 < c) by omega) with h | ⟨h, _⟩
  ·exact .inl h
  ·rw [h, Int.sub_mul, Int.one_mul]
   exact .inr (by omega)
end Go.Proofs.YtlbnlmhcpephbaaGreatDoor

namespace Go.Proofs.YtlbnlmhcpephbaaGreatDoor
open Go.RowKit
def LsSet (b : Nat) (S : List Nat) (part : Nat → Int) (rep : Int → Int) (u v : Int) (s : Bool) (most : Int) (l : List (Int × Int)) (lo hi : Int) (w : World) (e : Ending) (w' : World) : Prop :=
 ((lo ≤ hi ∧ (sumP l = 0 → lo = 0 ∧ hi = 0)) ∧ e = .returned (.bool true) ∧ Ls w' b S part rep u v s most l lo hi ∧ Frame S w w') ∨
 (¬ (lo ≤ hi ∧ (sumP l = 0 → lo = 0 ∧ hi = 0)) ∧ e = .returned (.bool false) ∧ Below w.heap.size w w')
def quantL (part : Nat → Int) (stand : Int → Int) (s : Bool) (most : Int) (l : List (Int × Int)) (lo hi a d : Int) : Int × Int :=
 if placeE a d (sumP l) = 0 then
  match docFind13 part stand s most l (placeT a d (sumP l)) with
  | none => (0, 9)
  | some x => (min (max x lo) hi, 0)
 else (0, placeE a d (sumP l))
theorem placeT_lt {a d n : Int} (ha : 0 ≤ a) (hd : 0 ≤ d) (hn : 0 ≤ n) (hn' : n ≤ 9223372036854775807) (hE : placeE a d n = 0) : 0 ≤ placeT a d n ∧ placeT a d n < 18446744073709551616 := by
 have hg : goodF a d = true ∧ n ≠ 0 := by
  unfold placeE at hE
  split at hE
  ·rename_i h1
   split at hE
   ·omega
   ·rename_i h2
    exact ⟨h1, h2⟩
  ·omega
 have := placeT_is ha (show 0 < n by have := hg.2; omega) (by omega) hg.1
 have h1 := this.one
 have h2 := this.le
 omega
set_option maxRecDepth 100000 in
set_option maxHeartbeats 2000000 in
theorem lsquant_k (b : Nat) (S : List Nat) (part : Nat → Int) (rep stand : Int → Int) (u v : Int) (s : Bool) (most : Int) (l : List (Int × Int)) (lo hi a d : Int) (w : World) (h : Ls w b S part rep u v s most l lo hi) (hp : PS part rep stand) (hv : VOk l) (h1 : 0 ≤ a) (h2 : a < 18446744073709551616) (h3 : 0 ≤ d) (h4 : d < 18446744073709551616) :
    Calls Tryz.prog 182 #[.pointer (some ⟨b, 0, none⟩), .agg #[.int .u64 a, .int .u64 d]] w fun e w' => e = .returned (.tuple #[.int .i64 (quantL part stand s most l lo hi a d).1, .int .i64 (quantL part stand s most l lo hi a d).2]) ∧ Below w.heap.size w w' := by
  obtain ⟨bb, B, rfl, h⟩ := h
  have hs0 := hv.sum0
  have hs := hv.sum
  have HTV := Lib.hid fun W (hb : Below w.heap.size w W) => btot_v bb B false part rep s most l W (h.bn.below hb) hv
  have HC := Lib.hid fun w' => place_any a d (sumP l) w' h1 h2 h3 h4 hs0 (by omega)
  have HF : Hid (placeE a d (sumP l) = 0 → ∀ W, Below w.heap.size w W → Calls Tryz.prog 187 #[.pointer (some ⟨bb, 0, none⟩), .int .u64 (placeT a d (sumP l))] W fun e w' => e = .returned (optI (docFind13 part stand s most l (placeT a d (sumP l)))) ∧ Below W.heap.size W w') := fun hE W hb =>
    bfind_v bb B false part rep stand s most _ l W (h.bn.below hb) hp hv (placeT_lt h1 h3 hs0 hs hE)
  have HQ : Hid ((placeE a d (sumP l) = 0 → quantL part stand s most l lo hi a d = match docFind13 part stand s most l (placeT a d (sumP l)) with | none => (0, 9) | some x => (min (max x lo) hi, 0)) ∧ (placeE a d (sumP l) ≠ 0 → quantL part stand s most l lo hi a d = (0, placeE a d (sumP l)))) :=
    ⟨fun e => by unfold quantL; rw [if_pos e], fun e => by unfold quantL; rw [if_neg e]⟩
  obtain ⟨qp, hqp⟩ : ∃ q, quantL part stand s most l lo hi a d = q := ⟨_, rfl⟩
  rw [hqp] at HQ ⊢
  obtain ⟨o, ho⟩ : ∃ o, docFind13 part stand s most l (placeT a d (sumP l)) = o := ⟨_, rfl⟩
  rw [ho] at HF HQ
  obtain ⟨E, hE⟩ : ∃ E, placeE a d (sumP l) = E := ⟨_, rfl⟩
  obtain ⟨t, ht⟩ : ∃ t, placeT a d (sumP l) = t := ⟨_, rfl⟩
  rw [hE] at HC HF HQ
  rw [ht] at HC HF
  obtain ⟨n, hn⟩ : ∃ n, sumP l = n := ⟨_, rfl⟩
  rw [hn] at HTV HC
  have HA := Lib.hid fun W (hb : Below w.heap.size w W) => (h.below hb).at'
  clear h hp hv h1 h2 h3 h4 hs0 hs hqp ho hE ht hn
  have hb0 : Below w.heap.size w (w.alloc (.cells #[.int .u64 a, .int .u64 d] 25)) := (Below.refl _ _).alloc (Nat.le_refl _) _
  have r1 := At.new w #[.int .u64 a, .int .u64 d] 25
  have s1 := HA.out _ hb0
  go_enter Tryz.func182, Tryz.ntmps182
  go_wp2
  obtain ⟨W1, hW1⟩ : ∃ W, w.alloc (.cells #[.int .u64 a, .int .u64 d] 25) = W := ⟨_, rfl⟩
  have HT1 := Lib.hid fun W (hb : Below W1.heap.size W1 W) => HTV.out W (by rw [hW1] at hb0; exact keep1 hb0 hb)
  rw [hW1] at hb0 r1 s1
  try rw [hW1]
  clear hW1
  have hfar1 := fun x : Far W1 => (x.at s1).seven
  have hfar2 := fun x : Far W1 => (x.at r1).two
  refine wp_region_far (by kernel_rfl) (by kernel_rfl) ?_
  repeat (first | go_big_quiet_skip | (go_big_quiet_want; go_big_quiet_op; first | go_big_quiet_on | (apply Exists.intro; refine ⟨fun _ => ?_, ?_⟩; (focus (first | (with_reducible refine far_of (HT1.out _ (Far.below _))) | (with_reducible refine far_of (HC.out _)))); go_big_quiet_on)))
  refine wpQuiet_nil ?_
  rintro _ ⟨xq, rfl⟩
  clear hfar1 hfar2
  have HB2 : Hid (Below w.heap.size w xq.far) := keep1 hb0 xq.below
  obtain ⟨W2, hW2⟩ : ∃ W, xq.far = W := ⟨_, rfl⟩
  rw [hW2] at HB2 ⊢
  clear hW2 s1 r1 hb0 HT1 HTV HC
  by_cases hE : E = 0
  · have HQ1 := Lib.hid (HQ.out.1 hE)
    have HF1 := Lib.hid (HF.out hE)
    subst hE
    have s2 := HA.out W2 HB2.out
    have f2 := s2.seven
    have l2 := s2.lt
    clear HQ HF s2
    go_wp2_with fail
    refine (HF1.out W2 HB2.out).mono ?_
    rintro e w3 ⟨rfl, hb⟩
    have HB3 := Lib.hid (keep1 HB2.out hb)
    clear hb HF1 HB2 f2 l2
    cases o with
    | none =>
      rw [show optI none = .tuple #[.int .i64 0, .bool false] from rfl]
      clear HA
      go_wp2
      go_ret2
      exact ⟨by rw [HQ1.out]; rfl, HB3.out⟩
    | some x =>
      rw [show optI (some x) = .tuple #[.int .i64 x, .bool true] from rfl]
      have s3 := HA.out w3 HB3.out
      clear HA
      go_wp2
      have hfar1 := fun x : Far w3 => (x.at s3).seven
      refine wp_region_far (by kernel_rfl) (by kernel_rfl) ?_
      repeat (first | go_big_quiet_skip | (go_big_quiet_want; go_big_quiet_op; first | go_big_quiet_on | (apply Exists.intro; refine ⟨fun _ => ?_, ?_⟩; (focus (first | (fail))); go_big_quiet_on)))
      refine wpQuiet_nil ?_
      rintro _ ⟨xq, rfl⟩
      clear hfar1
      have hb2 := xq.below
      clear s3
      go_wp2
      go_ret2
      exact ⟨by rw [HQ1.out]; rfl, keep1 HB3.out hb2⟩
  · have HQ1 := Lib.hid (HQ.out.2 hE)
    have hd : (E != 0) = true := bne_iff_ne.2 hE
    clear hE HQ HF HA
    go_wp2
    go_ret2
    exact ⟨by rw [HQ1.out]; rfl, HB2.out⟩
end Go.Proofs.YtlbnlmhcpephbaaGreatDoor

namespace Go.Proofs.YtlbnlmhcpephbaaGreatDoor
open Go.RowKit
def SkW (o : Nat) (cs : Array Value) (W : World) : Prop := At W o cs 154
def SkW2 (b o : Nat) (cs cs' : Array Value) (W : World) : Prop := At W b cs 154 ∧ At W o cs' 154
end Go.Proofs.YtlbnlmhcpephbaaGreatDoor

namespace Go.Proofs.YtlbnlmhcpephbaaGreatDoor
open Go.RowKit
def quantD (stand : Int → Int) (l : List (Int × Int)) (a d : Int) : Int := if placeE a d (sumP l) = 0 then min (max (stand ((exactV l (placeT a d (sumP l))).getD 0)) (eLow l)) (eHigh l) else 0
def likeLo (g : Nat) (x : Int) : Int := if x = 0 then 0 else if 0 < x then (loN g x.natAbs : Int) else -(hiN g x.natAbs : Int)
def likeHi (g : Nat) (x : Int) : Int := if x = 0 then 0 else if 0 < x then min (hiN g x.natAbs : Int) 9223372036854775807 else -(loN g x.natAbs : Int)
end Go.Proofs.YtlbnlmhcpephbaaGreatDoor
