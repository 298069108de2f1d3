/- Texts of this claim, joined, indents halved: CapAll, RowV, VOk, TopArgs, Kind, QuillP, CrcP, FrameC, Bytes. -/
import Derived.Test.YtlbnlmhcpephbaaGreatDoorProg
import Derived.Lib.SmallJoins
import Derived.Laws.Bits64
import Derived.Laws.Bits64b
import Derived.Lib.EndianBits
import Derived.Lib.Zigzag
import Derived.Lib.VarintBits
import Derived.Laws.IdiomStrings
import Derived.Maps.AppendAt
import Derived.OwnWalk
import Derived.Below
import Derived.Lib.AppendStr
import Derived.Test.YtlbnlmhcpephbaaGreatDoorKe5
namespace Go.Proofs.YtlbnlmhcpephbaaGreatDoor
def gap (s : Bool) (e i : Int) : Int := if s then e - i else i - e
def endP (s : Bool) (ps : List (Int × Int)) : Int := if s then (ps.getD (ps.length - 1) (0, 0)).1 else (ps.getD 0 (0, 0)).1
def keptP (s : Bool) (most : Int) (ps : List (Int × Int)) : List (Int × Int) := ps.filter fun x => decide (gap s (endP s ps) x.1 < most)
def capRow (s : Bool) (most : Int) (ps : List (Int × Int)) (q c : Int) : List (Int × Int) :=
 if ps.length ≠ 0 ∧ most ≤ gap s (endP s ps) q then ps else rowAdd (ps.filter fun x => decide (gap s q x.1 < most)) q c
def Win (s : Bool) (most : Int) (ps : List (Int × Int)) : Prop := ∀ x ∈ ps, gap s (endP s ps) x.1 < most
section
variable {s : Bool} {most : Int} {ps all : List (Int × Int)} {q c : Int}
def addAll (ps l : List (Int × Int)) : List (Int × Int) := l.foldl (fun r x => rowAdd r x.1 x.2) ps
def capAll (s : Bool) (most : Int) (ps l : List (Int × Int)) : List (Int × Int) := l.foldl (fun r x => capRow s most r x.1 x.2) ps
end
end Go.Proofs.YtlbnlmhcpephbaaGreatDoor
namespace Go.Proofs.YtlbnlmhcpephbaaGreatDoor
def farI (s : Bool) (ps : List (Int × Int)) : Nat := if s then 0 else ps.length - 1
def near (s : Bool) (most e : Int) (ps : List (Int × Int)) : List (Int × Int) := ps.filter fun x => decide (gap s e x.1 < most)
section
variable {s : Bool} {most e : Int} {ps : List (Int × Int)}
end
end Go.Proofs.YtlbnlmhcpephbaaGreatDoor
namespace Go.Proofs.YtlbnlmhcpephbaaGreatDoor
open Go.RowKit
def lenC (w : World) (c : Nat) : Nat := match w.cell? ⟨c, 1, none⟩ with
 | some (.slice _ n _) => n
 | _ => 0
end Go.Proofs.YtlbnlmhcpephbaaGreatDoor

namespace Go.Proofs.YtlbnlmhcpephbaaGreatDoor
def sgn (below : Bool) (x : Int) : Bool := decide (x ≠ 0) && (decide (x < 0) == below)
def selV (part : Nat → Int) (below : Bool) (l : List (Int × Int)) : List (Int × Int) := (l.filter fun v => sgn below v.1).map fun v => (part v.1.natAbs, v.2)
def rowV (part : Nat → Int) (below : Bool) (l : List (Int × Int)) : List (Int × Int) := addAll [] (selV part below l)
section
variable {part : Nat → Int} {below : Bool} {l : List (Int × Int)}
end
def lessV (l : List (Int × Int)) (x : Int) : Int := sumP (l.filter fun v => decide (v.1 < x))
def sameV (l : List (Int × Int)) (x : Int) : Int := sumP (l.filter fun v => decide (v.1 = x))
def exactV (l : List (Int × Int)) (t : Int) : Option Int := (l.find? fun v => decide (lessV l v.1 < t ∧ t ≤ lessV l v.1 + sameV l v.1)).map fun v => v.1
structure IsExact (l : List (Int × Int)) (t x : Int) : Prop where
 mem : ∃ v ∈ l, v.1 = x
 lo : lessV l x < t
 hi : t ≤ lessV l x + sameV l x
def PartMono (part : Nat → Int) : Prop := ∀ a b : Nat, 0 < a → a ≤ b → b ≤ 9223372036854775808 → part a ≤ part b
def negV (l : List (Int × Int)) : Int := sumP (l.filter fun v => decide (v.1 < 0))
def posV (l : List (Int × Int)) : Int := sumP (l.filter fun v => decide (0 < v.1))
def zeroV (l : List (Int × Int)) : Int := sumP (l.filter fun v => decide (v.1 = 0))
section
variable {part : Nat → Int} {l : List (Int × Int)} {t x : Int}
end
end Go.Proofs.YtlbnlmhcpephbaaGreatDoor

namespace Go.Proofs.YtlbnlmhcpephbaaGreatDoor
open Go.RowKit
structure VOk (l : List (Int × Int)) : Prop where
 ok : okP l
 pos : ∀ v ∈ l, 0 < v.2
 sum : sumP l ≤ 9223372036854775807
end Go.Proofs.YtlbnlmhcpephbaaGreatDoor

namespace Go.Proofs.YtlbnlmhcpephbaaGreatDoor
open Go.ChangeShapes Go.WideShapes Go.ChangeAt Go.RowKit Go.Deep
structure Lf where
 A : Option Addr
 cap : Nat
 vals : List (Int × Int)
 bytes : Bool
def Lf.ok (w : World) (x : Lf) : Prop := RdP w x.A x.vals ∧ okP x.vals ∧ x.vals.length ≤ 9223372036854775807
def RdL (w : World) (A : Option Addr) (ls : List Lf) : Prop := Rd w A (ls.flatMap fun x => [.slice x.A x.vals.length x.cap, .bool x.bytes]) ∧ ∀ x ∈ ls, x.ok w
theorem Lf.ok_below {w w' : World} {x : Lf} (h : x.ok w) (hb : Below w.heap.size w w') : x.ok w' := ⟨h.1.below hb, h.2⟩
theorem RdL.below {w w' : World} {A : Option Addr} {ls : List Lf} (h : RdL w A ls) (hb : Below w.heap.size w w') : RdL w' A ls := ⟨h.1.below hb, fun x hx => Lf.ok_below (h.2 x hx) hb⟩
theorem RdL.at {w : World} {A : Option Addr} {ls : List Lf} (h : RdL w A ls) (j : Nat) (hj : j < ls.length) :
  ∃ g o, A = some ⟨g, o, none⟩ ∧ g < w.heap.size ∧ w.cell? ⟨g, o + j * 2, none⟩ = some (.slice (ls[j]'hj).A (ls[j]'hj).vals.length (ls[j]'hj).cap) ∧ w.cell? ⟨g, o + j * 2 + 1, none⟩ = some (.bool (ls[j]'hj).bytes) := by
 obtain ⟨q0, q1⟩ := flat2 (f := fun x : Lf => Value.slice x.A x.vals.length x.cap) (g := fun x => Value.bool x.bytes) ls j hj
 obtain ⟨g, o, rfl, hg, h0⟩ := h.1 _ _ q0
 obtain ⟨g', o', e, _, h1⟩ := h.1 _ _ q1
 simp only [Option.some.injEq, Addr.mk.injEq, and_true] at e
 obtain ⟨rfl, rfl⟩ := e
 exact ⟨g, o, rfl, hg, h0, h1⟩
section
variable {H : Type} {enc : TypeId × Value → H} {P : Program} {w : World}
theorem open_leaves {t e s v : TypeId} {f0 f1 e0 e1 : Field} {a0 : Option Addr} {len cap : Nat} {d : DataW H} {p : List MemPlace} (ht : P.underlying t = some (.slice e)) (he : P.underlying e = some (.struct #[f0, f1]))
  (hone : oneCellFields P #[f0, f1] = true) (hC : P.cellsOf e = 2) (h0 : P.underlying f0.type = some (.slice v)) (h1 : P.underlying f1.type = some .bool)
  (hv : P.underlying v = some (.struct #[e0, e1])) (hone' : oneCellFields P #[e0, e1] = true) (hC' : P.cellsOf v = 2) (he0 : P.underlying e0.type = some (.int .i64)) (he1 : P.underlying e1.type = some (.int .u64))
  (h : DataW.Trod enc P w 0 (fun _ => true) true t (.slice a0 len cap) d p) :
  ∃ ls : List Lf, ls.length = len ∧ RdL w a0 ls ∧ len ≤ 9223372036854775807 := by
 obtain ⟨hl, hi⟩ := open_fields ht he hone hC h
 obtain ⟨xs, hxl, hx⟩ := list_choose (P := fun i (x : Lf) => x.ok w ∧
   (∃ g o, a0 = some ⟨g, o, none⟩ ∧ g < w.heap.size ∧ w.cell? ⟨g, o + i * 2, none⟩ = some (.slice x.A x.vals.length x.cap)) ∧ (∃ g o, a0 = some ⟨g, o, none⟩ ∧ g < w.heap.size ∧ w.cell? ⟨g, o + (i * 2 + 1), none⟩ = some (.bool x.bytes))) len (fun i him => by
  obtain ⟨n, hn⟩ := hi i him
  obtain ⟨v0, y0, c0, t0⟩ := hn 0 f0 rfl
  obtain ⟨v1, y1, c1, t1⟩ := hn 1 f1 rfl
  obtain ⟨b, e1', _⟩ := DataW.trod_bool h1 t1
  obtain ⟨A, l, c, e0'⟩ := Go.Joins.slice_form h0 t0
  simp only [List.cons.injEq, and_true] at e0' e1'
  subst e0' e1'
  have hT : DataW.Trod enc P w 0 (fun _ => true) true f0.type (.slice A l c) y0.1 y0.2 := ⟨n, by simpa [Value.cells] using t0⟩
  obtain ⟨zs, rfl, hR, hW, hL⟩ := open_two_rd h0 hv hone' hC' he0 he1 hT
  exact ⟨⟨A, c, zs, b⟩, ⟨hR, fun x hx => ⟨wf_i64 (hW x hx).1, wf_u64 (hW x hx).2⟩, hL⟩, c0, c1⟩)
 refine ⟨xs, hxl, ⟨fun j u hj => ?_, fun x hx' => ?_⟩, hl⟩
 ·have hjl := (List.getElem?_eq_some_iff.1 hj).1
  rw [flat2_len] at hjl
  obtain ⟨i, hij⟩ : ∃ i, i = j / 2 := ⟨_, rfl⟩
  obtain ⟨_, p0, p1⟩ := hx i (by omega)
  obtain ⟨q0, q1⟩ := flat2 (f := fun x : Lf => Value.slice x.A x.vals.length x.cap) (g := fun x => Value.bool x.bytes) xs i (by omega)
  rcases (show j = i * 2 ∨ j = i * 2 + 1 by omega) with rfl | rfl
  ·rw [q0] at hj
   obtain rfl := Option.some.inj hj
   exact p0
  ·rw [q1] at hj
   obtain rfl := Option.some.inj hj
   exact p1
 ·obtain ⟨i, hil, rfl⟩ := List.getElem_of_mem hx'
  exact (hx i hil).1
theorem array11 {α : Type} {cs : Array α} (h : cs.size = 11) : ∃ a0 a1 a2 a3 a4 a5 a6 a7 a8 a9 a10, cs = #[a0, a1, a2, a3, a4, a5, a6, a7, a8, a9, a10] := by
 obtain ⟨l⟩ := cs
 match l, h with
 | [a0, a1, a2, a3, a4, a5, a6, a7, a8, a9, a10], _ => exact ⟨a0, a1, a2, a3, a4, a5, a6, a7, a8, a9, a10, rfl⟩
theorem field_int {fs : Array Field} {k : IntKind} {n : Nat} {cs : List Value} {xs : List (DataW H × List MemPlace)} (hlen : xs.length = fs.size)
  (hf : ∀ (i : Nat) (f : Field), fs[i]? = some f → DataW.trod enc P w 0 (fun _ => true) true n f.type ((cs.drop f.offset).take (P.cellsOf f.type)) = xs[i]?)
  (i o : Nat) (c : Value) (f : Field) (hi : fs[i]? = some f) (ho : f.offset = o) (hc : P.cellsOf f.type = 1) (hu : P.underlying f.type = some (.int k)) (hcs : (cs.drop o).take 1 = [c]) : ∃ x : Int, c = .int k x ∧ (Lit.int k x).wf = true := by
 have h1 := hf i f hi
 rw [ho, hc, hcs] at h1
 have hl : i < xs.length := by rw [hlen]; exact (Array.getElem?_eq_some_iff.1 hi).1
 rw [List.getElem?_eq_getElem hl] at h1
 obtain ⟨x, e, _, wf⟩ := DataW.trod_int hu h1
 exact ⟨x, by simpa using e, wf⟩
theorem open_sconf {r : Reach} {b0 : Nat} {t : TypeId} {g0 g1 g2 g3 g4 g5 g6 g7 g8 g9 h0 h1 : Field} {v : Value} {d : DataW H} {p : List MemPlace} (hs : P.underlying t = some (.struct #[g0, g1, g2, g3, g4, g5, g6, g7, g8, g9])) (hC : P.cellsOf t = 11)
  (ho : (g0.offset, g1.offset, g2.offset, g3.offset, g4.offset, g5.offset, g6.offset, g7.offset, g8.offset, g9.offset) = (0, 1, 3, 4, 5, 6, 7, 8, 9, 10))
  (hc : (P.cellsOf g0.type, P.cellsOf g1.type, P.cellsOf g2.type, P.cellsOf g3.type, P.cellsOf g4.type, P.cellsOf g5.type, P.cellsOf g6.type, P.cellsOf g7.type, P.cellsOf g8.type, P.cellsOf g9.type) = (1, 2, 1, 1, 1, 1, 1, 1, 1, 1))
  (u0 : P.underlying g0.type = some (.int .i64)) (u1 : P.underlying g1.type = some (.struct #[h0, h1])) (hgo : (h0.offset, h1.offset, P.cellsOf h0.type, P.cellsOf h1.type) = (0, 1, 1, 1)) (k0 : P.underlying h0.type = some (.int .u64)) (k1 : P.underlying h1.type = some (.int .u64))
  (u2 : P.underlying g2.type = some (.int .i64)) (u3 : P.underlying g3.type = some (.int .i64)) (u4 : P.underlying g4.type = some (.int .i64)) (u5 : P.underlying g5.type = some (.int .u64)) (u6 : P.underlying g6.type = some (.int .i64)) (u7 : P.underlying g7.type = some (.int .i64)) (u8 : P.underlying g8.type = some (.int .i64)) (u9 : P.underlying g9.type = some (.int .u64))
  (hv : Value.okWide P w r b0 t v) (h : DataW.Trod enc P w 0 (fun _ => true) true t v d p) :
  ∃ (kd pn pd sd mo dg li de fa wi wo : Int), v = .agg #[.int .i64 kd, .int .u64 pn, .int .u64 pd, .int .i64 sd, .int .i64 mo, .int .i64 dg, .int .u64 li, .int .i64 de, .int .i64 fa, .int .i64 wi, .int .u64 wo] ∧
   (Lit.int .i64 kd).wf = true ∧ (Lit.int .u64 pn).wf = true ∧ (Lit.int .u64 pd).wf = true ∧ (Lit.int .i64 sd).wf = true ∧ (Lit.int .i64 mo).wf = true ∧ (Lit.int .i64 dg).wf = true ∧ (Lit.int .u64 li).wf = true ∧ (Lit.int .i64 de).wf = true ∧ (Lit.int .i64 fa).wf = true ∧ (Lit.int .i64 wi).wf = true ∧ (Lit.int .u64 wo).wf = true := by
 obtain ⟨cs, rfl, hsz⟩ := okWide_struct hs hv
 obtain ⟨c0, c1, c2, c3, c4, c5, c6, c7, c8, c9, c10, rfl⟩ := array11 (hsz.trans hC)
 obtain ⟨fuel, hf⟩ := h
 obtain ⟨xs, n, _, _, _, hlen, hg⟩ := DataW.trod_struct hs hf
 simp only [Prod.mk.injEq] at ho hc hgo
 obtain ⟨o0, o1, o2, o3, o4, o5, o6, o7, o8, o9⟩ := ho
 obtain ⟨q0, q1, q2, q3, q4, q5, q6, q7, q8, q9⟩ := hc
 obtain ⟨r0, r1, s0, s1⟩ := hgo
 obtain ⟨z0, rfl, w0⟩ := field_int hlen hg 0 0 c0 g0 rfl o0 q0 u0 rfl
 obtain ⟨z2, rfl, w2⟩ := field_int hlen hg 2 3 c3 g2 rfl o2 q2 u2 rfl
 obtain ⟨z3, rfl, w3⟩ := field_int hlen hg 3 4 c4 g3 rfl o3 q3 u3 rfl
 obtain ⟨z4, rfl, w4⟩ := field_int hlen hg 4 5 c5 g4 rfl o4 q4 u4 rfl
 obtain ⟨z5, rfl, w5⟩ := field_int hlen hg 5 6 c6 g5 rfl o5 q5 u5 rfl
 obtain ⟨z6, rfl, w6⟩ := field_int hlen hg 6 7 c7 g6 rfl o6 q6 u6 rfl
 obtain ⟨z7, rfl, w7⟩ := field_int hlen hg 7 8 c8 g7 rfl o7 q7 u7 rfl
 obtain ⟨z8, rfl, w8⟩ := field_int hlen hg 8 9 c9 g8 rfl o8 q8 u8 rfl
 obtain ⟨z9, rfl, w9⟩ := field_int hlen hg 9 10 c10 g9 rfl o9 q9 u9 rfl
 have t1 := hg 1 g1 rfl
 rw [o1, q1] at t1
 have hl1 : 1 < xs.length := by rw [hlen]; exact (Array.getElem?_eq_some_iff.1 (show #[g0, g1, g2, g3, g4, g5, g6, g7, g8, g9][1]? = some g1 from rfl)).1
 rw [List.getElem?_eq_getElem hl1] at t1
 obtain ⟨y0, y1, n', _, _, v0, v1⟩ := trod_struct2 u1 t1
 rw [r0, s0] at v0
 rw [r1, s1] at v1
 replace v0 : DataW.trod enc P w 0 (fun _ => true) true n' h0.type [c1] = some y0 := v0
 replace v1 : DataW.trod enc P w 0 (fun _ => true) true n' h1.type [c2] = some y1 := v1
 obtain ⟨x0, e0, _, wx0⟩ := DataW.trod_int k0 v0
 obtain ⟨x1, e1, _, wx1⟩ := DataW.trod_int k1 v1
 obtain rfl : c1 = .int .u64 x0 := by simpa using e0
 obtain rfl : c2 = .int .u64 x1 := by simpa using e1
 exact ⟨z0, x0, x1, z2, z3, z4, z5, z6, z7, z8, z9, rfl, w0, wx0, wx1, w2, w3, w4, w5, w6, w7, w8, w9⟩
end
end Go.Proofs.YtlbnlmhcpephbaaGreatDoor

namespace Go.Proofs.YtlbnlmhcpephbaaGreatDoor
open Go.RowKit
structure LOk (l : List (Int × Int)) : Prop where
 ok : okP l
 pos : ∀ x ∈ l, 0 < x.2 ∧ x.2 ≤ 20
 len : l.length ≤ 360
theorem LOk.sum {l : List (Int × Int)} (h : LOk l) : 0 ≤ sumP l ∧ sumP l ≤ 7200 := by
  have key : ∀ l : List (Int × Int), (∀ x ∈ l, 0 < x.2 ∧ x.2 ≤ 20) → 0 ≤ sumP l ∧ sumP l ≤ 20 * (l.length : Int) := by
    intro l
    induction l with
    | nil => intro _; simp [sumP]
    | cons x l ih =>
      intro h
      have h1 := ih fun y hy => h y (by simp [hy])
      have h2 := h x (by simp)
      unfold sumP at *
      simp only [List.map_cons, List.sum_cons, List.length_cons]
      omega
  have h1 := key l h.pos
  have := h.len
  omega
theorem LOk.vok {l : List (Int × Int)} (h : LOk l) : VOk l := ⟨h.ok, fun x hx => (h.pos x hx).1, by have := h.sum; omega⟩
theorem LOk.nil : LOk [] := ⟨fun x hx => by simp at hx, fun x hx => by simp at hx, by simp⟩
theorem LOk.left {l k : List (Int × Int)} (h : LOk (l ++ k)) : LOk l := ⟨fun x hx => h.ok x (by simp [hx]), fun x hx => h.pos x (by simp [hx]), by have := h.len; rw [List.length_append] at this; omega⟩
theorem LOk.right {l k : List (Int × Int)} (h : LOk (l ++ k)) : LOk k := ⟨fun x hx => h.ok x (by simp [hx]), fun x hx => h.pos x (by simp [hx]), by have := h.len; rw [List.length_append] at this; omega⟩
theorem LOk.snoc {l : List (Int × Int)} {x n : Int} (h : LOk l) (hl : l.length < 360) (hx : -9223372036854775808 ≤ x ∧ x ≤ 9223372036854775807) (hn : 0 < n ∧ n ≤ 20) : LOk (l ++ [(x, n)]) :=
 ⟨fun y hy => by
  rcases List.mem_append.1 hy with h1 | h1
  ·exact h.ok y h1
  ·rw [List.mem_singleton] at h1; subst h1; exact ⟨hx, by show 0 ≤ n ∧ n < _; omega⟩, fun y hy => by
  rcases List.mem_append.1 hy with h1 | h1
  ·exact h.pos y h1
  ·rw [List.mem_singleton] at h1; subst h1; exact hn, by rw [List.length_append]; simp; omega⟩
abbrev SkT := World → Nat → List Nat → List (Int × Int) → Prop
def GrowR (Sk : SkT) (b : Nat) (S : List Nat) (l : List (Int × Int)) (w w' : World) : Prop := ∃ S', GrownS S S' w.heap.size ∧ Sk w' b S' l ∧ Frame S w w'
def NewSk (Sk : SkT) (l : List (Int × Int)) (w : World) (e : Ending) (w' : World) : Prop :=
 ((∃ b S, e = .returned (.tuple #[.pointer (some ⟨b, 0, none⟩), .int .i64 0]) ∧ Within S w.heap.size w'.heap.size ∧ Sk w' b S l) ∨ (∃ f : Int, f ≠ 0 ∧ e = .returned (.tuple #[.pointer none, .int .i64 f]))) ∧ Below w.heap.size w w'
def PutG (Sk : SkT) (b : Nat) (S : List Nat) (l : List (Int × Int)) (x n : Int) (w : World) (e : Ending) (w' : World) : Prop :=
 ∃ f : Int, e = .returned (.int .i64 f) ∧ ((f = 0 ∧ 0 < n ∧ GrowR Sk b S (l ++ [(x, n)]) w w') ∨ (f ≠ 0 ∧ GrowR Sk b S l w w'))
def JoinG (Sk : SkT) (b : Nat) (S : List Nat) (l l' : List (Int × Int)) (w : World) (e : Ending) (w' : World) : Prop :=
 ∃ f : Int, e = .returned (.int .i64 f) ∧ ((f = 0 ∧ GrowR Sk b S (l ++ l') w w') ∨ (f ≠ 0 ∧ Frame S w w'))
structure KindC (c : Cfg) (Sk : SkT) : Prop where
 frame : ∀ {w w' : World} {b : Nat} {S T : List Nat} {l : List (Int × Int)}, Sk w b S l → Frame T w w' → Apart S T → Sk w' b S l
 lt : ∀ {w : World} {b : Nat} {S : List Nat} {l : List (Int × Int)}, Sk w b S l → ∀ k ∈ S, k < w.heap.size
 mem : ∀ {w : World} {b : Nat} {S : List Nat} {l : List (Int × Int)}, Sk w b S l → b ∈ S
 new : ∀ w, TensAt w → Calls Tryz.prog 25 #[c.val] w (NewSk Sk [] w)
 put : ∀ b S l (x n : Int) w, Sk w b S l → LOk l → l.length < 360 → (-9223372036854775808 ≤ x ∧ x ≤ 9223372036854775807) → (0 ≤ n ∧ n ≤ 20) →
  Calls Tryz.prog 26 #[.pointer (some ⟨b, 0, none⟩), .int .i64 x, .int .u64 n] w (PutG Sk b S l x n w)
 code : ∀ b S l w, Sk w b S l → LOk l → Calls Tryz.prog 52 #[.pointer (some ⟨b, 0, none⟩)] w fun e w' => ∃ (st : ByteArray) (f : Int), e = .returned (.tuple #[.string st, .int .i64 f]) ∧ Below w.heap.size w w' ∧
  ∀ W, TensAt W → Calls Tryz.prog 38 #[.string st] W (NewSk Sk l W)
 join : ∀ b o S T l l' w, Sk w b S l → Sk w o T l' → Apart S T → LOk (l ++ l') →
  Calls Tryz.prog 28 #[.pointer (some ⟨b, 0, none⟩), .pointer (some ⟨o, 0, none⟩)] w (JoinG Sk b S l l' w)
section
variable {c : Cfg} {Sk : SkT} {w w' : World} {b : Nat} {S : List Nat} {l : List (Int × Int)}
theorem KindC.below (K : KindC c Sk) (h : Sk w b S l) (hb : Below w.heap.size w w') : Sk w' b S l := K.frame (T := []) h (Frame.of_below hb) (fun _ _ => by simp)
end
structure PlayC (c : Cfg) (ls : List Lf) : Prop where
 len : ls.length ≤ 12
 few : ∀ x ∈ ls, x.vals.length ≤ 30 ∧ ∀ v ∈ x.vals, v.2 ≤ 20
 den : c.kd = 1 → c.pd ≤ 100
end Go.Proofs.YtlbnlmhcpephbaaGreatDoor

namespace Go.Proofs.YtlbnlmhcpephbaaGreatDoor
def natB (u : Nat) : List UInt8 := if u < 128 then [UInt8.ofNat u] else UInt8.ofNat (u % 128 + 128) :: natB (u / 128)
termination_by u
decreasing_by omega
theorem natB_lo {u : Nat} (h : u < 128) : natB u = [UInt8.ofNat u] := by rw [natB, if_pos h]
theorem natB_hi {u : Nat} (h : ¬ u < 128) : natB u = UInt8.ofNat (u % 128 + 128) :: natB (u / 128) := by rw [natB, if_neg h]
theorem natB_len {u : Nat} (h : u < 18446744073709551616) : (natB u).length ≤ 10 := by
  have key : ∀ k u : Nat, u < 128 ^ (k + 1) → (natB u).length ≤ k + 1 := by
    intro k
    induction k with
    | zero => intro u hu; rw [natB_lo (by omega)]; simp
    | succ k ih =>
      intro u hu
      by_cases h : u < 128
      · rw [natB_lo h]; simp
      · rw [natB_hi h, List.length_cons]
        have := ih (u / 128) (by
          rw [Nat.pow_succ] at hu
          exact Nat.div_lt_of_lt_mul (by rw [Nat.mul_comm]; exact hu))
        omega
  exact key 9 u (Nat.lt_of_lt_of_le h (by decide))
theorem natB_cons (u : Nat) : ∃ b : Nat, b < 256 ∧ b % 128 = u % 128 ∧ ((b < 128 ∧ u < 128 ∧ b = u ∧ natB u = [UInt8.ofNat b]) ∨ (128 ≤ b ∧ 128 ≤ u ∧ natB u = UInt8.ofNat b :: natB (u / 128))) := by
 by_cases h : u < 128
 ·exact ⟨u, by omega, rfl, .inl ⟨h, h, rfl, natB_lo h⟩⟩
 ·exact ⟨u % 128 + 128, by omega, by omega, .inr ⟨by omega, by omega, natB_hi h⟩⟩
theorem byte_toNat {b : Nat} (h : b < 256) : (UInt8.ofNat b).toNat = b := by
 rw [UInt8.toNat_ofNat']
 exact Nat.mod_eq_of_lt h
def zigN (x : Int) : Nat := if x < 0 then (-2 * x - 1).toNat else (2 * x).toNat
def zagI (u : Nat) : Int := if u % 2 = 1 then -((u / 2 : Nat) : Int) - 1 else ((u / 2 : Nat) : Int)
theorem zag_zig (x : Int) : zagI (zigN x) = x := by
 unfold zagI zigN
 split <;> split <;> omega
theorem zig_lt {x : Int} (h1 : -9223372036854775808 ≤ x) (h2 : x ≤ 9223372036854775807) : zigN x < 18446744073709551616 := by
 unfold zigN
 split <;> omega
def natsB (l : List Nat) : List UInt8 := l.flatMap natB
def intsB (l : List Int) : List UInt8 := l.flatMap fun x => natB (zigN x)
theorem natsB_cons (u : Nat) (l : List Nat) : natsB (u :: l) = natB u ++ natsB l := rfl
theorem natsB_app (l k : List Nat) : natsB (l ++ k) = natsB l ++ natsB k := List.flatMap_append
theorem intsB_app (l k : List Int) : intsB (l ++ k) = intsB l ++ intsB k := List.flatMap_append
theorem natsB_len : ∀ {l : List Nat}, (∀ u ∈ l, u < 18446744073709551616) → (natsB l).length ≤ 10 * l.length
  | [], _ => by simp [natsB]
  | u :: l, h => by
    have h1 := natB_len (h u (by simp))
    have h2 := natsB_len (l := l) fun y hy => h y (by simp [hy])
    rw [natsB_cons, List.length_append, List.length_cons]; omega
def pairsB : Option Int → List (Int × Int) → List UInt8
 | _, [] => []
 | none, x :: l => natB (zigN x.1) ++ natB x.2.toNat ++ pairsB (some x.1) l
 | some p, x :: l => natB (x.1 - p - 1).toNat ++ natB x.2.toNat ++ pairsB (some x.1) l
def rowB (l : List (Int × Int)) : List UInt8 := natB l.length ++ pairsB none l
def txt (l : List UInt8) : ByteArray := ⟨l.toArray⟩
theorem txt_size (l : List UInt8) : (txt l).size = l.length := by simp [txt, ByteArray.size]
theorem txt_extract (l : List UInt8) (a b : Nat) : (txt l).extract a b = txt ((l.take b).drop a) := by
 apply ByteArray.ext
 simp [txt, ByteArray.data_extract, List.drop_take]
end Go.Proofs.YtlbnlmhcpephbaaGreatDoor

namespace Go.Proofs.YtlbnlmhcpephbaaGreatDoor
theorem bits_u32 (op : BinOp) (x y : Int) : 0 ≤ bits op .u32 x y ∧ bits op .u32 x y < 4294967296 := by
 unfold bits
 rw [IntKind.wrap_u32]
 omega
theorem u32_and1 (x : Int) (h₀ : 0 ≤ x) (h₁ : x < 4294967296) : bits .and .u32 x 1 = x % 2 := by
 have h := bits_mask .u32 32 (by decide) wraps_u32 1 (by decide) x h₀ (by omega)
 simpa using h
def crcBit (c : Int) : Int := if c % 2 = 1 then bits .xor .u32 (c / 2) 3988292384 else c / 2
theorem crcBit_bd {c : Int} (h : 0 ≤ c ∧ c < 4294967296) : 0 ≤ crcBit c ∧ crcBit c < 4294967296 := by
 unfold crcBit
 split
 ·exact bits_u32 _ _ _
 ·omega
def crcN : Nat → Int → Int
 | 0, c => c
 | n + 1, c => crcBit (crcN n c)
theorem crcN_bd {c : Int} (h : 0 ≤ c ∧ c < 4294967296) : ∀ n, 0 ≤ crcN n c ∧ crcN n c < 4294967296
 | 0 => h
 | n + 1 => crcBit_bd (crcN_bd h n)
def crcByte (c : Int) (b : Int) : Int := crcN 8 (bits .xor .u32 c b)
theorem crcByte_bd (c b : Int) : 0 ≤ crcByte c b ∧ crcByte c b < 4294967296 := crcN_bd (bits_u32 _ _ _) 8
def crcAll (l : List UInt8) : Int := l.foldl (fun c b => crcByte c (b.toNat : Int)) 4294967295
theorem crcAll_bd (l : List UInt8) : 0 ≤ crcAll l ∧ crcAll l < 4294967296 := by
 have key : ∀ (l : List UInt8) (c : Int), 0 ≤ c ∧ c < 4294967296 → 0 ≤ l.foldl (fun c b => crcByte c (b.toNat : Int)) c ∧ l.foldl (fun c b => crcByte c (b.toNat : Int)) c < 4294967296 := by
  intro l
  induction l with
  | nil => intro c h; exact h
  | cons b l ih => intro c _; exact ih _ (crcByte_bd _ _)
 exact key l _ (by omega)
theorem crcAll_take (l : List UInt8) (k : Nat) (hk : k < l.length) : crcAll (l.take (k + 1)) = crcByte (crcAll (l.take k)) ((l[k]'hk).toNat : Int) := by
 unfold crcAll
 rw [List.take_succ_eq_append_getElem hk, List.foldl_append]
 rfl
def sumY (l : List UInt8) : Int := bits .xor .u32 4294967295 (crcAll l)
theorem sumY_bd (l : List UInt8) : 0 ≤ sumY l ∧ sumY l < 4294967296 := bits_u32 _ _ _
def fourY (c : Int) : List UInt8 := [UInt8.ofNat (c % 256).toNat, UInt8.ofNat (c / 256 % 256).toNat, UInt8.ofNat (c / 65536 % 256).toNat, UInt8.ofNat (c / 16777216 % 256).toNat]
theorem fourY_len (c : Int) : (fourY c).length = 4 := rfl
theorem byteI {x : Int} (h0 : 0 ≤ x) (h1 : x < 256) : ((UInt8.ofNat x.toNat).toNat : Int) = x := by
 rw [byte_toNat (by omega)]; omega
def frameY (kind : Nat) (load : List UInt8) : List UInt8 :=
 let t := [79, 71, 1] ++ [UInt8.ofNat kind] ++ natB load.length ++ load
 t ++ fourY (sumY t)
end Go.Proofs.YtlbnlmhcpephbaaGreatDoor

namespace Go.Proofs.YtlbnlmhcpephbaaGreatDoor
open Go.RowKit
set_option maxRecDepth 100000 in
theorem fstep_any (c b : Int) (w : World) (hc : 0 ≤ c ∧ c < 4294967296) (hb : 0 ≤ b ∧ b < 256) :
  Calls Tryz.prog 80 #[.int .u32 c, .int .u8 b] w fun e w' => e = .returned (.int .u32 (crcByte c b)) ∧ Below w.heap.size w w' := by
 obtain ⟨c0, hc0⟩ : ∃ c0, bits .xor .u32 c b = c0 := ⟨_, rfl⟩
 have HC0 : Hid (0 ≤ c0 ∧ c0 < 4294967296) := by show _ ∧ _; rw [← hc0]; exact bits_u32 _ _ _
 have HR : Hid (crcByte c b = crcN 8 c0) := by show _ = _; unfold crcByte; rw [hc0]
 have HS0 : Hid (crcN 0 c0 = c0) := rfl
 go_enter Tryz.func80, Tryz.ntmps80
 go_wp2
 go_loopw [0, 9] (fun c i wr => ∃ k : Nat, k ≤ 8 ∧ i = .int .i64 k ∧ c = .int .u32 (crcN k c0) ∧ Hid (Below w.heap.size w wr)) (fun _ i _ => 8 - (intOf i).toNat)
 case atStart => exact ⟨0, by omega, rfl, by rw [HS0.out, ← hc0], Below.refl _ _⟩
 case round =>
  obtain ⟨k, hk, rfl, rfl, HB⟩ := hrel
  clear HS0 hc0
  by_cases hlt : k < 8
  ·obtain ⟨x, hx⟩ : ∃ x, crcN k c0 = x := ⟨_, rfl⟩
   have hbd : 0 ≤ x ∧ x < 4294967296 := by rw [← hx]; exact crcN_bd HC0.out k
   have HN : Hid (crcN (k + 1) c0 = crcBit x) := by show crcBit _ = _; rw [hx]
   have ha := u32_and1 x hbd.1 hbd.2
   rw [hx]
   clear hx
   by_cases h1 : x % 2 = 1
   ·have HX : Hid (crcBit x = bits .xor .u32 (x / 2) 3988292384) := by show _ = _; unfold crcBit; rw [if_pos h1]
    go_wp2
    go_roundw
    case rel => exact ⟨k + 1, by omega, by simp, by rw [HN.out, HX.out], HB⟩
    case measure => simp [intOf]; omega
   ·have HX : Hid (crcBit x = x / 2) := by show _ = _; unfold crcBit; rw [if_neg h1]
    have h2 : (x % 2 == 1) = false := beq_eq_false_iff_ne.2 h1
    go_wp2
    go_roundw
    case rel => exact ⟨k + 1, by omega, by simp, by rw [HN.out, HX.out], HB⟩
    case measure => simp [intOf]; omega
  ·obtain rfl : k = 8 := by omega
   go_wp2
   go_ret
   exact ⟨by rw [HR.out]; rfl, HB.out⟩
set_option maxRecDepth 100000 in
theorem fsum_any (l : List UInt8) (w : World) (hl : l.length ≤ 1000000000) :
  Calls Tryz.prog 66 #[.string (txt l)] w fun e w' => e = .returned (.int .u32 (sumY l)) ∧ Below w.heap.size w w' := by
 have hsz := txt_size l
 have HGET : Hid (∀ k (hk : k < l.length) (h : k < (txt l).size), (txt l)[k]'h = l[k]'hk) := fun k hk h => rfl
 obtain ⟨s, hs⟩ : ∃ s, txt l = s := ⟨_, rfl⟩
 obtain ⟨n, hn⟩ : ∃ n, l.length = n := ⟨_, rfl⟩
 have HN := Lib.hid hn
 rw [hs] at hsz HGET ⊢
 rw [hn] at hsz hl
 clear hs hn
 go_enter Tryz.func66, Tryz.ntmps66
 go_wp2
 go_loopw [3, 4, 7] (fun c _ i wr => ∃ k : Nat, k ≤ n ∧ i = .int .i64 k ∧ c = .int .u32 (crcAll (l.take k)) ∧ Hid (Below w.heap.size w wr)) (fun _ _ i _ => n - (intOf i).toNat)
 case atStart => exact ⟨0, by omega, rfl, rfl, Below.refl _ _⟩
 case round =>
  obtain ⟨k, hk, rfl, rfl, HB⟩ := hrel
  by_cases hlt : k < n
  ·have HCR := Lib.hid (crcAll_take l k (by have := HN.out; omega))
   have HBD := Lib.hid (crcAll_bd (l.take k))
   have hget := HGET.out k (by have := HN.out; omega)
   obtain ⟨y, hy⟩ : ∃ y, l[k]'(by have := HN.out; omega) = y := ⟨_, rfl⟩
   rw [hy] at HCR hget
   obtain ⟨x, hx⟩ : ∃ x, crcAll (l.take k) = x := ⟨_, rfl⟩
   rw [hx] at HBD HCR ⊢
   clear hy hx
   go_wp2_with fail
   refine (fstep_any x (y.toNat : Int) wr HBD.out (by have := y.toNat_lt; omega)).mono ?_
   rintro e w1 ⟨rfl, hb⟩
   rw [← HCR.out]
   have HB1 := Lib.hid (keep1 HB.out hb)
   clear hb HB
   go_wp2
   go_roundw
   case rel => exact ⟨k + 1, by omega, by simp, rfl, HB1⟩
   case measure => simp [intOf]; omega
  ·obtain rfl : k = n := by omega
   have HT : Hid (l.take k = l) := List.take_of_length_le (by have := HN.out; omega)
   rw [HT.out]
   go_wp2
   go_ret
   exact ⟨rfl, HB.out⟩
theorem conv_new (W : World) (l : List UInt8) (vs : Array Value) (n : Nat) (hn : l.length = n) (hv : vs = (l.map fun b => Value.int .u8 (b.toNat : Int)).toArray) :
  (convert 191 9 (.slice (some ⟨W.heap.size, 0, none⟩) n n)).run Tryz.prog (W.alloc (.cells vs 5)) = .ok (.string (txt l)) (W.alloc (.cells vs 5)) := by
 subst hn hv
 refine run_convert_bytes_back _ _ _ 5 ⟨W.heap.size, 0, none⟩ l.length l (by kernel_rfl) (by kernel_rfl) (by kernel_rfl) fun j hj => ?_
 rw [Addr.add_lit]
 have := (At.new W (l.map fun b => Value.int .u8 (b.toNat : Int)).toArray 5).cell (i := j) (v := .int .u8 (l[j].toNat : Int)) (by simp [hj])
 simpa using this
set_option maxRecDepth 100000 in
theorem ffour_any (c : Int) (w : World) (hc : 0 ≤ c ∧ c < 4294967296) :
  Calls Tryz.prog 65 #[.int .u32 c] w fun e w' => e = .returned (.string (txt (fourY c))) ∧ Below w.heap.size w w' := by
 have hcv := conv_new w (fourY c) #[.int .u8 (c % 256), .int .u8 (c / 256 % 256), .int .u8 (c / 65536 % 256), .int .u8 (c / 16777216)] 4 rfl (by
  simp only [fourY, List.map_cons, List.map_nil]
  rw [byteI (by omega) (by omega), byteI (by omega) (by omega), byteI (by omega) (by omega), byteI (by omega) (by omega), show c / 16777216 % 256 = c / 16777216 by omega])
 go_enter Tryz.func65, Tryz.ntmps65
 go_wp2
 go_ret
 exact ⟨rfl, (by repeat (first | with_reducible assumption | with_reducible exact Below.refl _ _ | with_reducible refine Below.drew ?_ | with_reducible refine Below.drewN ?_ _ | with_reducible refine Below.setCell ?_ (by first | omega | (simp; done) | (simp; omega)) _ | with_reducible refine Below.alloc ?_ (by first | omega | (simp; done) | (simp; omega) | (simp [World.setCell]; omega)) _))⟩
end Go.Proofs.YtlbnlmhcpephbaaGreatDoor

namespace Go.Proofs.YtlbnlmhcpephbaaGreatDoor
open Go.RowKit
def cellsY (l : List UInt8) : List Value := l.map fun b => .int .u8 (b.toNat : Int)
theorem cellsY_app (l k : List UInt8) : cellsY (l ++ k) = cellsY l ++ cellsY k := List.map_append
def OwnY (base : Nat) (w : World) (A : Option Addr) (cap : Nat) (l : List UInt8) : Prop := w.ownsRow base 5 1 (.slice A l.length cap) l.length (cellsY l)
theorem OwnY.nil (base : Nat) (w : World) : OwnY base w none 0 [] := World.ownsRow_nil w base _ 1
theorem OwnY.base_le {base cap : Nat} {w : World} {A : Option Addr} {l : List UInt8} (h : OwnY base w A cap l) : ∀ g, A = some g → base ≤ g.block ∧ g.block < w.heap.size := by
 rintro g rfl
 exact World.ownsRow.lt h g.block rfl
theorem OwnY.blk_le {base c : Nat} {w : World} {A : Option Addr} {l : List UInt8} (h : OwnY base w A c l) : ∀ k ∈ blk A, base ≤ k ∧ k < w.heap.size := by
 intro k hk
 cases A with
 | none => simp [blk] at hk
 | some a => simp only [blk, List.mem_singleton] at hk; subst hk; exact h.base_le a rfl
theorem OwnY.frame {base c : Nat} {w w' : World} {T : List Nat} {A : Option Addr} {l : List UInt8} (h : OwnY base w A c l) (hf : Frame T w w') (hn : ∀ k ∈ blk A, k ∉ T) : OwnY base w' A c l := by
 obtain ⟨h1, h2⟩ := h
 refine ⟨h1, ?_⟩
 rcases h2 with h2 | ⟨g, cp, cur, e, hg, hc, r⟩
 ·exact .inl h2
 ·refine .inr ⟨g, cp, cur, e, hg, (hf.block g (Array.getElem?_eq_some_iff.1 hc).1 (hn g ?_)).trans hc, r⟩
  simp only [Value.slice.injEq] at e
  rw [e.1]
  simp [blk]
theorem OwnY.below {base c : Nat} {w w' : World} {A : Option Addr} {l : List UInt8} (h : OwnY base w A c l) (hb : Below w.heap.size w w') : OwnY base w' A c l := h.frame (T := []) (Frame.of_below hb) (fun _ _ => by simp)
theorem OwnY.cell {base cap : Nat} {w : World} {A : Option Addr} {l : List UInt8} (h : OwnY base w A cap l) (hl : l ≠ []) : ∃ g, A = some ⟨g, 0, none⟩ ∧ ∀ j (hj : j < l.length), w.cell? ((⟨g, 0, none⟩ : Addr).add j) = some (.int .u8 (l[j].toNat : Int)) := by
 rcases h.2 with ⟨e, hn⟩ | ⟨g, c, cur, e, hg, hc, r⟩
 ·exact absurd (List.eq_nil_of_length_eq_zero hn) hl
 ·injection e with e1 e2 e3
  subst e1
  refine ⟨g, rfl, fun j hj => ?_⟩
  exact World.ownsRow.cells h (g := g) rfl j _ (by simp [cellsY, List.getElem?_map, List.getElem?_eq_getElem hj])
theorem Tryz.underlyingY : Tryz.prog.underlying 191 = some (.slice 5) := by kernel_rfl
theorem Tryz.infoY : (Tryz.prog.info? 5).map (fun i => (i.zero, i.size, i.bytes)) = some (some (.int .u8 0), 1, 1) := by kernel_rfl
theorem Tryz.infoYE : ∃ i, Tryz.prog.info? 5 = some i ∧ i.zero = some (.int .u8 0) ∧ i.size = 1 ∧ i.bytes = 1 := by
  have := Tryz.infoY
  cases hh : Tryz.prog.info? 5 with
  | none => rw [hh] at this; cases this
  | some i =>
    rw [hh] at this
    simp only [Option.map_some, Option.some.injEq, Prod.mk.injEq] at this
    exact ⟨i, rfl, this.1, this.2.1, this.2.2⟩
theorem Frame.of_grownY {w w' : World} {A : Option Addr} {n c : Nat} (hg : w.grownBy w' (Value.slice A n c).ownBlock) : Frame (blk A) w w' :=
 ⟨hg.os, hg.tape, hg.output, hg.size, fun k hk hn => hg.block k hk fun e => hn (by
  cases A with
  | none => simp [Value.ownBlock] at e
  | some a => simp [Value.ownBlock] at e; simp [blk, e])⟩
theorem wpList_append_y {ops : Array Oper} {rest : List Oper} {o : Oper} {a : Act} {Q : Exit → Act → World → Prop} {w : World} (hgd : o.guard = none) (s x : Operand)
  (ho : o.op = .call { callee := .builtin .append, args := #[s, x], argTypes := #[191, 191] })
  (base : Nat) (A : Option Addr) (cap n : Nat) (l : List UInt8) (hs : a.eval s = .slice A n cap) (hn : l.length = n) (hown : OwnY base w A cap l)
  (ad : Addr) (c : Nat) (b : UInt8) (p : Int) (hp : p = (b.toNat : Int)) (hx : a.eval x = .slice (some ad) 1 c) (h0 : w.cell? (ad.add 0) = some (.int .u8 p))
  (hlen : n ≤ 1099511627776) (hbase : base ≤ w.heap.size)
  (h : ∀ A' cap' w', Hid (OwnY base w' A' cap' (l ++ [b])) → Hid (Frame (blk A) w w') → Hid (∀ k ∈ blk A', k ∈ blk A ∨ w.heap.size ≤ k) → wpList Tryz.prog ops Q rest (a.put o.dst (.slice A' (n + 1) cap')) w') :
  wpList Tryz.prog ops Q (o :: rest) a w := by
 subst hn hp
 obtain ⟨i, hi, hz, hsz, hby⟩ := Tryz.infoYE
 refine wpList_append_own_at w hgd s x _ ho base _ i _ 1 1 Tryz.underlyingY hi hz hsz hby rfl (by decide) _ l.length (cellsY l) hs hown ad 1 c [.int .u8 (b.toNat : Int)] hx rfl ?_ ?_ (by simp only [maxLen]; omega) (by omega) hbase ?_
 ·intro j u hj
  match j, hj with
  | 0, hj => simp only [List.getElem?_cons_zero, Option.some.injEq] at hj; subst hj; exact h0
 ·intro u hu
  simp only [List.mem_singleton] at hu
  subst hu; rfl
 ·intro v' w' hown' hg _ hblk
  have hl : (l ++ [b]).length = l.length + 1 := by simp
  have hm : cellsY (l ++ [b]) = cellsY l ++ [.int .u8 (b.toNat : Int)] := cellsY_app l [b]
  rw [← hm] at hown'
  rcases hown'.2 with ⟨e, hn⟩ | ⟨g, cp, cur, rfl, r⟩
  ·omega
  ·refine h _ _ _ (by show OwnY _ _ _ _ _; unfold OwnY; rw [hl]; exact hown') (Frame.of_grownY hg) fun k hk => ?_
   simp only [blk, List.mem_singleton] at hk
   subst hk
   simp only [Value.ownBlock] at hblk
   rcases hblk with hblk | hblk
   ·left
    cases A with
    | none => simp at hblk
    | some a => simp only [Option.some.injEq] at hblk; simp [blk, hblk]
   ·right
    simp only [Option.some.injEq] at hblk
    omega
theorem strCells_txt (l : List UInt8) : Lib.strCells (txt l) = cellsY l := by simp [Lib.strCells, txt, cellsY]
theorem wpList_append_ys {ops : Array Oper} {rest : List Oper} {o : Oper} {a : Act} {Q : Exit → Act → World → Prop} {w : World} (hgd : o.guard = none) (s x : Operand)
  (ho : o.op = .call { callee := .builtin .append, args := #[s, x], argTypes := #[191, 9] })
  (base : Nat) (A : Option Addr) (cap n : Nat) (l : List UInt8) (hs : a.eval s = .slice A n cap) (hn : l.length = n) (hown : OwnY base w A cap l)
  (k : List UInt8) (st : ByteArray) (hst : st = txt k) (m : Nat) (hm : k.length = m) (hx : a.eval x = .string st)
  (hlen : n + m ≤ 1099511627776) (hbase : base ≤ w.heap.size)
  (h : ∀ A' cap' w', Hid (OwnY base w' A' cap' (l ++ k)) → Hid (Frame (blk A) w w') → wpList Tryz.prog ops Q rest (a.put o.dst (.slice A' (n + m) cap')) w') :
  wpList Tryz.prog ops Q (o :: rest) a w := by
 subst hn hst hm
 obtain ⟨i, hi, hz, hsz, hby⟩ := Tryz.infoYE
 refine Lib.wpList_append_own_string w hgd s x _ _ ho base _ i Tryz.underlyingY Tryz.underlying9 hi hz hsz hby _ l.length (cellsY l) hs hown (txt k) hx (by rw [txt_size]; simp only [maxLen]; omega) (by rw [txt_size]; omega) hbase ?_
 intro v' w' hown' hg hnil
 rw [strCells_txt, ← cellsY_app, txt_size] at hown'
 have hl : (l ++ k).length = l.length + k.length := by simp
 rcases hown'.2 with ⟨e, hn⟩ | ⟨g, cp, cur, rfl, r⟩
 ·have := h none 0 w' (by show OwnY _ _ _ _ _; unfold OwnY; rw [hl, hn]; rw [e, hn] at hown'; exact hown') (Frame.of_grownY hg)
  rw [hn] at this
  rw [e]
  exact this
 ·exact h _ _ _ (by show OwnY _ _ _ _ _; unfold OwnY; rw [hl]; exact hown') (Frame.of_grownY hg)
theorem run_text {base cap : Nat} {w : World} {A : Option Addr} {l : List UInt8} (h : OwnY base w A cap l) (hl : l ≠ []) (src : TypeId) (hs : src = 191) : (convert src 9 (.slice A l.length cap)).run Tryz.prog w = .ok (.string (txt l)) w := by
 subst hs
 obtain ⟨g, rfl, hc⟩ := h.cell hl
 exact run_convert_bytes_back w _ _ _ ⟨g, 0, none⟩ cap l Tryz.underlyingY (by kernel_rfl) Tryz.underlying9 hc
end Go.Proofs.YtlbnlmhcpephbaaGreatDoor
