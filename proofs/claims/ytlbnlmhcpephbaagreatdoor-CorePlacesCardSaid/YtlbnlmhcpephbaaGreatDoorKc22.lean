/- Texts of this claim, joined, indents halved: ValRow, ValFr, Top1, Top2, PtrRow, Top3. -/
import Derived.Test.YtlbnlmhcpephbaaGreatDoorProg
import Derived.Maps.AppendAt
import Derived.OwnWalk
import Derived.Laws.AppendOwnNone
import Derived.Test.YtlbnlmhcpephbaaGreatDoorKc21
namespace Go.Proofs.YtlbnlmhcpephbaaGreatDoor
open Go.RowKit
def flatV (ps : List (Int × Int)) : List Value := ps.flatMap fun x => [.int .i64 x.1, .int .u64 x.2]
theorem flatV_append (ps qs : List (Int × Int)) : flatV (ps ++ qs) = flatV ps ++ flatV qs := by simp [flatV]
theorem flatV_len (ps : List (Int × Int)) : (flatV ps).length = ps.length * 2 := by
 induction ps with
 | nil => rfl
 | cons x ps ih => unfold flatV at *; simp only [List.flatMap_cons, List.length_append, List.length_cons, List.length_nil, ih]; omega
theorem flatV_one {ps : List (Int × Int)} : ∀ u ∈ flatV ps, u.oneCell' = true := by
 intro u hu
 unfold flatV at hu
 simp only [List.mem_flatMap, List.mem_cons, List.not_mem_nil, or_false] at hu
 obtain ⟨y, _, rfl | rfl⟩ := hu <;> rfl
def OwnV (base : Nat) (w : World) (A : Option Addr) (cap : Nat) (ps : List (Int × Int)) : Prop := w.ownsRow base 54 2 (.slice A ps.length cap) ps.length (flatV ps)
theorem OwnV.nil (base : Nat) (w : World) : OwnV base w none 0 [] := World.ownsRow_nil w base _ 2
theorem OwnV.rd {base cap : Nat} {w : World} {A : Option Addr} {ps : List (Int × Int)} (h : OwnV base w A cap ps) : RdP w A ps := by
 intro j u hj
 rcases h.2 with ⟨e, hn⟩ | ⟨g, c, cur, e, hg, hc, r⟩
 ·have : ps = [] := List.eq_nil_of_length_eq_zero hn
  subst this
  simp at hj
 ·injection e with e1 e2 e3
  subst e1
  have hl := (Array.getElem?_eq_some_iff.1 hc).1
  refine ⟨g, 0, rfl, hl, ?_⟩
  have := World.ownsRow.cells h (g := g) rfl j u hj
  rwa [Addr.add_lit] at this
theorem OwnV.base_le {base cap : Nat} {w : World} {A : Option Addr} {ps : List (Int × Int)} (h : OwnV base w A cap ps) : ∀ g, A = some g → base ≤ g.block ∧ g.block < w.heap.size := by
 rintro g rfl
 exact World.ownsRow.lt h g.block rfl
theorem Tryz.underlyingRowV : Tryz.prog.underlying 35 = some (.slice 54) := by kernel_rfl
theorem Tryz.infoPairV : (Tryz.prog.info? 54).map (fun i => (i.zero, i.size, i.bytes)) = some (some (.agg #[.int .i64 0, .int .u64 0]), 2, 16) := by kernel_rfl
theorem Tryz.infoVal : ∃ i, Tryz.prog.info? 54 = some i ∧ i.zero = some (.agg #[.int .i64 0, .int .u64 0]) ∧ i.size = 2 ∧ i.bytes = 16 := by
  have := Tryz.infoPairV
  cases hh : Tryz.prog.info? 54 with
  | none => rw [hh] at this; cases this
  | some i =>
    rw [hh] at this
    simp only [Option.map_some, Option.some.injEq, Prod.mk.injEq] at this
    exact ⟨i, rfl, this.1, this.2.1, this.2.2⟩
theorem vrun_append_none_any {P : Program} {w : World} {base : Nat} {e : TypeId} {size : Nat} (t ty : TypeId) (i : TypeInfo) (c : Nat) (ht : P.underlying t = some (.slice e)) (hi : P.info? e = some i)
  (v : Value) (n : Nat) (xs : List Value) (hown : w.ownsRow base e size v n xs) : (Builtin.append_ #[t, t] ty #[v, .slice none 0 c]).run P w = .ok v w := by
 rcases hown.2 with ⟨rfl, rfl⟩ | ⟨g, cap, cur, rfl, _, _, hnc, _⟩
 ·simp [Builtin.append_, run_underlying ht, sizeOf, typeInfo, hi, Builtin.lenOf, Builtin.firstCells]
 ·simp [Builtin.append_, run_underlying ht, sizeOf, typeInfo, hi, Builtin.lenOf, Builtin.firstCells, hnc, storeCells]
theorem vwpList_append_none_any {P : Program} {w : World} {ops : Array Oper} {rest : List Oper} {o : Oper} {a : Act} {Q : Exit → Act → World → Prop} (hgd : o.guard = none) (s x : Operand) (t : TypeId)
  (ho : o.op = .call { callee := .builtin .append, args := #[s, x], argTypes := #[t, t] })
  (base : Nat) (e : TypeId) (i : TypeInfo) (size : Nat) (ht : P.underlying t = some (.slice e)) (hi : P.info? e = some i) (c : Nat)
  (v : Value) (n : Nat) (xs : List Value) (hs : a.eval s = v) (hown : w.ownsRow base e size v n xs) (hx : a.eval x = .slice none 0 c)
  (h : wpList P ops Q rest (a.put o.dst v) w) : wpList P ops Q (o :: rest) a w := by
 refine wpList_plain hgd fun K hK => ?_
 have hrun := vrun_append_none_any (P := P) (w := w) t o.type i c ht hi v n xs hown
 unfold Oper.wp
 simp [execOp, ho, resolve, invoke, builtin, hs, hx, hrun, Result.andThen]
 exact hK _ _ h
end Go.Proofs.YtlbnlmhcpephbaaGreatDoor

namespace Go.Proofs.YtlbnlmhcpephbaaGreatDoor
open Go.RowKit
theorem OwnV.frame {base c : Nat} {w w' : World} {T : List Nat} {A : Option Addr} {ps : List (Int × Int)} (h : OwnV base w A c ps) (hf : Frame T w w') (hn : ∀ k ∈ blk A, k ∉ T) : OwnV base w' A c ps := by
 obtain ⟨h1, h2⟩ := h
 refine ⟨h1, ?_⟩
 rcases h2 with h2 | ⟨g, cp, cur, e, hg, hc, r⟩
 ·exact .inl h2
 ·refine .inr ⟨g, cp, cur, e, hg, (hf.block g (Array.getElem?_eq_some_iff.1 hc).1 (hn g ?_)).trans hc, r⟩
  simp only [Value.slice.injEq] at e
  rw [e.1]
  simp [blk]
theorem OwnV.below {base c : Nat} {w w' : World} {A : Option Addr} {ps : List (Int × Int)} (h : OwnV base w A c ps) (hb : Below w.heap.size w w') : OwnV base w' A c ps := h.frame (T := []) (Frame.of_below hb) (fun _ _ => by simp)
theorem OwnV.blk_le {base c : Nat} {w : World} {A : Option Addr} {ps : List (Int × Int)} (h : OwnV base w A c ps) : ∀ k ∈ blk A, base ≤ k ∧ k < w.heap.size := by
 intro k hk
 cases A with
 | none => simp [blk] at hk
 | some a => simp only [blk, List.mem_singleton] at hk; subst hk; exact h.base_le a rfl
theorem Frame.of_grown {w w' : World} {A : Option Addr} {n c : Nat} (hg : w.grownBy w' (Value.slice A n c).ownBlock) : Frame (blk A) w w' :=
 ⟨hg.os, hg.tape, hg.output, hg.size, fun k hk hn => hg.block k hk fun e => hn (by
  cases A with
  | none => simp [Value.ownBlock] at e
  | some a => simp [Value.ownBlock] at e; simp [blk, e])⟩
theorem wpList_append_valsF {ops : Array Oper} {rest : List Oper} {o : Oper} {a : Act} {Q : Exit → Act → World → Prop} {w : World} (hgd : o.guard = none) (s x : Operand)
    (ho : o.op = .call { callee := .builtin .append, args := #[s, x], argTypes := #[35, 35] })
    (base : Nat) (A : Option Addr) (cap n : Nat) (ps : List (Int × Int)) (hs : a.eval s = .slice A n cap) (hn : ps.length = n) (hown : OwnV base w A cap ps)
    (B : Option Addr) (m c : Nat) (qs : List (Int × Int)) (hx : a.eval x = .slice B m c) (hm : qs.length = m) (hR : RdP w B qs)
    (hlen : n + m ≤ 1099511627776) (hbase : base ≤ w.heap.size)
    (h : ∀ A' cap' w', Hid (OwnV base w' A' cap' (ps ++ qs)) → Frame (blk A) w w' → (∀ k ∈ blk A', k ∈ blk A ∨ w.heap.size ≤ k) → wpList Tryz.prog ops Q rest (a.put o.dst (.slice A' (n + m) cap')) w') :
    wpList Tryz.prog ops Q (o :: rest) a w := by
  subst hn hm
  obtain ⟨i, hi, hz, hsz, hby⟩ := Tryz.infoVal
  cases B with
  | none =>
    obtain rfl : qs = [] := by
      cases qs with
      | nil => rfl
      | cons y l =>
        obtain ⟨g, o, e, _⟩ := hR.at 0 (by simp)
        cases e
    refine vwpList_append_none_any hgd s x _ ho base _ i 2 Tryz.underlyingRowV hi c _ ps.length (flatV ps) hs hown hx ?_
    have := h A cap w (by rw [List.append_nil]; exact hown) (Frame.refl _ _) (fun k hk => .inl hk)
    exact this
  | some ad =>
    refine wpList_append_own_at w hgd s x _ ho base _ i _ 2 16 Tryz.underlyingRowV hi hz hsz hby rfl (by decide) _ ps.length (flatV ps) hs hown ad qs.length c (flatV qs) hx (flatV_len qs) ?_ flatV_one (by simp only [maxLen]; omega) (by omega) hbase ?_
    · intro j u hj
      obtain ⟨g, o', e, _, hc⟩ := hR j u hj
      cases e
      rw [Addr.add_lit]
      exact hc
    · intro v' w' hown' hg _ hbl
      have hF := Frame.of_grown hg
      rw [← flatV_append] at hown'
      have hl : (ps ++ qs).length = ps.length + qs.length := by simp
      have hB : ∀ A' n' cap', v' = .slice A' n' cap' → ∀ k ∈ blk A', k ∈ blk A ∨ w.heap.size ≤ k := by
        rintro A' n' cap' rfl k hk
        cases A' with
        | none => simp [blk] at hk
        | some a' =>
          simp only [blk, List.mem_singleton] at hk
          subst hk
          rcases hbl with hbl | hbl
          · left
            cases A with
            | none => simp [Value.ownBlock] at hbl
            | some a0 => simp [Value.ownBlock] at hbl; simp [blk, hbl]
          · right
            simp [Value.ownBlock] at hbl
            omega
      rcases hown'.2 with ⟨e, hn⟩ | ⟨g, cp, cur, rfl, r⟩
      · have := h none 0 w' (by show OwnV _ _ _ _ _; unfold OwnV; rw [hl, hn]; rw [e, hn] at hown'; exact hown') hF (fun k hk => by simp [blk] at hk)
        rw [hn] at this
        rw [e]
        exact this
      · exact h _ _ _ (by show OwnV _ _ _ _ _; unfold OwnV; rw [hl]; exact hown') hF (hB _ _ _ rfl)
theorem rdV_new (W : World) (x y : Int) : RdP (W.alloc (.cells #[.int .i64 x, .int .u64 y] 54)) (some ⟨W.heap.size, 0, none⟩) [(x, y)] := by
 intro j u hj
 have a := At.new W #[.int .i64 x, .int .u64 y] 54
 refine ⟨W.heap.size, 0, rfl, a.lt, ?_⟩
 have hl := (List.getElem?_eq_some_iff.1 hj).1
 simp at hl
 rcases (by omega : j = 0 ∨ j = 1) with rfl | rfl
 ·simp at hj; subst hj; exact a.cell rfl
 ·simp at hj; subst hj; exact a.cell rfl
end Go.Proofs.YtlbnlmhcpephbaaGreatDoor

namespace Go.Proofs.YtlbnlmhcpephbaaGreatDoor
open Go.RowKit
theorem OwnV.mono {base base' cap : Nat} {w : World} {A : Option Addr} {ps : List (Int × Int)} (h : OwnV base w A cap ps) (hb : base' ≤ base) : OwnV base' w A cap ps := by
 obtain ⟨h1, h2⟩ := h
 refine ⟨h1, ?_⟩
 rcases h2 with h2 | ⟨g, c, cur, e, hg, r⟩
 ·exact .inl h2
 ·exact .inr ⟨g, c, cur, e, Nat.le_trans hb hg, r⟩
def GreatR (c : Cfg) (ls : List Lf) (w : World) (e : Ending) (w' : World) : Prop := ∃ bv, e = .returned (.bool bv) ∧ (bv = false → PlayC c ls) ∧ Below w.heap.size w w'
theorem GreatR.yes {c : Cfg} {ls : List Lf} {w w' : World} (hb : Below w.heap.size w w') : GreatR c ls w (.returned (.bool true)) w' := ⟨true, rfl, (fun h => by simp at h), hb⟩
theorem GreatR.no {c : Cfg} {ls : List Lf} {w w' : World} (h : PlayC c ls) (hb : Below w.heap.size w w') : GreatR c ls w (.returned (.bool false)) w' := ⟨false, rfl, (fun _ => h), hb⟩
set_option maxRecDepth 100000 in
set_option maxHeartbeats 2000000 in
theorem great_any (c : Cfg) (A : Option Addr) (len cap : Nat) (ls : List Lf) (w : World) (hl : ls.length = len) (hm : len ≤ 9223372036854775807) (hR : RdL w A ls) :
  Calls Tryz.prog 8 #[c.val, .slice A len cap] w fun e w' => GreatR c ls w e w' := by
 have HLN := Lib.hid hl
 have HR := Lib.hid hR
 have HPC : Hid (∀ ls, PlayC c ls ↔ (ls.length ≤ 12 ∧ (∀ x ∈ ls, x.vals.length ≤ 30 ∧ ∀ v ∈ x.vals, v.2 ≤ 20) ∧ (c.kd = 1 → c.pd ≤ 100))) := fun ls => ⟨fun h => ⟨h.len, h.few, h.den⟩, fun h => ⟨h.1, h.2.1, h.2.2⟩⟩
 have HGY := Lib.hid fun w' (h : Below w.heap.size w w') => GreatR.yes (c := c) (ls := ls) h
 have HGN := Lib.hid fun w' (hp : PlayC c ls) (h : Below w.heap.size w w') => GreatR.no hp h
 obtain ⟨R, hGR⟩ : ∃ R, GreatR c ls w = R := ⟨_, rfl⟩
 rw [hGR] at HGY HGN ⊢
 obtain ⟨P, hP⟩ : ∃ P, PlayC c = P := ⟨_, rfl⟩
 rw [hP] at HGN HPC
 obtain ⟨kd, pn, pd, sd, mo, dg, li, de, fa, wi, wo⟩ := c
 clear hGR hP hl hR
 dsimp only at HPC
 have hba : Below w.heap.size w (w.alloc (.cells #[.int .i64 kd, .int .u64 pn, .int .u64 pd, .int .i64 sd, .int .i64 mo, .int .i64 dg, .int .u64 li, .int .i64 de, .int .i64 fa, .int .i64 wi, .int .u64 wo] 28)) := (Below.refl _ _).alloc (Nat.le_refl _) _
 have ac := At.new w #[.int .i64 kd, .int .u64 pn, .int .u64 pd, .int .i64 sd, .int .i64 mo, .int .i64 dg, .int .u64 li, .int .i64 de, .int .i64 fa, .int .i64 wi, .int .u64 wo] 28
 show Calls _ _ #[.agg #[.int .i64 kd, .int .u64 pn, .int .u64 pd, .int .i64 sd, .int .i64 mo, .int .i64 dg, .int .u64 li, .int .i64 de, .int .i64 fa, .int .i64 wi, .int .u64 wo], .slice A len cap] _ _
 go_enter Tryz.func8, Tryz.ntmps8
 go_wp2_with fail
 obtain ⟨W1, hW1⟩ : ∃ W, w.alloc (.cells #[.int .i64 kd, .int .u64 pn, .int .u64 pd, .int .i64 sd, .int .i64 mo, .int .i64 dg, .int .u64 li, .int .i64 de, .int .i64 fa, .int .i64 wi, .int .u64 wo] 28) = W := ⟨_, rfl⟩
 obtain ⟨cb, hcb⟩ : ∃ r, w.heap.size = r := ⟨_, rfl⟩
 rw [hW1] at hba ac
 rw [hcb] at ac
 have HBA := Lib.hid hba
 have HAC := Lib.hid ac
 simp only [hW1, hcb]
 clear hW1 hcb hba ac
 go_loopw [11] (fun i wr => ∃ k : Nat, k ≤ len ∧ i = .int .i64 k ∧ Hid (∀ x ∈ ls.take k, x.vals.length ≤ 30 ∧ ∀ v ∈ x.vals, v.2 ≤ 20) ∧ Hid (Below W1.heap.size W1 wr)) (fun i _ => len - (intOf i).toNat)
 case atStart => exact ⟨0, by omega, rfl, fun x hx => by simp at hx, Below.refl _ _⟩
 case round =>
  obtain ⟨k, hk, rfl, HC, HB⟩ := hrel
  by_cases hlt : k < len
  ·have HKL : Hid (k < ls.length) := by have := HLN.out; show _ < _; omega
   obtain ⟨g, o, rfl, hg, c1, c2⟩ := (HR.out.below (keep1 HBA.out HB.out)).at k HKL.out
   have HXM : Hid ((ls[k]'HKL.out) ∈ ls) := List.getElem_mem _
   have HXO := Lib.hid ((HR.out.below (keep1 HBA.out HB.out)).2 _ HXM.out)
   have HT : Hid (ls.take (k + 1) = ls.take k ++ [ls[k]'HKL.out]) := List.take_succ_eq_append_getElem HKL.out
   obtain ⟨⟨xA, xc, xv, xb⟩, hx⟩ : ∃ x, ls[k]'HKL.out = x := ⟨_, rfl⟩
   rw [hx] at c1 c2 HXM HXO HT
   dsimp only at c1 c2
   have HXV := Lib.hid HXO.out.2.2
   have HXR : Hid (RdP wr xA xv) := HXO.out.1
   obtain ⟨n, hn⟩ : ∃ n, xv.length = n := ⟨_, rfl⟩
   have HN := Lib.hid hn
   have hn63 : n ≤ 9223372036854775807 := by have : xv.length ≤ _ := HXV.out; omega
   rw [hn] at c1
   have hbe : Below wr.heap.size wr (wr.alloc (.cells #[.slice xA n xc, .bool xb] 70)) := (Below.refl _ _).alloc (Nat.le_refl _) _
   have HBE := Lib.hid (keep1 HB.out hbe)
   have HXR1 := Lib.hid (HXR.out.below hbe)
   clear hx hn hbe HXO HXR
   by_cases h30 : 30 < n
   ·have hd : decide ((30 : Int) < n) = true := decide_eq_true (by omega)
    have HF := Lib.hid (HGY.out _ (keep1 HBA.out HBE.out))
    clear h30
    go_wp2
    exact HF.out
   ·have hd : decide ((30 : Int) < n) = false := decide_eq_false (by omega)
    have hd' : decide (30 < n) = false := decide_eq_false h30
    have h30' : n ≤ 30 := by omega
    clear h30
    go_wp2
    clear c1 c2 hg hd hd'
    obtain ⟨W2, hW2⟩ : ∃ W, wr.alloc (.cells #[.slice xA n xc, .bool xb] 70) = W := ⟨_, rfl⟩
    rw [hW2] at HBE HXR1
    simp only [hW2]
    clear hW2
    obtain ⟨wo', hwo⟩ : ∃ wo' : World, wo' = wr := ⟨_, rfl⟩
    go_loopw [22] (fun i wi => ∃ j : Nat, j ≤ n ∧ i = .int .i64 j ∧ Hid (∀ v ∈ xv.take j, v.2 ≤ 20) ∧ Hid (Below W2.heap.size W2 wi)) (fun i _ => n - (intOf i).toNat)
    case atStart => exact ⟨0, by omega, rfl, fun x hx => by simp at hx, Below.refl _ _⟩
    case round =>
     obtain ⟨j, hj, rfl, HCJ, HBJ⟩ := hrel
     by_cases hjn : j < n
     ·have HJL : Hid (j < xv.length) := by have := HN.out; show _ < _; omega
      obtain ⟨g', o', rfl, hg', d1, d2⟩ := (HXR1.out.below HBJ.out).at j HJL.out
      have HTJ : Hid (xv.take (j + 1) = xv.take j ++ [xv[j]'HJL.out]) := List.take_succ_eq_append_getElem HJL.out
      obtain ⟨⟨x, y⟩, hxy⟩ : ∃ x, xv[j]'HJL.out = x := ⟨_, rfl⟩
      rw [hxy] at d1 d2 HTJ
      dsimp only at d1 d2
      have hbe : Below wr.heap.size wr (wr.alloc (.cells #[.int .i64 x, .int .u64 y] 54)) := (Below.refl _ _).alloc (Nat.le_refl _) _
      have HBJ1 := Lib.hid (keep1 HBJ.out hbe)
      clear hxy hbe
      by_cases hy : 20 < y
      ·have hd : decide (20 < y) = true := decide_eq_true hy
       have HF := Lib.hid (HGY.out _ (keep1 HBA.out (keep1 HBE.out HBJ1.out)))
       clear hy
       go_wp2
       exact HF.out
      ·have hd : decide (20 < y) = false := decide_eq_false hy
       have HC2 : Hid (∀ v ∈ xv.take (j + 1), v.2 ≤ 20) := fun v hv => by
        rw [HTJ.out] at hv
        rcases List.mem_append.1 hv with h | h
        ·exact HCJ.out v h
        ·rw [List.mem_singleton] at h; subst h; exact (by omega : y ≤ 20)
       clear hy HCJ HTJ
       go_wp2
       go_roundw
       case rel => exact ⟨j + 1, by omega, by simp, HC2, HBJ1⟩
       case measure => simp [intOf]; omega
     ·obtain rfl : j = n := by omega
      have HC3 : Hid (∀ x ∈ ls.take (k + 1), x.vals.length ≤ 30 ∧ ∀ v ∈ x.vals, v.2 ≤ 20) := fun x hx => by
       rw [HT.out] at hx
       rcases List.mem_append.1 hx with h | h
       ·exact HC.out x h
       ·rw [List.mem_singleton] at h
        subst h
        have e : xv.take j = xv := List.take_of_length_le (by have := HN.out; omega)
        have := HCJ.out
        rw [e] at this
        exact ⟨by have := HN.out; show xv.length ≤ 30; omega, this⟩
      have HB3 := Lib.hid (keep1 HBE.out HBJ.out)
      clear HCJ HBJ hjn
      go_wp2
      go_roundw
      case rel => exact ⟨k + 1, by omega, by simp, HC3, HB3⟩
      case measure => simp [intOf]; omega
  ·obtain rfl : k = len := by omega
   have HC1 : Hid (∀ x ∈ ls, x.vals.length ≤ 30 ∧ ∀ v ∈ x.vals, v.2 ≤ 20) := by
    have := HC.out
    rw [List.take_of_length_le (by have := HLN.out; omega)] at this
    exact this
   have a2 := HAC.out.below HB.out
   have f2 := a2.el
   have l2 := a2.lt
   have HFB := Lib.hid (keep1 HBA.out HB.out)
   clear a2 HC hlt
   by_cases h12 : 12 < k
   ·have hd : decide ((12 : Int) < k) = true := decide_eq_true (by omega)
    have hd' : decide (12 < k) = true := decide_eq_true h12
    have HF := Lib.hid (HGY.out _ HFB.out)
    go_wp2
    exact HF.out
   ·have hd : decide ((12 : Int) < k) = false := decide_eq_false (by omega)
    have hd' : decide (12 < k) = false := decide_eq_false h12
    have HL12 : Hid (ls.length ≤ 12) := by have := HLN.out; show _ ≤ _; omega
    by_cases hk1 : kd = 1
    ·have he : (kd == 1) = true := beq_iff_eq.2 hk1
     by_cases hp : 100 < pd
     ·have hd2 : decide (100 < pd) = true := decide_eq_true hp
      have HF := Lib.hid (HGY.out _ HFB.out)
      clear hk1 hp h12
      go_wp2
      exact HF.out
     ·have hd2 : decide (100 < pd) = false := decide_eq_false hp
      have HF := Lib.hid (HGN.out _ ((HPC.out ls).2 ⟨HL12.out, HC1.out, fun _ => by omega⟩) HFB.out)
      clear hk1 hp h12
      go_wp2
      exact HF.out
    ·have he : (kd == 1) = false := beq_eq_false_iff_ne.2 hk1
     have HF := Lib.hid (HGN.out _ ((HPC.out ls).2 ⟨HL12.out, HC1.out, fun h => absurd h hk1⟩) HFB.out)
     clear hk1 h12
     go_wp2
     exact HF.out
section
variable {c : Cfg} {Sk : SkT}
theorem tbytes_any (K : KindC c Sk) (b : Nat) (S : List Nat) (l : List (Int × Int)) (w : World) (h : Sk w b S l) (hv : LOk l) :
  Calls Tryz.prog 39 #[.pointer (some ⟨b, 0, none⟩)] w fun e w' => ∃ st : ByteArray, e = .returned (.string st) ∧ Below w.heap.size w w' ∧ ∀ W, TensAt W → Calls Tryz.prog 38 #[.string st] W (NewSk Sk l W) := by
 have HC := Lib.hid (K.code b S l w h hv)
 clear h hv
 go_enter Tryz.func39, Tryz.ntmps39
 go_wp2_with fail
 refine HC.out.mono ?_
 rintro e w1 ⟨st, f, rfl, hb, hD⟩
 have HD := Lib.hid hD
 have HB := Lib.hid hb
 clear hb hD HC
 go_wp2
 go_ret
 exact ⟨st, rfl, HB.out, HD.out⟩
end
end Go.Proofs.YtlbnlmhcpephbaaGreatDoor

namespace Go.Proofs.YtlbnlmhcpephbaaGreatDoor
open Go.RowKit
structure MadeJ (Sk : SkT) (w W : World) (b : Nat) (S : List Nat) (A : Option Addr) (cap n : Nat) (l : List (Int × Int)) : Prop where
 sk : Sk W b S l
 ws : Within S w.heap.size W.heap.size
 own : OwnV w.heap.size W A cap l
 ap : Apart S (blk A)
 lok : LOk l
 len : l.length = n
 bl : Below w.heap.size w W
 lt : b < W.heap.size
def MadeR (Sk : SkT) (w : World) (e : Ending) (w' : World) : Prop :=
 (Below w.heap.size w w' ∧ ∃ v0 v1, e = .returned (.tuple #[v0, v1, .bool false])) ∨
 ∃ b S A cap n l, e = .returned (.tuple #[.pointer (some ⟨b, 0, none⟩), .slice A n cap, .bool true]) ∧ n ≤ 30 ∧ MadeJ Sk w w' b S A cap n l
section
variable {c : Cfg} {Sk : SkT} {w w0 W W' : World} {b : Nat} {S S' : List Nat} {A A' : Option Addr} {cap cap' n n' : Nat} {l l' : List (Int × Int)}
theorem MadeJ.below (K : KindC c Sk) (h : MadeJ Sk w W b S A cap n l) (hb : Below W.heap.size W W') : MadeJ Sk w W' b S A cap n l :=
 ⟨K.below h.sk hb, h.ws.mono hb.size, h.own.below hb, h.ap, h.lok, h.len, keep1 h.bl hb, Nat.lt_of_lt_of_le h.lt hb.size⟩
theorem MadeJ.step (K : KindC c Sk) (h : MadeJ Sk w W b S A cap n l) (hg : GrownS S S' W.heap.size) (hs : Sk W' b S' l) (hF : Frame S W W') : MadeJ Sk w W' b S' A cap n l :=
 ⟨hs, h.ws.grown hg h.bl.size (K.lt hs), h.own.frame hF fun k hk hm => h.ap k hm hk, fun k hk hm => by
  rcases hg k hk with h1 | h1
  ·exact h.ap k h1 hm
  ·have := (h.own.blk_le k hm).2; omega, h.lok, h.len, hF.below' h.bl h.bl.size h.ws, Nat.lt_of_lt_of_le h.lt hF.size⟩
structure MadeK (Sk : SkT) (w W : World) (b : Nat) (S : List Nat) (A : Option Addr) (cap n : Nat) (l l' : List (Int × Int)) : Prop where
 sk : Sk W b S l'
 ws : Within S w.heap.size W.heap.size
 own : OwnV w.heap.size W A cap l
 ap : Apart S (blk A)
 lok : LOk l'
 len : l.length = n
 bl : Below w.heap.size w W
 lt : b < W.heap.size
theorem MadeJ.put (K : KindC c Sk) (h : MadeJ Sk w W b S A cap n l) (hg : GrownS S S' W.heap.size) (hs : Sk W' b S' l') (hl : LOk l') (hF : Frame S W W') : MadeK Sk w W' b S' A cap n l l' :=
 ⟨hs, h.ws.grown hg h.bl.size (K.lt hs), h.own.frame hF fun k hk hm => h.ap k hm hk, fun k hk hm => by
  rcases hg k hk with h1 | h1
  ·exact h.ap k h1 hm
  ·have := (h.own.blk_le k hm).2; omega, hl, h.len, hF.below' h.bl h.bl.size h.ws, Nat.lt_of_lt_of_le h.lt hF.size⟩
theorem MadeK.below (K : KindC c Sk) (h : MadeK Sk w W b S A cap n l l') (hb : Below W.heap.size W W') : MadeK Sk w W' b S A cap n l l' :=
 ⟨K.below h.sk hb, h.ws.mono hb.size, h.own.below hb, h.ap, h.lok, h.len, keep1 h.bl hb, Nat.lt_of_lt_of_le h.lt hb.size⟩
theorem MadeK.app (K : KindC c Sk) (h : MadeK Sk w W b S A cap n l l') (ho : OwnV w.heap.size W' A' cap' l') (hF : Frame (blk A) W W') (hB : ∀ k ∈ blk A', k ∈ blk A ∨ W.heap.size ≤ k) (hn : l'.length = n') : MadeJ Sk w W' b S A' cap' n' l' :=
 ⟨K.frame h.sk hF h.ap, h.ws.mono hF.size, ho, fun k hk hm => by
  rcases hB k hm with h1 | h1
  ·exact h.ap k hk h1
  ·have := (h.ws k hk).2; omega, h.lok, hn, hF.below h.bl h.bl.size fun k hk => (h.own.blk_le k hk).1, Nat.lt_of_lt_of_le h.lt hF.size⟩
theorem MadeJ.out (h : MadeJ Sk w W b S A cap n l) (hb : Below w0.heap.size w0 w) : MadeJ Sk w0 W b S A cap n l :=
 ⟨h.sk, fun k hk => ⟨Nat.le_trans hb.size (h.ws k hk).1, (h.ws k hk).2⟩, h.own.mono hb.size, h.ap, h.lok, h.len, keep1 hb h.bl, h.lt⟩
theorem MadeJ.swap (K : KindC c Sk) (h : MadeJ Sk w W b S A cap n l) {b' : Nat} (hs : Sk W' b' S' l) (hW : Within S' W.heap.size W'.heap.size) (hb : Below W.heap.size W W') (hlt : b' < W'.heap.size) : MadeJ Sk w W' b' S' A cap n l :=
 ⟨hs, fun k hk => ⟨Nat.le_trans h.bl.size (hW k hk).1, (hW k hk).2⟩, h.own.below hb, fun k hk hm => by have := (hW k hk).1; have := (h.own.blk_le k hm).2; omega, h.lok, h.len, keep1 h.bl hb, hlt⟩
end
set_option maxRecDepth 100000 in
set_option maxHeartbeats 4000000 in
theorem made_any {c : Cfg} {Sk : SkT} (K : KindC c Sk) (xA : Option Addr) (n xc : Nat) (xv : List (Int × Int)) (xb : Bool) (w : World) (hT : TensAt w) (hR : RdP w xA xv) (hok : okP xv) (hn : xv.length = n) (h30 : n ≤ 30) (h20 : ∀ v ∈ xv, v.2 ≤ 20) :
    Calls Tryz.prog 27 #[c.val, .agg #[.slice xA n xc, .bool xb]] w fun e w' => MadeR Sk w e w' := by
  have HK : Hid (KindC c Sk) := K
  have HR := Lib.hid hR
  have HO := Lib.hid hok
  have HN := Lib.hid hn
  have H20 := Lib.hid h20
  have HT := Lib.hid hT
  have HNEW := Lib.hid fun W hW => K.new W hW
  have HMEM : Hid (∀ (w : World) (b : Nat) (S : List Nat) (l : List (Int × Int)), Sk w b S l → b ∈ S) := fun _ _ _ _ h => K.mem h
  obtain ⟨cv, hcv⟩ : ∃ v, c.val = v := ⟨_, rfl⟩
  rw [hcv] at HNEW ⊢
  have hcr : ∃ kd pn pd sd mo dg li de fa wi wo : Int, cv = .agg #[.int .i64 kd, .int .u64 pn, .int .u64 pd, .int .i64 sd, .int .i64 mo, .int .i64 dg, .int .u64 li, .int .i64 de, .int .i64 fa, .int .i64 wi, .int .u64 wo] := ⟨_, _, _, _, _, _, _, _, _, _, _, hcv.symm⟩
  obtain ⟨kd, pn, pd, sd, mo, dg, li, de, fa, wi, wo, rfl⟩ := hcr
  clear hcv hR hok hn h20 hT K
  have ac := (At.new w #[.int .i64 kd, .int .u64 pn, .int .u64 pd, .int .i64 sd, .int .i64 mo, .int .i64 dg, .int .u64 li, .int .i64 de, .int .i64 fa, .int .i64 wi, .int .u64 wo] 28).alloc (.cells #[.slice xA n xc, .bool xb] 70)
  have al := At.new' (w.alloc (.cells #[.int .i64 kd, .int .u64 pn, .int .u64 pd, .int .i64 sd, .int .i64 mo, .int .i64 dg, .int .u64 li, .int .i64 de, .int .i64 fa, .int .i64 wi, .int .u64 wo] 28)) #[.slice xA n xc, .bool xb] 70 (b := w.heap.size + 1) (by simp)
  have hba : Below w.heap.size w ((w.alloc (.cells #[.int .i64 kd, .int .u64 pn, .int .u64 pd, .int .i64 sd, .int .i64 mo, .int .i64 dg, .int .u64 li, .int .i64 de, .int .i64 fa, .int .i64 wi, .int .u64 wo] 28)).alloc (.cells #[.slice xA n xc, .bool xb] 70)) := ((Below.refl _ _).alloc (Nat.le_refl _) _).alloc (by first | omega | (simp; done) | (simp; omega) | (simp [World.setCell]; omega)) _
  go_enter Tryz.func27, Tryz.ntmps27
  have f0 := ac.el
  have l0 := ac.lt
  go_wp2_with fail
  obtain ⟨W1, hW1⟩ : ∃ W, ((w.alloc (.cells #[.int .i64 kd, .int .u64 pn, .int .u64 pd, .int .i64 sd, .int .i64 mo, .int .i64 dg, .int .u64 li, .int .i64 de, .int .i64 fa, .int .i64 wi, .int .u64 wo] 28)).alloc (.cells #[.slice xA n xc, .bool xb] 70)) = W := ⟨_, rfl⟩
  obtain ⟨lb, hlb⟩ : ∃ r, w.heap.size + 1 = r := ⟨_, rfl⟩
  rw [hW1] at hba al
  rw [hlb] at al
  simp only [hW1, hlb]
  have HB1 := Lib.hid hba
  have HAL := Lib.hid al
  clear hW1 hlb hba al ac f0 l0
  have HNEW1 := Lib.hid (HNEW.out W1 (HT.out.below HB1.out))
  refine HNEW1.out.mono ?_
  rintro e w2 ⟨⟨b, S, rfl, hW, hS⟩ | ⟨f, hf, rfl⟩, hb⟩
  rotate_left
  · have HF : Hid (MadeR Sk w (.returned (.tuple #[.pointer none, .slice none 0 0, .bool false])) w2) := .inl ⟨keep1 HB1.out hb, _, _, rfl⟩
    have hfz : (f == 0) = false := beq_eq_false_iff_ne.2 hf
    clear hb hf
    go_wp2
    go_ret3
    exact HF.out
  have H2 : Hid (MadeJ Sk W1 w2 b S none 0 0 []) := ⟨hS, hW, OwnV.nil _ _, fun k _ hm => by simp [blk] at hm, LOk.nil, rfl, hb, HK.out.lt hS _ (HMEM.out _ _ _ _ hS)⟩
  have a2 := HAL.out.below hb
  have f2 := a2.two
  have l2 := a2.lt
  clear hW hS hb HNEW HNEW1
  go_wp2
  clear f2 l2 a2
  go_loopw [9, 24] (fun vals i wr => ∃ k : Nat, k ≤ n ∧ i = .int .i64 k ∧ ∃ S A cap m l, m ≤ k ∧ vals = .slice A m cap ∧ Hid (MadeJ Sk W1 wr b S A cap m l)) (fun _ i _ => n - (intOf i).toNat)
  case atStart => exact ⟨0, by omega, rfl, S, none, 0, 0, [], by omega, rfl, H2⟩
  case round =>
    obtain ⟨k, hk, rfl, S', A, cap, m, l, hmk, rfl, H⟩ := hrel
    clear H2
    by_cases hlt : k < n
    · have HKL : Hid (k < xv.length) := by have := HN.out; show _ < _; omega
      obtain ⟨g, o, rfl, hg, c1, c2⟩ := (HR.out.below (keep1 HB1.out H.out.bl)).at k HKL.out
      have HX := Lib.hid (And.intro (HO.out.at k HKL.out) (H20.out _ (List.getElem_mem HKL.out)))
      obtain ⟨⟨x, y⟩, hxy⟩ : ∃ x, xv[k]'HKL.out = x := ⟨_, rfl⟩
      rw [hxy] at c1 c2 HX
      dsimp only at c1 c2 HX
      have hbe : Below wr.heap.size wr (wr.alloc (.cells #[.int .i64 x, .int .u64 y] 54)) := (Below.refl _ _).alloc (Nat.le_refl _) _
      have H1 := Lib.hid (H.out.below HK.out hbe)
      have HV := Lib.hid (At.new wr #[.int .i64 x, .int .u64 y] 54)
      have HVN : Hid (wr.heap.size ∉ S') := fun hm => by have := (H.out.ws _ hm).2; omega
      have HPUT := Lib.hid (HK.out.put b S' l x y _ H1.out.sk H1.out.lok (by have := H1.out.len; omega) HX.out.1.1 ⟨HX.out.1.2.1, HX.out.2⟩)
      clear hxy hbe H
      go_wp2_with fail
      obtain ⟨W2, hW2⟩ : ∃ W, wr.alloc (.cells #[.int .i64 x, .int .u64 y] 54) = W := ⟨_, rfl⟩
      obtain ⟨vb, hvb⟩ : ∃ r, wr.heap.size = r := ⟨_, rfl⟩
      rw [hW2] at H1 HV HPUT
      rw [hvb] at HV HVN
      simp only [hW2, hvb]
      clear hW2 hvb c1 c2 hg
      refine HPUT.out.mono ?_
      rintro e w3 ⟨f, rfl, ⟨rfl, hy0, S3, hg3, hS3, hF3⟩ | ⟨hf, S3, hg3, hS3, hF3⟩⟩
      · have HLO : Hid (LOk (l ++ [(x, y)])) := H1.out.lok.snoc (by have := H1.out.len; omega) HX.out.1.1 ⟨hy0, HX.out.2⟩
        have H3 := Lib.hid (H1.out.put HK.out hg3 hS3 HLO.out hF3)
        have a3 := hF3.at HV.out HVN.out
        have f3 := a3.two
        have l3 := a3.lt
        have hbe : Below w3.heap.size w3 (w3.alloc (.cells #[.int .i64 x, .int .u64 y] 54)) := (Below.refl _ _).alloc (Nat.le_refl _) _
        have H4 := Lib.hid (H3.out.below HK.out hbe)
        have HRV := Lib.hid (rdV_new w3 x y)
        clear hg3 hS3 hF3 HV HVN HPUT H1 H3 hbe a3 hy0
        go_wp2_with (first | (at_builtin; refine wpList_append_valsF rfl _ _ rfl W1.heap.size A cap m l rfl H4.out.len H4.out.own (some ⟨w3.heap.size, 0, none⟩) 1 1 [(x, y)] rfl rfl HRV.out (by omega) H4.out.bl.size ?_; intro A' cap' w5 HO5 hF5 hB5) | fail)
        have H5 : Hid (MadeJ Sk W1 w5 b S3 A' cap' (m + 1) (l ++ [(x, y)])) := H4.out.app HK.out HO5.out hF5 hB5 (by rw [List.length_append, H4.out.len]; rfl)
        clear HO5 hF5 hB5 H4 HRV f3 l3
        go_wp2
        go_roundw
        case rel => exact ⟨k + 1, by omega, by simp, S3, A', cap', m + 1, _, by omega, rfl, H5⟩
        case measure => simp [intOf]; omega
      · have H3 := Lib.hid (H1.out.step HK.out hg3 hS3 hF3)
        have hfz : (f == 0) = false := beq_eq_false_iff_ne.2 hf
        clear hg3 hS3 hF3 HV HVN HPUT H1 hf
        go_wp2
        go_roundw
        case rel => exact ⟨k + 1, by omega, by simp, S3, A, cap, m, l, by omega, rfl, H3⟩
        case measure => simp [intOf]; omega
    · obtain rfl : k = n := by omega
      have a3 := HAL.out.below H.out.bl
      have f3 := a3.two
      have l3 := a3.lt
      clear hlt
      cases xb with
      | false =>
        have HF : Hid (MadeR Sk w (.returned (.tuple #[.pointer (some ⟨b, 0, none⟩), .slice A m cap, .bool true])) wr) := .inr ⟨b, S', A, cap, m, l, rfl, by omega, H.out.out HB1.out⟩
        go_wp2
        go_ret3
        exact HF.out
      | true =>
        have HBY := Lib.hid (tbytes_any HK.out b S' l wr H.out.sk H.out.lok)
        go_wp2_with fail
        refine HBY.out.mono ?_
        rintro e w4 ⟨st, rfl, hb, hD⟩
        have H4 := Lib.hid (H.out.below HK.out hb)
        have HD := Lib.hid (hD w4 (HT.out.below (keep1 HB1.out H4.out.bl)))
        clear hb hD HBY H f3 l3 a3
        go_wp2_with fail
        refine HD.out.mono ?_
        rintro e w5 ⟨⟨b', S5, rfl, hW, hS⟩ | ⟨f, hf, rfl⟩, hb⟩
        · have HF : Hid (MadeR Sk w (.returned (.tuple #[.pointer (some ⟨b', 0, none⟩), .slice A m cap, .bool true])) w5) := .inr ⟨b', S5, A, cap, m, l, rfl, by omega, (H4.out.swap HK.out hS hW hb (HK.out.lt hS _ (HMEM.out _ _ _ _ hS))).out HB1.out⟩
          clear hW hS hb
          go_wp2
          go_ret3
          exact HF.out
        · have HF : Hid (MadeR Sk w (.returned (.tuple #[.pointer none, .slice A m cap, .bool false])) w5) := .inl ⟨keep1 HB1.out (keep1 H4.out.bl hb), _, _, rfl⟩
          have hfz : (f == 0) = false := beq_eq_false_iff_ne.2 hf
          clear hb hf
          go_wp2
          go_ret3
          exact HF.out
end Go.Proofs.YtlbnlmhcpephbaaGreatDoor

namespace Go.Proofs.YtlbnlmhcpephbaaGreatDoor
open Go.RowKit
def ptrV (bs : List Nat) : List Value := bs.map fun b => .pointer (some ⟨b, 0, none⟩)
theorem ptrV_append (bs cs : List Nat) : ptrV (bs ++ cs) = ptrV bs ++ ptrV cs := List.map_append
theorem ptrV_len (bs : List Nat) : (ptrV bs).length = bs.length := List.length_map _
theorem ptrV_one {bs : List Nat} : ∀ u ∈ ptrV bs, u.oneCell' = true := by
 intro u hu
 unfold ptrV at hu
 obtain ⟨b, _, rfl⟩ := List.mem_map.1 hu
 rfl
def OwnT (base : Nat) (w : World) (A : Option Addr) (cap : Nat) (bs : List Nat) : Prop := w.ownsRow base 34 1 (.slice A bs.length cap) bs.length (ptrV bs)
def RdT (w : World) (A : Option Addr) (bs : List Nat) : Prop := Rd w A (ptrV bs)
theorem RdT.below {w w' : World} {A : Option Addr} {bs : List Nat} (h : RdT w A bs) (hb : Below w.heap.size w w') : RdT w' A bs := Rd.below h hb
theorem RdT.at {w : World} {A : Option Addr} {bs : List Nat} (h : RdT w A bs) (j : Nat) (hj : j < bs.length) : ∃ g o, A = some ⟨g, o, none⟩ ∧ g < w.heap.size ∧ w.cell? ⟨g, o + j, none⟩ = some (.pointer (some ⟨bs[j]'hj, 0, none⟩)) := by
 obtain ⟨g, o, e, hg, hc⟩ := h j (.pointer (some ⟨bs[j]'hj, 0, none⟩)) (by unfold ptrV; rw [List.getElem?_map, List.getElem?_eq_getElem hj]; rfl)
 exact ⟨g, o, e, hg, hc⟩
theorem OwnT.nil (base : Nat) (w : World) : OwnT base w none 0 [] := World.ownsRow_nil w base _ 1
theorem OwnT.empty (w : World) (base : Nat) (hb : base ≤ w.heap.size) : OwnT base (w.alloc (.cells #[] 34)) (some ⟨w.heap.size, 0, none⟩) 0 [] :=
 World.ownsRow_lit w #[] 0 hb (by simp [maxLen]) rfl
theorem OwnT.rd {base cap : Nat} {w : World} {A : Option Addr} {bs : List Nat} (h : OwnT base w A cap bs) : RdT w A bs := by
 intro j u hj
 rcases h.2 with ⟨e, hn⟩ | ⟨g, c, cur, e, hg, hc, r⟩
 ·have : bs = [] := List.eq_nil_of_length_eq_zero hn
  subst this
  simp [ptrV] at hj
 ·injection e with e1 e2 e3
  subst e1
  have hl := (Array.getElem?_eq_some_iff.1 hc).1
  refine ⟨g, 0, rfl, hl, ?_⟩
  have := World.ownsRow.cells h (g := g) rfl j u hj
  rwa [Addr.add_lit] at this
theorem OwnT.zero {base cap : Nat} {w : World} {A : Option Addr} {bs : List Nat} (h : OwnT base w A cap bs) : ∀ a, A = some a → a = ⟨a.block, 0, none⟩ := by
 rintro a rfl
 rcases h.2 with ⟨e, hn⟩ | ⟨g, c, cur, e, r⟩
 ·cases e
 ·injection e with e1 e2 e3
  cases e1
  rfl
theorem OwnT.len_cap {base cap : Nat} {w : World} {A : Option Addr} {bs : List Nat} (h : OwnT base w A cap bs) : bs.length ≤ cap := by
 rcases h.2 with ⟨e, hn⟩ | ⟨g, c, cur, e, hg, hc, r1, r⟩
 ·omega
 ·injection e with e1 e2 e3
  subst e3
  exact r1
theorem OwnT.base_le {base cap : Nat} {w : World} {A : Option Addr} {bs : List Nat} (h : OwnT base w A cap bs) : ∀ k ∈ blk A, base ≤ k ∧ k < w.heap.size := by
 intro k hk
 cases A with
 | none => simp [blk] at hk
 | some a => simp only [blk, List.mem_singleton] at hk; subst hk; exact World.ownsRow.lt h a.block rfl
theorem OwnT.frame {base c : Nat} {w w' : World} {T : List Nat} {A : Option Addr} {bs : List Nat} (h : OwnT base w A c bs) (hf : Frame T w w') (hn : ∀ k ∈ blk A, k ∉ T) : OwnT base w' A c bs := by
 obtain ⟨h1, h2⟩ := h
 refine ⟨h1, ?_⟩
 rcases h2 with h2 | ⟨g, cp, cur, e, hg, hc, r⟩
 ·exact .inl h2
 ·refine .inr ⟨g, cp, cur, e, hg, (hf.block g (Array.getElem?_eq_some_iff.1 hc).1 (hn g ?_)).trans hc, r⟩
  simp only [Value.slice.injEq] at e
  rw [e.1]
  simp [blk]
theorem Tryz.underlyingT : Tryz.prog.underlying 71 = some (.slice 34) := by kernel_rfl
theorem Tryz.infoPtr : (Tryz.prog.info? 34).map (fun i => (i.zero, i.size, i.bytes)) = some (some (.pointer none), 1, 8) := by kernel_rfl
theorem Tryz.infoT : ∃ i, Tryz.prog.info? 34 = some i ∧ i.zero = some (.pointer none) ∧ i.size = 1 ∧ i.bytes = 8 := by
  have := Tryz.infoPtr
  cases hh : Tryz.prog.info? 34 with
  | none => rw [hh] at this; cases this
  | some i =>
    rw [hh] at this
    simp only [Option.map_some, Option.some.injEq, Prod.mk.injEq] at this
    exact ⟨i, rfl, this.1, this.2.1, this.2.2⟩
theorem wpList_append_ptrF {ops : Array Oper} {rest : List Oper} {o : Oper} {a : Act} {Q : Exit → Act → World → Prop} {w : World} (hgd : o.guard = none) (s x : Operand)
    (ho : o.op = .call { callee := .builtin .append, args := #[s, x], argTypes := #[71, 71] })
    (base : Nat) (A : Option Addr) (cap n : Nat) (ps : List Nat) (hs : a.eval s = .slice A n cap) (hn : ps.length = n) (hown : OwnT base w A cap ps)
    (B : Option Addr) (m c : Nat) (qs : List Nat) (hx : a.eval x = .slice B m c) (hm : qs.length = m) (hR : RdT w B qs)
    (hlen : n + m ≤ 1099511627776) (hbase : base ≤ w.heap.size)
    (h : ∀ A' cap' w', Hid (OwnT base w' A' cap' (ps ++ qs)) → Frame (blk A) w w' → (∀ k ∈ blk A', k ∈ blk A ∨ w.heap.size ≤ k) → wpList Tryz.prog ops Q rest (a.put o.dst (.slice A' (n + m) cap')) w') :
    wpList Tryz.prog ops Q (o :: rest) a w := by
  subst hn hm
  obtain ⟨i, hi, hz, hsz, hby⟩ := Tryz.infoT
  cases B with
  | none =>
    obtain rfl : qs = [] := by
      cases qs with
      | nil => rfl
      | cons y l =>
        obtain ⟨g, o, e, _⟩ := hR.at 0 (by simp)
        cases e
    refine vwpList_append_none_any hgd s x _ ho base _ i 1 Tryz.underlyingT hi c _ ps.length (ptrV ps) hs hown hx ?_
    have := h A cap w (by rw [List.append_nil]; exact hown) (Frame.refl _ _) (fun k hk => .inl hk)
    exact this
  | some ad =>
    refine wpList_append_own_at w hgd s x _ ho base _ i _ 1 8 Tryz.underlyingT hi hz hsz hby rfl (by decide) _ ps.length (ptrV ps) hs hown ad qs.length c (ptrV qs) hx (by rw [ptrV_len, Nat.mul_one]) ?_ ptrV_one (by simp only [maxLen]; omega) (by omega) hbase ?_
    · intro j u hj
      obtain ⟨g, o', e, _, hc⟩ := hR j u hj
      cases e
      rw [Addr.add_lit]
      exact hc
    · intro v' w' hown' hg _ hbl
      have hF := Frame.of_grown hg
      rw [← ptrV_append] at hown'
      have hl : (ps ++ qs).length = ps.length + qs.length := by simp
      have hB : ∀ A' n' cap', v' = .slice A' n' cap' → ∀ k ∈ blk A', k ∈ blk A ∨ w.heap.size ≤ k := by
        rintro A' n' cap' rfl k hk
        cases A' with
        | none => simp [blk] at hk
        | some a' =>
          simp only [blk, List.mem_singleton] at hk
          subst hk
          rcases hbl with hbl | hbl
          · left
            cases A with
            | none => simp [Value.ownBlock] at hbl
            | some a0 => simp [Value.ownBlock] at hbl; simp [blk, hbl]
          · right
            simp [Value.ownBlock] at hbl
            omega
      rcases hown'.2 with ⟨e, hn⟩ | ⟨g, cp, cur, rfl, r⟩
      · have := h none 0 w' (by show OwnT _ _ _ _ _; unfold OwnT; rw [hl, hn]; rw [e, hn] at hown'; exact hown') hF (fun k hk => by simp [blk] at hk)
        rw [hn] at this
        rw [e]
        exact this
      · exact h _ _ _ (by show OwnT _ _ _ _ _; unfold OwnT; rw [hl]; exact hown') hF (hB _ _ _ rfl)
theorem rdT_new (W : World) (b : Nat) : RdT (W.alloc (.cells #[.pointer (some ⟨b, 0, none⟩)] 34)) (some ⟨W.heap.size, 0, none⟩) [b] := by
 intro j u hj
 have a := At.new W #[.pointer (some ⟨b, 0, none⟩)] 34
 refine ⟨W.heap.size, 0, rfl, a.lt, ?_⟩
 have hl := (List.getElem?_eq_some_iff.1 hj).1
 simp [ptrV] at hl
 subst hl
 simp [ptrV] at hj
 subst hj
 exact a.cell rfl
theorem RdT.take {w : World} {A : Option Addr} {bs : List Nat} (h : RdT w A bs) (k : Nat) : RdT w A (bs.take k) := fun j u hj => h j u (by
 unfold ptrV at hj ⊢
 rw [List.map_take] at hj
 rw [List.getElem?_take_of_lt (by have := (List.getElem?_eq_some_iff.1 hj).1; rw [List.length_take] at this; omega)] at hj
 exact hj)
theorem RdT.drop {w : World} {g o : Nat} {bs : List Nat} (h : RdT w (some ⟨g, o, none⟩) bs) (k : Nat) : RdT w (some ⟨g, o + k, none⟩) (bs.drop k) := fun j u hj => by
 obtain ⟨g', o', e, hg, hc⟩ := h (k + j) u (by
  unfold ptrV at hj ⊢
  rw [List.map_drop, List.getElem?_drop] at hj
  exact hj)
 simp only [Option.some.injEq, Addr.mk.injEq, and_true] at e
 obtain ⟨rfl, rfl⟩ := e
 exact ⟨g, o + k, rfl, hg, by rw [Nat.add_assoc]; exact hc⟩
end Go.Proofs.YtlbnlmhcpephbaaGreatDoor

namespace Go.Proofs.YtlbnlmhcpephbaaGreatDoor
open Go.RowKit
theorem OwnT.mono {base base' cap : Nat} {w : World} {A : Option Addr} {bs : List Nat} (h : OwnT base w A cap bs) (hb : base' ≤ base) : OwnT base' w A cap bs := by
 obtain ⟨h1, h2⟩ := h
 refine ⟨h1, ?_⟩
 rcases h2 with h2 | ⟨g, c, cur, e, hg, r⟩
 ·exact .inl h2
 ·exact .inr ⟨g, c, cur, e, Nat.le_trans hb hg, r⟩
structure It where
 b : Nat
 S : List Nat
 l : List (Int × Int)
structure TreeJ (Sk : SkT) (w W : World) (its : List It) (Ar : Option Addr) (cr : Nat) (Aa : Option Addr) (ca : Nat) (all : List (Int × Int)) : Prop where
 sk : ∀ x ∈ its, Sk W x.b x.S x.l
 ws : ∀ x ∈ its, Within x.S w.heap.size W.heap.size
 apr : its.Pairwise fun x y => Apart x.S y.S
 row : OwnT w.heap.size W Ar cr (its.map (·.b))
 vals : OwnV w.heap.size W Aa ca all
 rr : ∀ x ∈ its, Apart x.S (blk Ar)
 ra : ∀ x ∈ its, Apart x.S (blk Aa)
 ar : ∀ k ∈ blk Ar, k ∉ blk Aa
 bl : Below w.heap.size w W
section
variable {c : Cfg} {Sk : SkT} {w W0 W W' : World} {its xs ys zs : List It} {x y : It} {S' : List Nat} {l' : List (Int × Int)} {Ar Ar' Aa Aa' : Option Addr} {cr cr' ca ca' : Nat} {all all' : List (Int × Int)}
theorem TreeJ.nil (w : World) : TreeJ Sk w w [] none 0 none 0 [] :=
 ⟨fun x hx => by simp at hx, fun x hx => by simp at hx, List.Pairwise.nil, OwnT.nil _ _, OwnV.nil _ _, fun x hx => by simp at hx, fun x hx => by simp at hx, fun k hk => by simp [blk] at hk, Below.refl _ _⟩
theorem TreeJ.below (K : KindC c Sk) (h : TreeJ Sk w W its Ar cr Aa ca all) (hb : Below W.heap.size W W') : TreeJ Sk w W' its Ar cr Aa ca all :=
 ⟨fun x hx => K.below (h.sk x hx) hb, fun x hx => (h.ws x hx).mono hb.size, h.apr, h.row.frame (T := []) (Frame.of_below hb) (fun _ _ => by simp), h.vals.below hb, h.rr, h.ra, h.ar, keep1 h.bl hb⟩
theorem TreeJ.addRow (K : KindC c Sk) (h0 : TreeJ Sk w W0 its Ar cr Aa ca all) (hb : Below W0.heap.size W0 W) (hs : Sk W x.b x.S x.l) (hw : Within x.S W0.heap.size W.heap.size)
  (ho : OwnT w.heap.size W' Ar' cr' (its.map (·.b) ++ [x.b])) (hF : Frame (blk Ar) W W') (hB : ∀ k ∈ blk Ar', k ∈ blk Ar ∨ W.heap.size ≤ k) : TreeJ Sk w W' (its ++ [x]) Ar' cr' Aa ca all := by
 have h := h0.below K hb
 have hz := hb.size
 have xr : Apart x.S (blk Ar) := fun k hk hm => by have := (hw k hk).1; have := (h0.row.base_le k hm).2; omega
 refine ⟨fun y hy => ?_, fun y hy => ?_, ?_, by rw [List.map_append]; exact ho, h.vals.frame hF fun k hk hm => h.ar k hm hk, fun y hy => ?_, fun y hy => ?_, fun k hk hm => ?_, hF.below h.bl h.bl.size fun k hk => (h.row.base_le k hk).1⟩
 ·rcases List.mem_append.1 hy with h1 | h1
  ·exact K.frame (h.sk y h1) hF (h.rr y h1)
  ·rw [List.mem_singleton] at h1; subst h1; exact K.frame hs hF xr
 ·rcases List.mem_append.1 hy with h1 | h1
  ·exact (h.ws y h1).mono hF.size
  ·rw [List.mem_singleton] at h1; subst h1; exact fun k hk => ⟨Nat.le_trans h0.bl.size (hw k hk).1, Nat.lt_of_lt_of_le (hw k hk).2 hF.size⟩
 ·refine List.pairwise_append.2 ⟨h.apr, List.pairwise_singleton _ _, fun y hy z hz => ?_⟩
  rw [List.mem_singleton] at hz
  subst hz
  exact fun k hk hm => by have := (h0.ws y hy k hk).2; have := (hw k hm).1; omega
 ·intro k hk hm
  rcases List.mem_append.1 hy with h1 | h1
  ·rcases hB k hm with h2 | h2
   ·exact h.rr y h1 k hk h2
   ·have := (h.ws y h1 k hk).2; omega
  ·rw [List.mem_singleton] at h1; subst h1
   rcases hB k hm with h2 | h2
   ·exact xr k hk h2
   ·have := (hw k hk).2; omega
 ·rcases List.mem_append.1 hy with h1 | h1
  ·exact h.ra y h1
  ·rw [List.mem_singleton] at h1; subst h1
   exact fun k hk hm => by have := (hw k hk).1; have := (h0.vals.blk_le k hm).2; omega
 ·rcases hB k hk with h2 | h2
  ·exact h.ar k h2 hm
  ·have := (h.vals.blk_le k hm).2; omega
theorem TreeJ.addVals (K : KindC c Sk) (h : TreeJ Sk w W its Ar cr Aa ca all) (ho : OwnV w.heap.size W' Aa' ca' all') (hF : Frame (blk Aa) W W') (hB : ∀ k ∈ blk Aa', k ∈ blk Aa ∨ W.heap.size ≤ k) : TreeJ Sk w W' its Ar cr Aa' ca' all' :=
 ⟨fun y hy => K.frame (h.sk y hy) hF (h.ra y hy), fun y hy => (h.ws y hy).mono hF.size, h.apr, h.row.frame hF h.ar, ho, h.rr, fun y hy k hk hm => by
  rcases hB k hm with h2 | h2
  ·exact h.ra y hy k hk h2
  ·have := (h.ws y hy k hk).2; omega, fun k hk hm => by
  rcases hB k hm with h2 | h2
  ·exact h.ar k hk h2
  ·have := (h.row.base_le k hk).2; omega, hF.below h.bl h.bl.size fun k hk => (h.vals.blk_le k hk).1⟩
theorem TreeJ.joined (K : KindC c Sk) (h : TreeJ Sk w W (xs ++ x :: ys) Ar cr Aa ca all) (hg : GrownS x.S S' W.heap.size) (hs : Sk W' x.b S' l') (hF : Frame x.S W W') : TreeJ Sk w W' (xs ++ ⟨x.b, S', l'⟩ :: ys) Ar cr Aa ca all := by
 have hx : x ∈ xs ++ x :: ys := by simp
 obtain ⟨p1, p2, p3⟩ := List.pairwise_append.1 h.apr
 obtain ⟨p4, p5⟩ := List.pairwise_cons.1 p2
 have ax : ∀ y ∈ xs, Apart y.S x.S := fun y hy => p3 y hy x (by simp)
 have ay : ∀ y ∈ ys, Apart y.S x.S := fun y hy => (p4 y hy).symm
 have grow : ∀ T : List Nat, Apart T x.S → (∀ k ∈ T, k < W.heap.size) → Apart T S' := fun T hT hlt k hk hm => by
  rcases hg k hm with h1 | h1
  ·exact hT k hk h1
  ·have := hlt k hk; omega
 refine ⟨fun y hy => ?_, fun y hy => ?_, ?_, ?_, h.vals.frame hF fun k hk hm => h.ra x hx k hm hk, fun y hy => ?_, fun y hy => ?_, h.ar, hF.below' h.bl h.bl.size (h.ws x hx)⟩
 ·rcases List.mem_append.1 hy with h1 | h1
  ·exact K.frame (h.sk y (by simp [h1])) hF (ax y h1)
  ·rcases List.mem_cons.1 h1 with rfl | h1
   ·exact hs
   ·exact K.frame (h.sk y (by simp [h1])) hF (ay y h1)
 ·rcases List.mem_append.1 hy with h1 | h1
  ·exact (h.ws y (by simp [h1])).mono hF.size
  ·rcases List.mem_cons.1 h1 with rfl | h1
   ·exact (h.ws x hx).grown hg h.bl.size (K.lt hs)
   ·exact (h.ws y (by simp [h1])).mono hF.size
 ·refine List.pairwise_append.2 ⟨p1, List.pairwise_cons.2 ⟨fun y hy => ?_, p5⟩, fun y hy z hz => ?_⟩
  ·exact (grow y.S (ay y hy) fun k hk => (h.ws y (by simp [hy]) k hk).2).symm
  ·rcases List.mem_cons.1 hz with rfl | hz
   ·exact grow y.S (ax y hy) fun k hk => (h.ws y (by simp [hy]) k hk).2
   ·exact p3 y hy z (by simp [hz])
 ·have e : (xs ++ (⟨x.b, S', l'⟩ : It) :: ys).map (·.b) = (xs ++ x :: ys).map (·.b) := by simp
  rw [e]
  exact h.row.frame hF fun k hk hm => h.rr x hx k hm hk
 ·rcases List.mem_append.1 hy with h1 | h1
  ·exact h.rr y (by simp [h1])
  ·rcases List.mem_cons.1 h1 with rfl | h1
   ·exact fun k hk hm => by
     rcases hg k hk with h2 | h2
     ·exact h.rr x hx k h2 hm
     ·have := (h.row.base_le k hm).2; omega
   ·exact h.rr y (by simp [h1])
 ·rcases List.mem_append.1 hy with h1 | h1
  ·exact h.ra y (by simp [h1])
  ·rcases List.mem_cons.1 h1 with rfl | h1
   ·exact fun k hk hm => by
     rcases hg k hk with h2 | h2
     ·exact h.ra x hx k h2 hm
     ·have := (h.vals.blk_le k hm).2; omega
   ·exact h.ra y (by simp [h1])
theorem TreeJ.newRow (K : KindC c Sk) (h : TreeJ Sk w W (xs ++ x :: y :: zs) Ar cr Aa ca all) (ho : OwnT W.heap.size W' Ar' cr' ((xs ++ x :: zs).map (·.b))) (hb : Below W.heap.size W W') : TreeJ Sk w W' (xs ++ x :: zs) Ar' cr' Aa ca all := by
 have hsub : (xs ++ x :: zs).Sublist (xs ++ x :: y :: zs) := (List.Sublist.refl xs).append ((List.sublist_cons_self y zs).cons_cons x)
 have hmem : ∀ z ∈ xs ++ x :: zs, z ∈ xs ++ x :: y :: zs := fun z hz => hsub.subset hz
 have h' := h.below K hb
 exact ⟨fun z hz => h'.sk z (hmem z hz), fun z hz => h'.ws z (hmem z hz), h.apr.sublist hsub, ho.mono h.bl.size, h'.vals, fun z hz k hk hm => by have := (ho.base_le k hm).1; have := (h.ws z (hmem z hz) k hk).2; omega, fun z hz => h'.ra z (hmem z hz), fun k hk hm => by have := (ho.base_le k hk).1; have := (h.vals.blk_le k hm).2; omega, h'.bl⟩
structure TreeI (Sk : SkT) (w W : World) (its : List It) (Ar : Option Addr) (cr : Nat) (Aa : Option Addr) (ca : Nat) (all : List (Int × Int)) (k n : Nat) : Prop where
 tj : TreeJ Sk w W its Ar cr Aa ca all
 len : its.length = k
 eq : all = its.flatMap (·.l)
 ok : okP all
 pos : ∀ v ∈ all, 0 < v.2 ∧ v.2 ≤ 20
 n : all.length = n
def TreeR (Sk : SkT) (w : World) (e : Ending) (w' : World) : Prop :=
 (Below w.heap.size w w' ∧ ∃ v0 v1, e = .returned (.tuple #[v0, v1, .bool false])) ∨
 ∃ b S A cap n l, e = .returned (.tuple #[.pointer (some ⟨b, 0, none⟩), .slice A n cap, .bool true]) ∧ MadeJ Sk w w' b S A cap n l
end
def lenV : Value → Nat
 | .slice _ n _ => n
 | _ => 0
theorem opwp_append_ptr {o : Oper} {a : Act} {K : Act → World → Prop} {Q : Exit → Act → World → Prop} {w : World} (s x : Operand)
  (ho : o.op = .call { callee := .builtin .append, args := #[s, x], argTypes := #[71, 71] })
  (base : Nat) (A : Option Addr) (cap n : Nat) (ls : List Nat) (hs : a.eval s = .slice A n cap) (hn : ls.length = n) (hown : OwnT base w A cap ls)
  (ad : Addr) (m c : Nat) (ks : List Nat) (hx : a.eval x = .slice (some ad) m c) (hm : ks.length = m) (hR : RdT w (some ad) ks)
  (hlen : n + m ≤ 1099511627775) (hbase : base ≤ w.heap.size) (d : Nat) (hd : o.dst = some d)
  (h : ∀ A' cap' w', Hid (OwnT base w' A' cap' (ls ++ ks)) → Hid (w.grownBy w' (Value.slice A n cap).ownBlock) → K ⟨a.tmps.setIfInBounds d (.slice A' (n + m) cap'), a.defers⟩ w') :
  Oper.wp Tryz.prog o a w K Q := by
 subst hn hm
 have hput : ∀ v, a.put o.dst v = ⟨a.tmps.setIfInBounds d v, a.defers⟩ := fun v => by rw [hd]; rfl
 simp only [← hput] at h
 obtain ⟨i, hi, hz, hsz, hby⟩ := Tryz.infoT
 have hnews : ∀ j u, (ptrV ks)[j]? = some u → w.cell? (ad.add j) = some u := by
  intro j u hj
  obtain ⟨g, o', e, _, hc⟩ := hR j u hj
  cases e
  rw [Addr.add_lit]
  exact hc
 obtain ⟨v', w', hr, hown', hg, _, hblk⟩ := run_append_own_at (P := Tryz.prog) w base 71 o.type _ i _ 1 8 Tryz.underlyingT hi hz hsz hby rfl (by decide) _ ls.length (ptrV ls) hown ad ks.length c (ptrV ks) (by rw [ptrV_len, Nat.mul_one]) hnews
  ptrV_one (by simp only [maxLen]; omega) (by omega) hbase
 unfold Oper.wp execOp
 simp only [ho, resolve, invoke, builtin, Sem.run_bind, Sem.run_pure, Result.andThen_ok, List.map_toArray, List.map_cons, List.map_nil, hs, hx, hr]
 have hl : (ls ++ ks).length = ls.length + ks.length := by simp
 rw [← ptrV_append] at hown'
 rcases hown'.2 with ⟨e, hn⟩ | ⟨g, cp, cur, rfl, r⟩
 ·have := h none 0 w' (by show OwnT _ _ _ _ _; unfold OwnT; rw [hl, hn]; rw [e, hn] at hown'; exact hown') hg
  rw [hn] at this
  rw [e]
  exact this
 ·exact h _ _ _ (by show OwnT _ _ _ _ _; unfold OwnT; rw [hl]; exact hown') hg
end Go.Proofs.YtlbnlmhcpephbaaGreatDoor
