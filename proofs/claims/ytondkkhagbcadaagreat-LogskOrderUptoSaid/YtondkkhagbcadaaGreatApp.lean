/- A row of pairs that the call itself builds by 'append'; the document's Add. -/
import Derived.Test.YtondkkhagbcadaaGreatProg
import Derived.Test.YtondkkhagbcadaaGreatRow
import Derived.Maps.AppendAt
import Derived.OwnWalk
import Derived.Below
namespace Go.Proofs.YtondkkhagbcadaaGreat
open Go.RowKit

def flatP (ps : List (Int × Int)) : List Value := ps.flatMap fun x => [.int .i64 x.1, .int .u64 x.2]
theorem flatP_len (ps : List (Int × Int)) : (flatP ps).length = ps.length * 2 := flat2_len ps
theorem flatP_snoc (ps : List (Int × Int)) (p : Int × Int) : flatP (ps ++ [p]) = flatP ps ++ [.int .i64 p.1, .int .u64 p.2] := by simp [flatP]

/-- A slice of pairs of the call's own, from block base on. -/
def Own2 (base : Nat) (w : World) (A : Option Addr) (cap : Nat) (ps : List (Int × Int)) : Prop := w.ownsRow base 106 2 (.slice A ps.length cap) ps.length (flatP ps)

theorem Own2.nil (base : Nat) (w : World) : Own2 base w none 0 [] := World.ownsRow_nil w base _ 2
theorem Own2.below {base cap : Nat} {w w' : World} {A : Option Addr} {ps : List (Int × Int)} (h : Own2 base w A cap ps) (hb : Below w.heap.size w w') : Own2 base w' A cap ps := by
  obtain ⟨h1, h2⟩ := h
  refine ⟨h1, ?_⟩
  rcases h2 with h2 | ⟨g, c, cur, e, hg, hc, r⟩
  · exact .inl h2
  · exact .inr ⟨g, c, cur, e, hg, (hb.block g (Array.getElem?_eq_some_iff.1 hc).1).trans hc, r⟩
theorem Own2.rd {base cap : Nat} {w : World} {A : Option Addr} {ps : List (Int × Int)} (h : Own2 base w A cap ps) : RdP w A ps := by
  intro j u hj
  rcases h.2 with ⟨e, hn⟩ | ⟨g, c, cur, e, hg, hc, r⟩
  · have : ps = [] := List.eq_nil_of_length_eq_zero hn
    subst this
    simp at hj
  · injection e with e1 e2 e3
    subst e1
    have hl := (Array.getElem?_eq_some_iff.1 hc).1
    refine ⟨g, 0, rfl, hl, ?_⟩
    have := World.ownsRow.cells h (g := g) rfl j u hj
    rwa [Addr.add_lit] at this
theorem Own2.cap_le {base cap : Nat} {w : World} {A : Option Addr} {ps : List (Int × Int)} (h : Own2 base w A cap ps) : ps.length ≤ 9223372036854775807 := by
  rcases h.2 with ⟨e, hn⟩ | ⟨g, c, cur, e, hg, hc, h1, h2, r⟩
  · omega
  · simp only [maxLen] at h2; omega
theorem Own2.base_le {base cap : Nat} {w : World} {A : Option Addr} {ps : List (Int × Int)} (h : Own2 base w A cap ps) : ∀ g, A = some g → base ≤ g.block ∧ g.block < w.heap.size := by
  rintro g rfl
  exact World.ownsRow.lt h g.block rfl
theorem Own2.mono {base base' cap : Nat} {w : World} {A : Option Addr} {ps : List (Int × Int)} (h : Own2 base w A cap ps) (hb : base' ≤ base) : Own2 base' w A cap ps := by
  obtain ⟨h1, h2⟩ := h
  refine ⟨h1, ?_⟩
  rcases h2 with h2 | ⟨g, c, cur, e, hg, r⟩
  · exact .inl h2
  · exact .inr ⟨g, c, cur, e, Nat.le_trans hb hg, r⟩

theorem Tryz.underlyingRow : Tryz.prog.underlying 60 = some (.slice 106) := by kernel_rfl
theorem Tryz.infoPair : (Tryz.prog.info? 106).map (fun i => (i.zero, i.size, i.bytes)) = some (some (.agg #[.int .i64 0, .int .u64 0]), 2, 16) := by kernel_rfl

theorem wpList_append_pair {ops : Array Oper} {rest : List Oper} {o : Oper} {a : Act} {Q : Exit → Act → World → Prop} {w : World} (hgd : o.guard = none) (s x : Operand)
    (ho : o.op = .call { callee := .builtin .append, args := #[s, x], argTypes := #[60, 60] })
    (base : Nat) (A : Option Addr) (cap n : Nat) (ps : List (Int × Int)) (hs : a.eval s = .slice A n cap) (hn : ps.length = n) (hown : Own2 base w A cap ps)
    (ad : Addr) (c : Nat) (p : Int × Int) (hx : a.eval x = .slice (some ad) 1 c) (h0 : w.cell? (ad.add 0) = some (.int .i64 p.1)) (h1 : w.cell? (ad.add 1) = some (.int .u64 p.2))
    (hlen : n ≤ 1099511627776) (W0 : World) (hB : Below base W0 w) (hbase : base ≤ w.heap.size)
    (h : ∀ A' cap' w', Hid (Own2 base w' A' cap' (ps ++ [p])) → Below base W0 w' → wpList Tryz.prog ops Q rest (a.put o.dst (.slice A' (n + 1) cap')) w') :
    wpList Tryz.prog ops Q (o :: rest) a w := by
  subst hn
  obtain ⟨i, hi, hz, hsz, hby⟩ : ∃ i, Tryz.prog.info? 106 = some i ∧ i.zero = some (.agg #[.int .i64 0, .int .u64 0]) ∧ i.size = 2 ∧ i.bytes = 16 := by
    have := Tryz.infoPair
    cases hh : Tryz.prog.info? 106 with
    | none => rw [hh] at this; cases this
    | some i =>
      rw [hh] at this
      simp only [Option.map_some, Option.some.injEq, Prod.mk.injEq] at this
      exact ⟨i, rfl, this.1, this.2.1, this.2.2⟩
  refine wpList_append_own_at w hgd s x _ ho base _ i _ 2 16 Tryz.underlyingRow hi hz hsz hby rfl (by decide) _ ps.length (flatP ps) hs hown ad 1 c [.int .i64 p.1, .int .u64 p.2] hx rfl ?_ ?_ (by simp only [maxLen]; omega) (by omega) hbase ?_
  · intro j u hj
    match j, hj with
    | 0, hj => simp only [List.getElem?_cons_zero, Option.some.injEq] at hj; subst hj; exact h0
    | 1, hj => simp only [List.getElem?_cons_succ, List.getElem?_cons_zero, Option.some.injEq] at hj; subst hj; exact h1
  · intro u hu
    simp only [List.mem_cons, List.not_mem_nil, or_false] at hu
    rcases hu with rfl | rfl <;> rfl
  · intro v' w' hown' hg _ _
    have hB' : Below base W0 w' := hB.grown hg hbase (fun k hk => (World.ownsRow.lt hown k hk).1)
    rw [← flatP_snoc] at hown'
    have hl : (ps ++ [p]).length = ps.length + 1 := by simp
    rcases hown'.2 with ⟨e, hn⟩ | ⟨g, cp, cur, rfl, r⟩
    · omega
    · exact h _ _ _ (by show Own2 _ _ _ _ _; unfold Own2; rw [hl]; exact hown') hB'

theorem new_two0 {w : World} {b : Nat} {u0 u1 : Value} {T : TypeId} (hb : b = w.heap.size) : (w.alloc (.cells #[u0, u1] T)).cell? ((⟨b, 0, none⟩ : Addr).add 0) = some u0 := by
  rw [Addr.add_lit]; exact (At.new' w #[u0, u1] T hb).cell (i := 0) rfl
theorem new_two1 {w : World} {b : Nat} {u0 u1 : Value} {T : TypeId} (hb : b = w.heap.size) : (w.alloc (.cells #[u0, u1] T)).cell? ((⟨b, 0, none⟩ : Addr).add 1) = some u1 := by
  rw [Addr.add_lit]; exact (At.new' w #[u0, u1] T hb).cell (i := 1) rfl

/-- The document's Add. -/
def rowAdd (ps : List (Int × Int)) (q c : Int) : List (Int × Int) :=
  ps.filter (fun x => decide (x.1 < q)) ++ (if 0 < (sumP (ps.filter fun x => decide (x.1 = q)) + c) % 18446744073709551616 then [(q, (sumP (ps.filter fun x => decide (x.1 = q)) + c) % 18446744073709551616)] else []) ++ ps.filter (fun x => decide (q < x.1))

theorem filter_take (ps : List (Int × Int)) (p : Int × Int → Bool) (k : Nat) (hk : k < ps.length) : (ps.take (k + 1)).filter p = (ps.take k).filter p ++ (if p (ps[k]'hk) then [ps[k]'hk] else []) := by
  rw [List.take_succ_eq_append_getElem hk, List.filter_append]
  by_cases h : p (ps[k]'hk) = true <;> simp [h]

set_option maxHeartbeats 1000000 in
theorem radd06_any (A : Option Addr) (len cap : Nat) (ps : List (Int × Int)) (q c : Int) (w : World) (hl : ps.length = len) (hm : len ≤ 1048576) (hR : RdP w A ps) (hok : okP ps) (hq : -9223372036854775808 ≤ q ∧ q ≤ 9223372036854775807) (hc : 0 ≤ c ∧ c < 18446744073709551616) :
    Calls Tryz.prog 81 #[.slice A len cap, .int .i64 q, .int .u64 c] w fun e w' => ∃ A' cap', e = .returned (.slice A' (rowAdd ps q c).length cap') ∧ Own2 w.heap.size w' A' cap' (rowAdd ps q c) ∧ Below w.heap.size w w' := by
  have HR := Lib.hid hR
  have HO := Lib.hid hok
  obtain ⟨hq0, hq1⟩ := hq
  obtain ⟨hc0, hc1⟩ := hc
  clear hR hok
  go_enter Tryz.func81, Tryz.ntmps81
  go_wp2
  go_loopw [7, 9, 15] (fun o _ i wr => ∃ k n : Nat, ∃ A' cap', k ≤ len ∧ n ≤ k ∧ i = .int .i64 k ∧ o = .slice A' n cap' ∧ Hid (((ps.take k).filter fun x => decide (x.1 < q)).length = n) ∧ Hid (Own2 w.heap.size wr A' cap' ((ps.take k).filter fun x => decide (x.1 < q))) ∧ Below w.heap.size w wr) (fun _ _ i _ => len - (intOf i).toNat)
  case atStart => exact ⟨0, 0, none, 0, by omega, by omega, rfl, rfl, rfl, Own2.nil _ _, Below.refl _ _⟩
  case round =>
    obtain ⟨k, n, A', cap', hk, hn, rfl, rfl, HN, HW, hB⟩ := hrel
    have zB := hB.size
    by_cases hlt : k < len
    · obtain ⟨g, o, rfl, hg, c1, c2⟩ := (HR.out.below hB).at k (by omega)
      obtain ⟨⟨b1, b2⟩, b3, b4⟩ := HO.out.at k (by omega)
      have HF := Lib.hid (filter_take ps (fun x => decide (x.1 < q)) k (by omega))
      obtain ⟨⟨x, y⟩, hx⟩ : ∃ x, ps[k]'(by omega) = x := ⟨_, rfl⟩
      rw [hx] at c1 c2 b1 b2 b3 b4 HF
      clear hx HR HO
      dsimp only at c1 c2 b1 b2 b3 b4 HF
      by_cases hxq : x < q
      · rw [if_pos (decide_eq_true hxq)] at HF
        go_wp2_with (at_builtin; refine wpList_append_pair rfl _ _ rfl w.heap.size A' cap' n _ rfl HN.out (HW.out.below (by repeat (first | with_reducible assumption | with_reducible exact Below.refl _ _ | with_reducible refine Below.drew ?_ | with_reducible refine Below.drewN ?_ _ | with_reducible refine Below.setCell ?_ (by first | omega | (simp; done) | (simp; omega)) _ | with_reducible refine Below.alloc ?_ (by first | omega | (simp; done) | (simp; omega) | (simp [World.setCell]; omega)) _))) _ _ (x, y) rfl (new_two0 (by simp)) (new_two1 (by simp)) (by omega) w (by repeat (first | with_reducible assumption | with_reducible exact Below.refl _ _ | with_reducible refine Below.drew ?_ | with_reducible refine Below.drewN ?_ _ | with_reducible refine Below.setCell ?_ (by first | omega | (simp; done) | (simp; omega)) _ | with_reducible refine Below.alloc ?_ (by first | omega | (simp; done) | (simp; omega) | (simp [World.setCell]; omega)) _)) (by first | omega | (simp; done) | (simp; omega) | (simp [World.setCell]; omega)) ?_; intro A2 cap2 w2 HW2 hB2)
        go_roundw
        case rel =>
          refine ⟨k + 1, n + 1, A2, cap2, by omega, by omega, rfl, rfl, ?_, ?_, hB2⟩
          · show _ = _
            rw [HF.out, List.length_append, HN.out]
            rfl
          · show Own2 _ _ _ _ _
            rw [HF.out]
            exact HW2.out
        case measure => simp [intOf]; omega
      · rw [if_neg (by simpa using hxq)] at HF
        go_wp2
        go_roundw
        case rel =>
          refine ⟨k + 1, n, A', cap', by omega, by omega, rfl, rfl, ?_, ?_, (by repeat (first | with_reducible assumption | with_reducible exact Below.refl _ _ | with_reducible refine Below.drew ?_ | with_reducible refine Below.drewN ?_ _ | with_reducible refine Below.setCell ?_ (by first | omega | (simp; done) | (simp; omega)) _ | with_reducible refine Below.alloc ?_ (by first | omega | (simp; done) | (simp; omega) | (simp [World.setCell]; omega)) _))⟩
          · show _ = _
            rw [HF.out, List.append_nil, HN.out]
          · show Own2 _ _ _ _ _
            rw [HF.out, List.append_nil]
            exact HW.out.below (by repeat (first | with_reducible assumption | with_reducible exact Below.refl _ _ | with_reducible refine Below.drew ?_ | with_reducible refine Below.drewN ?_ _ | with_reducible refine Below.setCell ?_ (by first | omega | (simp; done) | (simp; omega)) _ | with_reducible refine Below.alloc ?_ (by first | omega | (simp; done) | (simp; omega) | (simp [World.setCell]; omega)) _))
        case measure => simp [intOf]; omega
    · have hl1 : ps.take k = ps := List.take_of_length_le (by omega)
      rw [hl1] at HN HW
      clear hl1
      go_wp2_with fail
      refine (count_any A len cap ps q wr hl (by omega) (HR.out.below hB) HO.out).mono ?_
      rintro e w1 ⟨rfl, hb1⟩
      obtain ⟨S, HS⟩ : ∃ S, Hid (sumP (ps.filter fun x => decide (x.1 = q)) = S) := ⟨_, rfl⟩
      rw [HS.out]
      obtain ⟨m, hm'⟩ : ∃ m, S % 18446744073709551616 = m := ⟨_, rfl⟩
      obtain ⟨v, hv⟩ : ∃ v, (S + c) % 18446744073709551616 = v := ⟨_, rfl⟩
      have hw : IntKind.u64.wrap (m + c) = v := by rw [IntKind.wrap_u64]; omega
      have hv0 : 0 ≤ v ∧ v < 18446744073709551616 := by omega
      obtain ⟨hv0, hv1⟩ := hv0
      rw [hm']
      clear hm'
      have hRA : rowAdd ps q c = (ps.filter (fun x => decide (x.1 < q)) ++ (if 0 < v then [(q, v)] else [])) ++ ps.filter (fun x => decide (q < x.1)) := by unfold rowAdd; rw [HS.out, hv]
      have HRA := Lib.hid hRA
      clear hRA HS hv
      have hB1 : Below w.heap.size w w1 := keep1 hB hb1
      have zB1 := hB1.size
      have HW1 := Lib.hid (HW.out.below hb1)
      clear hB HW hb1 zB
      generalize hP : ps.filter (fun x => decide (x.1 < q)) = P0 at *
      by_cases h0 : 0 < v
      · go_wp2_with (at_builtin; refine wpList_append_pair rfl _ _ rfl w.heap.size A' cap' n _ rfl HN.out (HW1.out.below (by repeat (first | with_reducible assumption | with_reducible exact Below.refl _ _ | with_reducible refine Below.drew ?_ | with_reducible refine Below.drewN ?_ _ | with_reducible refine Below.setCell ?_ (by first | omega | (simp; done) | (simp; omega)) _ | with_reducible refine Below.alloc ?_ (by first | omega | (simp; done) | (simp; omega) | (simp [World.setCell]; omega)) _))) _ _ (q, v) rfl (new_two0 (by simp)) (new_two1 (by simp)) (by omega) w (by repeat (first | with_reducible assumption | with_reducible exact Below.refl _ _ | with_reducible refine Below.drew ?_ | with_reducible refine Below.drewN ?_ _ | with_reducible refine Below.setCell ?_ (by first | omega | (simp; done) | (simp; omega)) _ | with_reducible refine Below.alloc ?_ (by first | omega | (simp; done) | (simp; omega) | (simp [World.setCell]; omega)) _)) (by first | omega | (simp; done) | (simp; omega) | (simp [World.setCell]; omega)) ?_; intro A1 cap1 w2 HR1 hB2)
        have HRR : Hid ((P0 ++ [(q, v)]) ++ ps.filter (fun x => decide (q < x.1)) = rowAdd ps q c) := by show _ = _; rw [HRA.out, if_pos h0]
        have HRN : Hid ((P0 ++ [(q, v)]).length = n + 1) := by show _ = _; rw [List.length_append, HN.out]; rfl
        clear HRA HN HW1 hB1 zB1 hP
        generalize P0 ++ [(q, v)] = R at *
        obtain ⟨rn, hrn⟩ : ∃ rn, rn = n + 1 := ⟨_, rfl⟩
        have hrn' : rn ≤ len + 1 := by omega
        rw [← hrn] at HRN ⊢
        clear hrn
        have hB1 := hB2
        go_loopw [7, 12, 43] (fun o _ i wr => ∃ k n : Nat, ∃ A' cap', k ≤ len ∧ n ≤ len + 1 + k ∧ i = .int .i64 k ∧ o = .slice A' n cap' ∧ Hid ((R ++ (ps.take k).filter fun x => decide (q < x.1)).length = n) ∧ Hid (Own2 w.heap.size wr A' cap' (R ++ (ps.take k).filter fun x => decide (q < x.1))) ∧ Below w.heap.size w wr) (fun _ _ i _ => len - (intOf i).toNat)
        case atStart => exact ⟨0, rn, A1, cap1, by omega, by omega, rfl, rfl, (show _ = _ by simpa using HRN.out), (show Own2 _ _ _ _ _ by simpa using HR1.out), hB1⟩
        case round =>
          obtain ⟨k, n, A', cap', hk, hn, rfl, rfl, HN, HW, hB⟩ := hrel
          have zB := hB.size
          by_cases hlt : k < len
          · obtain ⟨g, o, rfl, hg, c1, c2⟩ := (HR.out.below hB).at k (by omega)
            obtain ⟨⟨b1, b2⟩, b3, b4⟩ := HO.out.at k (by omega)
            have HF := Lib.hid (filter_take ps (fun x => decide (q < x.1)) k (by omega))
            obtain ⟨⟨x, y⟩, hx⟩ : ∃ x, ps[k]'(by omega) = x := ⟨_, rfl⟩
            rw [hx] at c1 c2 b1 b2 b3 b4 HF
            clear hx HR HO HR1 HRN
            dsimp only at c1 c2 b1 b2 b3 b4 HF
            by_cases hxq : q < x
            · rw [if_pos (decide_eq_true hxq)] at HF
              go_wp2_with (at_builtin; refine wpList_append_pair rfl _ _ rfl w.heap.size A' cap' n _ rfl HN.out (HW.out.below (by repeat (first | with_reducible assumption | with_reducible exact Below.refl _ _ | with_reducible refine Below.drew ?_ | with_reducible refine Below.drewN ?_ _ | with_reducible refine Below.setCell ?_ (by first | omega | (simp; done) | (simp; omega)) _ | with_reducible refine Below.alloc ?_ (by first | omega | (simp; done) | (simp; omega) | (simp [World.setCell]; omega)) _))) _ _ (x, y) rfl (new_two0 (by simp)) (new_two1 (by simp)) (by omega) w (by repeat (first | with_reducible assumption | with_reducible exact Below.refl _ _ | with_reducible refine Below.drew ?_ | with_reducible refine Below.drewN ?_ _ | with_reducible refine Below.setCell ?_ (by first | omega | (simp; done) | (simp; omega)) _ | with_reducible refine Below.alloc ?_ (by first | omega | (simp; done) | (simp; omega) | (simp [World.setCell]; omega)) _)) (by first | omega | (simp; done) | (simp; omega) | (simp [World.setCell]; omega)) ?_; intro A2 cap2 w2 HW2 hB2)
              go_roundw
              case rel =>
                refine ⟨k + 1, n + 1, A2, cap2, by omega, by omega, rfl, rfl, ?_, ?_, hB2⟩
                · show _ = _
                  rw [HF.out, ← List.append_assoc, List.length_append, HN.out]
                  rfl
                · show Own2 _ _ _ _ _
                  rw [HF.out, ← List.append_assoc]
                  exact HW2.out
              case measure => simp [intOf]; omega
            · rw [if_neg (by simpa using hxq)] at HF
              go_wp2
              go_roundw
              case rel =>
                refine ⟨k + 1, n, A', cap', by omega, by omega, rfl, rfl, ?_, ?_, (by repeat (first | with_reducible assumption | with_reducible exact Below.refl _ _ | with_reducible refine Below.drew ?_ | with_reducible refine Below.drewN ?_ _ | with_reducible refine Below.setCell ?_ (by first | omega | (simp; done) | (simp; omega)) _ | with_reducible refine Below.alloc ?_ (by first | omega | (simp; done) | (simp; omega) | (simp [World.setCell]; omega)) _))⟩
                · show _ = _
                  rw [HF.out, List.append_nil, HN.out]
                · show Own2 _ _ _ _ _
                  rw [HF.out, List.append_nil]
                  exact HW.out.below (by repeat (first | with_reducible assumption | with_reducible exact Below.refl _ _ | with_reducible refine Below.drew ?_ | with_reducible refine Below.drewN ?_ _ | with_reducible refine Below.setCell ?_ (by first | omega | (simp; done) | (simp; omega)) _ | with_reducible refine Below.alloc ?_ (by first | omega | (simp; done) | (simp; omega) | (simp [World.setCell]; omega)) _))
              case measure => simp [intOf]; omega
          · obtain rfl : k = len := by omega
            have hl1 : ps.take k = ps := List.take_of_length_le (by omega)
            rw [hl1, HRR.out] at HN HW
            clear hl1 HR HO
            go_wp2
            go_ret
            exact ⟨A', cap', by rw [HN.out]; rfl, HW.out, hB⟩
      · have HRR : Hid (P0 ++ ps.filter (fun x => decide (q < x.1)) = rowAdd ps q c) := by show _ = _; rw [HRA.out, if_neg h0, List.append_nil]
        have HRN := HN
        have HR1 := HW1
        go_wp2
        clear HRA HN HW1 hP
        generalize P0 = R at *
        obtain ⟨rn, hrn⟩ : ∃ rn, rn = n := ⟨_, rfl⟩
        have hrn' : rn ≤ len + 1 := by omega
        rw [← hrn] at HRN ⊢
        clear hrn
        obtain ⟨A1, hA1⟩ : ∃ A1, A1 = A' := ⟨_, rfl⟩
        obtain ⟨cap1, hc1⟩ : ∃ cap1, cap1 = cap' := ⟨_, rfl⟩
        subst hA1 hc1
        go_loopw [7, 12, 43] (fun o _ i wr => ∃ k n : Nat, ∃ A' cap', k ≤ len ∧ n ≤ len + 1 + k ∧ i = .int .i64 k ∧ o = .slice A' n cap' ∧ Hid ((R ++ (ps.take k).filter fun x => decide (q < x.1)).length = n) ∧ Hid (Own2 w.heap.size wr A' cap' (R ++ (ps.take k).filter fun x => decide (q < x.1))) ∧ Below w.heap.size w wr) (fun _ _ i _ => len - (intOf i).toNat)
        case atStart => exact ⟨0, rn, A1, cap1, by omega, by omega, rfl, rfl, (show _ = _ by simpa using HRN.out), (show Own2 _ _ _ _ _ by simpa using HR1.out), hB1⟩
        case round =>
          obtain ⟨k, n, A', cap', hk, hn, rfl, rfl, HN, HW, hB⟩ := hrel
          have zB := hB.size
          by_cases hlt : k < len
          · obtain ⟨g, o, rfl, hg, c1, c2⟩ := (HR.out.below hB).at k (by omega)
            obtain ⟨⟨b1, b2⟩, b3, b4⟩ := HO.out.at k (by omega)
            have HF := Lib.hid (filter_take ps (fun x => decide (q < x.1)) k (by omega))
            obtain ⟨⟨x, y⟩, hx⟩ : ∃ x, ps[k]'(by omega) = x := ⟨_, rfl⟩
            rw [hx] at c1 c2 b1 b2 b3 b4 HF
            clear hx HR HO HR1 HRN
            dsimp only at c1 c2 b1 b2 b3 b4 HF
            by_cases hxq : q < x
            · rw [if_pos (decide_eq_true hxq)] at HF
              go_wp2_with (at_builtin; refine wpList_append_pair rfl _ _ rfl w.heap.size A' cap' n _ rfl HN.out (HW.out.below (by repeat (first | with_reducible assumption | with_reducible exact Below.refl _ _ | with_reducible refine Below.drew ?_ | with_reducible refine Below.drewN ?_ _ | with_reducible refine Below.setCell ?_ (by first | omega | (simp; done) | (simp; omega)) _ | with_reducible refine Below.alloc ?_ (by first | omega | (simp; done) | (simp; omega) | (simp [World.setCell]; omega)) _))) _ _ (x, y) rfl (new_two0 (by simp)) (new_two1 (by simp)) (by omega) w (by repeat (first | with_reducible assumption | with_reducible exact Below.refl _ _ | with_reducible refine Below.drew ?_ | with_reducible refine Below.drewN ?_ _ | with_reducible refine Below.setCell ?_ (by first | omega | (simp; done) | (simp; omega)) _ | with_reducible refine Below.alloc ?_ (by first | omega | (simp; done) | (simp; omega) | (simp [World.setCell]; omega)) _)) (by first | omega | (simp; done) | (simp; omega) | (simp [World.setCell]; omega)) ?_; intro A2 cap2 w2 HW2 hB2)
              go_roundw
              case rel =>
                refine ⟨k + 1, n + 1, A2, cap2, by omega, by omega, rfl, rfl, ?_, ?_, hB2⟩
                · show _ = _
                  rw [HF.out, ← List.append_assoc, List.length_append, HN.out]
                  rfl
                · show Own2 _ _ _ _ _
                  rw [HF.out, ← List.append_assoc]
                  exact HW2.out
              case measure => simp [intOf]; omega
            · rw [if_neg (by simpa using hxq)] at HF
              go_wp2
              go_roundw
              case rel =>
                refine ⟨k + 1, n, A', cap', by omega, by omega, rfl, rfl, ?_, ?_, (by repeat (first | with_reducible assumption | with_reducible exact Below.refl _ _ | with_reducible refine Below.drew ?_ | with_reducible refine Below.drewN ?_ _ | with_reducible refine Below.setCell ?_ (by first | omega | (simp; done) | (simp; omega)) _ | with_reducible refine Below.alloc ?_ (by first | omega | (simp; done) | (simp; omega) | (simp [World.setCell]; omega)) _))⟩
                · show _ = _
                  rw [HF.out, List.append_nil, HN.out]
                · show Own2 _ _ _ _ _
                  rw [HF.out, List.append_nil]
                  exact HW.out.below (by repeat (first | with_reducible assumption | with_reducible exact Below.refl _ _ | with_reducible refine Below.drew ?_ | with_reducible refine Below.drewN ?_ _ | with_reducible refine Below.setCell ?_ (by first | omega | (simp; done) | (simp; omega)) _ | with_reducible refine Below.alloc ?_ (by first | omega | (simp; done) | (simp; omega) | (simp [World.setCell]; omega)) _))
              case measure => simp [intOf]; omega
          · obtain rfl : k = len := by omega
            have hl1 : ps.take k = ps := List.take_of_length_le (by omega)
            rw [hl1, HRR.out] at HN HW
            clear hl1 HR HO
            go_wp2
            go_ret
            exact ⟨A', cap', by rw [HN.out]; rfl, HW.out, hB⟩
end Go.Proofs.YtondkkhagbcadaaGreat
