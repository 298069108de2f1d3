/- Rows of pairs, as the document's own functions read and build them: sums of counts, of one index, up to an index; the index of the t-th; the same rows; a row with so many more. -/
import Derived.Test.YtondkkhagbcadaaGreatProg
import Derived.Test.YtondkkhagbcadaaGreatBase
import Derived.Test.YtondkkhagbcadaaGreatOpen
namespace Go.Proofs.YtondkkhagbcadaaGreat
open Go.RowKit

/-- A slice's address leads to these pairs. -/
def RdP (w : World) (A : Option Addr) (ps : List (Int × Int)) : Prop := Rd w A (ps.flatMap fun x => [.int .i64 x.1, .int .u64 x.2])

theorem RdP.below {w w' : World} {A : Option Addr} {ps : List (Int × Int)} (h : RdP w A ps) (hb : Below w.heap.size w w') : RdP w' A ps := Rd.below h hb
theorem RdP.nil (w : World) (A : Option Addr) : RdP w A [] := Rd.nil w A
theorem RdP.at {w : World} {A : Option Addr} {ps : List (Int × Int)} (h : RdP w A ps) (j : Nat) (hj : j < ps.length) :
    ∃ g o, A = some ⟨g, o, none⟩ ∧ g < w.heap.size ∧ w.cell? ⟨g, o + j * 2, none⟩ = some (.int .i64 (ps[j]'hj).1) ∧ w.cell? ⟨g, o + j * 2 + 1, none⟩ = some (.int .u64 (ps[j]'hj).2) := by
  obtain ⟨q0, q1⟩ := flat2 (f := fun x : Int × Int => Value.int .i64 x.1) (g := fun x => Value.int .u64 x.2) ps j hj
  obtain ⟨g, o, rfl, hg, h0⟩ := h _ _ q0
  obtain ⟨g', o', e, _, h1⟩ := h _ _ q1
  simp only [Option.some.injEq, Addr.mk.injEq, and_true] at e
  obtain ⟨rfl, rfl⟩ := e
  exact ⟨g, o, rfl, hg, h0, by rw [← Nat.add_assoc] at h1; exact h1⟩

/-- A pair in its bounds. -/
def okP (ps : List (Int × Int)) : Prop := ∀ x ∈ ps, (-9223372036854775808 ≤ x.1 ∧ x.1 ≤ 9223372036854775807) ∧ (0 ≤ x.2 ∧ x.2 < 18446744073709551616)
theorem okP.at {ps : List (Int × Int)} (h : okP ps) (j : Nat) (hj : j < ps.length) : (-9223372036854775808 ≤ (ps[j]'hj).1 ∧ (ps[j]'hj).1 ≤ 9223372036854775807) ∧ (0 ≤ (ps[j]'hj).2 ∧ (ps[j]'hj).2 < 18446744073709551616) := h _ (List.getElem_mem hj)

def sumP (ps : List (Int × Int)) : Int := (ps.map fun x => x.2).sum
theorem sumP_take (ps : List (Int × Int)) (k : Nat) (hk : k < ps.length) : sumP (ps.take (k + 1)) = sumP (ps.take k) + (ps[k]'hk).2 := by
  unfold sumP
  rw [List.take_succ_eq_append_getElem hk, List.map_append, List.sum_append]
  simp only [List.map_cons, List.map_nil, List.sum_cons, List.sum_nil, Int.add_zero]
theorem sumP_filter_take (ps : List (Int × Int)) (p : Int × Int → Bool) (k : Nat) (hk : k < ps.length) : sumP ((ps.take (k + 1)).filter p) = sumP ((ps.take k).filter p) + (if p (ps[k]'hk) then (ps[k]'hk).2 else 0) := by
  unfold sumP
  rw [List.take_succ_eq_append_getElem hk, List.filter_append, List.map_append, List.sum_append]
  by_cases h : p (ps[k]'hk) = true <;> simp only [List.filter_cons, h, List.filter_nil, if_true, Bool.false_eq_true, if_false, List.map_cons, List.map_nil, List.sum_cons, List.sum_nil, Int.add_zero]

theorem count_any (A : Option Addr) (len cap : Nat) (ps : List (Int × Int)) (q : Int) (w : World) (hl : ps.length = len) (hm : len ≤ 9223372036854775807) (hR : RdP w A ps) (hok : okP ps) :
    Calls Tryz.prog 59 #[.slice A len cap, .int .i64 q] w fun e w' => e = .returned (.int .u64 (sumP (ps.filter fun x => decide (x.1 = q)) % 18446744073709551616)) ∧ Below w.heap.size w w' := by
  have HR := Lib.hid hR
  have HO := Lib.hid hok
  clear hR hok
  go_enter Tryz.func59, Tryz.ntmps59
  go_wp2
  go_loopw [5, 7, 10] (fun n _ i wr => ∃ k : Nat, ∃ m : Int, k ≤ len ∧ 0 ≤ m ∧ m < 18446744073709551616 ∧ n = .int .u64 m ∧ i = .int .i64 k ∧ Hid (m = sumP ((ps.take k).filter fun x => decide (x.1 = q)) % 18446744073709551616) ∧ Below w.heap.size w wr) (fun _ _ i _ => len - (intOf i).toNat)
  case atStart => exact ⟨0, 0, by omega, by omega, by omega, rfl, rfl, rfl, Below.refl _ _⟩
  case round =>
    obtain ⟨k, m, hk, hm0, hm', rfl, rfl, HF, hB⟩ := hrel
    have zB := hB.size
    by_cases hlt : k < len
    · obtain ⟨g, o, rfl, hg, c1, c2⟩ := (HR.out.below hB).at k (by omega)
      obtain ⟨⟨b1, b2⟩, b3, b4⟩ := HO.out.at k (by omega)
      have HS := Lib.hid (sumP_filter_take ps (fun x => decide (x.1 = q)) k (by omega))
      obtain ⟨⟨x, y⟩, hx⟩ : ∃ x, ps[k]'(by omega) = x := ⟨_, rfl⟩
      rw [hx] at c1 c2 b1 b2 b3 b4 HS
      clear hx HR HO
      dsimp only at c1 c2 b1 b2 b3 b4 HS
      by_cases hc : x = q
      · rw [if_pos (decide_eq_true hc)] at HS
        have hc' : (x == q) = true := by simp [hc]
        go_wp2
        go_roundw
        case rel => exact ⟨k + 1, (m + y) % 18446744073709551616, by omega, by omega, by omega, by simp [IntKind.wrap_u64], rfl, Lib.hid (by have h1 := HS.out; have h2 := HF.out; omega), (by repeat (first | with_reducible assumption | with_reducible exact Below.refl _ _ | with_reducible refine Below.drew ?_ | with_reducible refine Below.drewN ?_ _ | with_reducible refine Below.setCell ?_ (by first | omega | (simp; done) | (simp; omega)) _ | with_reducible refine Below.alloc ?_ (by first | omega | (simp; done) | (simp; omega) | (simp [World.setCell]; omega)) _))⟩
        case measure => simp [intOf]; omega
      · rw [if_neg (by simpa using hc)] at HS
        have hc' : (x == q) = false := by simp [hc]
        go_wp2
        go_roundw
        case rel => exact ⟨k + 1, m, by omega, by omega, by omega, rfl, rfl, Lib.hid (by have h1 := HS.out; have h2 := HF.out; omega), (by repeat (first | with_reducible assumption | with_reducible exact Below.refl _ _ | with_reducible refine Below.drew ?_ | with_reducible refine Below.drewN ?_ _ | with_reducible refine Below.setCell ?_ (by first | omega | (simp; done) | (simp; omega)) _ | with_reducible refine Below.alloc ?_ (by first | omega | (simp; done) | (simp; omega) | (simp [World.setCell]; omega)) _))⟩
        case measure => simp [intOf]; omega
    · obtain rfl : k = len := by omega
      have h := HF.out
      rw [List.take_of_length_le (by omega)] at h
      replace h := Lib.hid h
      clear HR HO HF
      go_wp2
      go_ret
      exact ⟨by rw [← h.out]; rfl, hB⟩

/-- The index of the t-th one. -/
def findP (t : Int) : Int → List (Int × Int) → Option Int
  | _, [] => none
  | s, p :: l => if 0 < t ∧ t ≤ (s + p.2) % 18446744073709551616 then some p.1 else findP t ((s + p.2) % 18446744073709551616) l

def optI (o : Option Int) : Value := .tuple #[.int .i64 (o.getD 0), .bool o.isSome]

theorem rfind_any (A : Option Addr) (len cap : Nat) (ps : List (Int × Int)) (t : Int) (w : World) (hl : ps.length = len) (hm : len ≤ 9223372036854775807) (hR : RdP w A ps) (hok : okP ps) (ht : 0 ≤ t ∧ t < 18446744073709551616) :
    Calls Tryz.prog 149 #[.slice A len cap, .int .u64 t] w fun e w' => e = .returned (optI (findP t 0 ps)) ∧ Below w.heap.size w w' := by
  have HR := Lib.hid hR
  have HO := Lib.hid hok
  obtain ⟨ht0, ht1⟩ := ht
  clear hR hok
  go_enter Tryz.func149, Tryz.ntmps149
  go_wp2
  go_loopw [6, 8, 11] (fun n _ i wr => ∃ k : Nat, ∃ m : Int, k ≤ len ∧ 0 ≤ m ∧ m < 18446744073709551616 ∧ n = .int .u64 m ∧ i = .int .i64 k ∧ Hid (findP t 0 ps = findP t m (ps.drop k)) ∧ Below w.heap.size w wr) (fun _ _ i _ => len - (intOf i).toNat)
  case atStart => exact ⟨0, 0, by omega, by omega, by omega, rfl, rfl, rfl, Below.refl _ _⟩
  case round =>
    obtain ⟨k, m, hk, hm0, hm', rfl, rfl, HF, hB⟩ := hrel
    have zB := hB.size
    by_cases hlt : k < len
    · obtain ⟨g, o, rfl, hg, c1, c2⟩ := (HR.out.below hB).at k (by omega)
      obtain ⟨⟨b1, b2⟩, b3, b4⟩ := HO.out.at k (by omega)
      have HD := Lib.hid (List.drop_eq_getElem_cons (show k < ps.length by omega))
      obtain ⟨⟨x, y⟩, hx⟩ : ∃ x, ps[k]'(by omega) = x := ⟨_, rfl⟩
      rw [hx] at c1 c2 b1 b2 b3 b4 HD
      clear hx HR HO
      dsimp only at c1 c2 b1 b2 b3 b4
      have HF' : Hid (findP t 0 ps = if 0 < t ∧ t ≤ (m + y) % 18446744073709551616 then some x else findP t ((m + y) % 18446744073709551616) (ps.drop (k + 1))) := by
        show _ = _
        rw [HF.out, HD.out]
        rfl
      clear HF HD
      obtain ⟨v, hv⟩ : ∃ v, (m + y) % 18446744073709551616 = v := ⟨_, rfl⟩
      have hv0 : 0 ≤ v ∧ v < 18446744073709551616 := by omega
      obtain ⟨hv0, hv1⟩ := hv0
      have hw : IntKind.u64.wrap (m + y) = v := by rw [IntKind.wrap_u64]; exact hv
      rw [hv] at HF'
      clear hv
      by_cases h0 : 0 < t
      · by_cases h1 : t ≤ v
        · have HG := HF'.out
          rw [if_pos ⟨h0, h1⟩] at HG
          replace HG := Lib.hid HG
          clear HF'
          go_wp2
          go_ret2
          exact ⟨by rw [HG.out]; rfl, (by repeat (first | with_reducible assumption | with_reducible exact Below.refl _ _ | with_reducible refine Below.drew ?_ | with_reducible refine Below.drewN ?_ _ | with_reducible refine Below.setCell ?_ (by first | omega | (simp; done) | (simp; omega)) _ | with_reducible refine Below.alloc ?_ (by first | omega | (simp; done) | (simp; omega) | (simp [World.setCell]; omega)) _))⟩
        · have HG := HF'.out
          rw [if_neg (fun h => h1 h.2)] at HG
          clear HF'
          go_wp2
          go_roundw
          case rel => exact ⟨k + 1, v, by omega, hv0, hv1, rfl, rfl, HG, (by repeat (first | with_reducible assumption | with_reducible exact Below.refl _ _ | with_reducible refine Below.drew ?_ | with_reducible refine Below.drewN ?_ _ | with_reducible refine Below.setCell ?_ (by first | omega | (simp; done) | (simp; omega)) _ | with_reducible refine Below.alloc ?_ (by first | omega | (simp; done) | (simp; omega) | (simp [World.setCell]; omega)) _))⟩
          case measure => simp [intOf]; omega
      · have HG := HF'.out
        rw [if_neg (fun h => h0 h.1)] at HG
        clear HF'
        go_wp2
        go_roundw
        case rel => exact ⟨k + 1, v, by omega, hv0, hv1, rfl, rfl, HG, (by repeat (first | with_reducible assumption | with_reducible exact Below.refl _ _ | with_reducible refine Below.drew ?_ | with_reducible refine Below.drewN ?_ _ | with_reducible refine Below.setCell ?_ (by first | omega | (simp; done) | (simp; omega)) _ | with_reducible refine Below.alloc ?_ (by first | omega | (simp; done) | (simp; omega) | (simp [World.setCell]; omega)) _))⟩
        case measure => simp [intOf]; omega
    · obtain rfl : k = len := by omega
      have h := HF.out
      rw [List.drop_of_length_le (by omega)] at h
      replace h := Lib.hid h
      clear HR HO HF
      go_wp2
      go_ret2
      exact ⟨by rw [h.out]; rfl, hB⟩

theorem take_snoc_ne {ps qs : List (Int × Int)} {k : Nat} (h1 : k < ps.length) (h2 : k < qs.length) (h : ps[k]'h1 ≠ qs[k]'h2) : ps ≠ qs := fun e => by subst e; exact h rfl

theorem same_any (A B : Option Addr) (len cap len' cap' : Nat) (ps qs : List (Int × Int)) (w : World) (hl : ps.length = len) (hl' : qs.length = len') (hm : len ≤ 9223372036854775807) (hm' : len' ≤ 9223372036854775807) (hR : RdP w A ps) (hR' : RdP w B qs) :
    Calls Tryz.prog 27 #[.slice A len cap, .slice B len' cap'] w fun e w' => e = .returned (.bool (decide (ps = qs))) ∧ Below w.heap.size w w' := by
  have HR := Lib.hid hR
  have HR' := Lib.hid hR'
  clear hR hR'
  by_cases hll : len = len'
  · subst hll
    go_enter Tryz.func27, Tryz.ntmps27
    go_wp2
    go_loopw [5, 13] (fun _ i wr => ∃ k : Nat, k ≤ len ∧ i = .int .i64 k ∧ Hid (ps.take k = qs.take k) ∧ Below w.heap.size w wr) (fun _ i _ => len - (intOf i).toNat)
    case atStart => exact ⟨0, by omega, rfl, rfl, Below.refl _ _⟩
    case round =>
      obtain ⟨k, hk, rfl, HF, hB⟩ := hrel
      have zB := hB.size
      by_cases hlt : k < len
      · obtain ⟨g, o, rfl, hg, c1, c2⟩ := (HR.out.below hB).at k (by omega)
        obtain ⟨g', o', rfl, hg', d1, d2⟩ := (HR'.out.below hB).at k (by omega)
        obtain ⟨⟨x, y⟩, hx⟩ : ∃ x, ps[k]'(by omega) = x := ⟨_, rfl⟩
        obtain ⟨⟨x', y'⟩, hx'⟩ : ∃ x, qs[k]'(by omega) = x := ⟨_, rfl⟩
        rw [hx] at c1 c2
        rw [hx'] at d1 d2
        have HN := Lib.hid (show (x, y) = (x', y') → ps.take (k + 1) = qs.take (k + 1) from fun e => by
          rw [List.take_succ_eq_append_getElem (by omega), List.take_succ_eq_append_getElem (by omega), HF.out, hx, hx', e])
        have HM := Lib.hid (show (x, y) ≠ (x', y') → ps ≠ qs from fun e => take_snoc_ne (k := k) (by omega) (by omega) (by rw [hx, hx']; exact e))
        clear hx hx' HR HR' HF
        dsimp only at c1 c2 d1 d2
        by_cases e1 : x = x'
        · subst e1
          by_cases e2 : y = y'
          · subst e2
            have HN' := Lib.hid (HN.out rfl)
            clear HN HM
            go_wp2
            go_quiet (fail)
            go_wp2
            go_roundw
            case rel => exact ⟨k + 1, by omega, rfl, HN', hB.drewN _⟩
            case measure => simp [intOf]; omega
          · have e2' : (y == y') = false := beq_eq_false_iff_ne.2 e2
            have hne := HM.out (fun e => e2 (by injection e))
            replace hne := Lib.hid (decide_eq_false hne)
            clear HM HN
            go_wp2
            go_quiet (fail)
            go_wp2
            go_ret
            exact ⟨by rw [hne.out]; rfl, hB.drewN _⟩
        · have e1' : (x == x') = false := beq_eq_false_iff_ne.2 e1
          have hne := HM.out (fun e => e1 (by injection e))
          replace hne := Lib.hid (decide_eq_false hne)
          clear HM HN
          go_wp2
          go_quiet (fail)
          go_wp2
          go_ret
          exact ⟨by rw [hne.out]; rfl, hB.drewN _⟩
      · obtain rfl : k = len := by omega
        have h := HF.out
        rw [List.take_of_length_le (by omega), List.take_of_length_le (by omega)] at h
        replace h := Lib.hid (decide_eq_true h)
        clear HR HR' HF
        go_wp2
        go_ret
        exact ⟨by rw [h.out]; rfl, hB⟩
  · have hne : ps ≠ qs := fun e => hll (by rw [← hl, ← hl', e])
    rw [decide_eq_false hne]
    have hll' : ((len : Int) == len') = false := beq_eq_false_iff_ne.2 (by omega)
    clear hne
    go_enter Tryz.func27, Tryz.ntmps27
    go_wp2
    go_ret
    exact ⟨rfl, Below.refl _ _⟩
end Go.Proofs.YtondkkhagbcadaaGreat
