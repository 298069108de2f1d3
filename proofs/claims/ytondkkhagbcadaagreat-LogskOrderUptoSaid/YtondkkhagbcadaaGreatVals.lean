/- Contracts of the document's functions over values and how often each was put: Up, Ends. -/
import Derived.Test.YtondkkhagbcadaaGreatProg
import Derived.Test.YtondkkhagbcadaaGreatRow
namespace Go.Proofs.YtondkkhagbcadaaGreat
open Go.RowKit

/-- How many values there are up to one; the least and the greatest of values. -/
def upV (l : List (Int × Int)) (x : Int) : Int := sumP (l.filter fun v => decide (v.1 ≤ x))
def lowV (a : Int) (l : List (Int × Int)) : Int := l.foldl (fun m v => min m v.1) a
def highV (a : Int) (l : List (Int × Int)) : Int := l.foldl (fun m v => max m v.1) a
theorem lowV_take (a : Int) (l : List (Int × Int)) (k : Nat) (hk : k < l.length) : lowV a (l.take (k + 1)) = min (lowV a (l.take k)) (l[k]'hk).1 := by
  unfold lowV; rw [List.take_succ_eq_append_getElem hk, List.foldl_append]; rfl
theorem highV_take (a : Int) (l : List (Int × Int)) (k : Nat) (hk : k < l.length) : highV a (l.take (k + 1)) = max (highV a (l.take k)) (l[k]'hk).1 := by
  unfold highV; rw [List.take_succ_eq_append_getElem hk, List.foldl_append]; rfl
theorem vsum_filter {l : List (Int × Int)} (h : ∀ x ∈ l, 0 < x.2) (p : Int × Int → Bool) : 0 ≤ sumP (l.filter p) ∧ sumP (l.filter p) ≤ sumP l := by
  induction l with
  | nil => exact ⟨Int.le_refl _, Int.le_refl _⟩
  | cons x l ih =>
    have h1 := ih fun y hy => h y (by simp [hy])
    have h2 := h x (by simp)
    rw [List.filter_cons]
    split
    · unfold sumP at *; simp only [List.map_cons, List.sum_cons]; omega
    · unfold sumP at *; simp only [List.map_cons, List.sum_cons]; omega
theorem vsum_take {l : List (Int × Int)} (h : ∀ x ∈ l, 0 < x.2) (k : Nat) : 0 ≤ sumP (l.take k) ∧ sumP (l.take k) ≤ sumP l := by
  have e : sumP l = sumP (l.take k) + sumP (l.drop k) := by
    conv => lhs; rw [← List.take_append_drop k l]
    unfold sumP
    rw [List.map_append, List.sum_append]
  have h1 := vsum_filter (l := l.take k) (fun x hx => h x (List.mem_of_mem_take hx)) (fun _ => true)
  have h2 := vsum_filter (l := l.drop k) (fun x hx => h x (List.mem_of_mem_drop hx)) (fun _ => true)
  omega


theorem vends_nil (A : Option Addr) (cap : Nat) (w : World) :
    Calls Tryz.prog 45 #[.slice A 0 cap] w fun e w' => e = .returned (.tuple #[.int .i64 0, .int .i64 0, .bool false]) ∧ Below w.heap.size w w' := by
  go_enter Tryz.func45, Tryz.ntmps45
  go_wp2
  go_ret3
  exact ⟨rfl, Below.refl _ _⟩
theorem vends_any (A : Option Addr) (len cap : Nat) (l : List (Int × Int)) (w : World) (hl : l.length = len) (hm : len ≤ 1048576) (h0 : 0 < len) (hR : RdP w A l) :
    Calls Tryz.prog 45 #[.slice A len cap] w fun e w' => e = .returned (.tuple #[.int .i64 (lowV (l.headD (0, 0)).1 l), .int .i64 (highV (l.headD (0, 0)).1 l), .bool true]) ∧ Below w.heap.size w w' := by
  have HR := Lib.hid hR
  have HL := Lib.hid hl
  obtain ⟨g, o, rfl, hg, c1, c2⟩ := hR.at 0 (by omega)
  have he : l[0]'(by omega) = l.headD (0, 0) := by
    cases l with
    | nil => simp at hl; omega
    | cons x l => rfl
  rw [he] at c1
  obtain ⟨a, ha⟩ : ∃ a, (l.headD (0, 0)).1 = a := ⟨_, rfl⟩
  rw [ha] at c1 ⊢
  rw [Nat.zero_mul, Nat.add_zero] at c1
  have hne : ((len : Int) == 0) = false := beq_eq_false_iff_ne.2 (by omega)
  have k1 : (0 : Int) < len := by omega
  clear hR hl c2 he ha
  go_enter Tryz.func45, Tryz.ntmps45
  go_wp2
  clear hne k1 c1
  go_loopw [5, 6, 8, 22] (fun u v _ i wr => ∃ k : Nat, k ≤ len ∧ i = .int .i64 k ∧ u = .int .i64 (lowV a (l.take k)) ∧ v = .int .i64 (highV a (l.take k)) ∧ Below w.heap.size w wr) (fun _ _ _ i _ => len - (intOf i).toNat)
  case atStart => exact ⟨0, by omega, rfl, rfl, rfl, Below.refl _ _⟩
  case round =>
    obtain ⟨k, hk, rfl, rfl, rfl, hB⟩ := hrel
    have zB := hB.size
    by_cases hlt : k < len
    · obtain ⟨g', o', e, hg', c1, c2⟩ := (HR.out.below hB).at k (by have := HL.out; omega)
      cases e
      have H1 := Lib.hid (lowV_take a l k (by have := HL.out; omega))
      have H2 := Lib.hid (highV_take a l k (by have := HL.out; omega))
      obtain ⟨⟨y1, y2⟩, hy⟩ : ∃ y, l[k]'(by have := HL.out; omega) = y := ⟨_, rfl⟩
      rw [hy] at c1 c2 H1 H2
      clear hy HR
      dsimp only at c1 c2 H1 H2
      go_wp2
      go_roundw
      case rel => exact ⟨k + 1, by omega, by simp, by rw [H1.out]; first | rfl | (simp only [Value.int.injEq, true_and]; split <;> omega), by rw [H2.out]; first | rfl | (simp only [Value.int.injEq, true_and]; split <;> omega), (by repeat (first | with_reducible assumption | with_reducible exact Below.refl _ _ | with_reducible refine Below.drew ?_ | with_reducible refine Below.drewN ?_ _ | with_reducible refine Below.setCell ?_ (by first | omega | (simp; done) | (simp; omega)) _ | with_reducible refine Below.alloc ?_ (by first | omega | (simp; done) | (simp; omega) | (simp [World.setCell]; omega)) _))⟩
      case measure => simp [intOf]; omega
    · obtain rfl : k = len := by omega
      have H1 : Hid (l.take k = l) := List.take_of_length_le (by have := HL.out; omega)
      rw [H1.out]
      clear HR H1
      go_wp2
      go_ret3
      exact ⟨rfl, hB⟩
end Go.Proofs.YtondkkhagbcadaaGreat
