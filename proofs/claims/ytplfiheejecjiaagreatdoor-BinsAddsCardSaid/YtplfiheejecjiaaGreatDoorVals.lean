/- Contracts of the document's functions over values and how often each was put: Up, Ends. -/
import Derived.Test.YtplfiheejecjiaaGreatDoorProg
import Derived.Test.YtplfiheejecjiaaGreatDoorRow
namespace Go.Proofs.YtplfiheejecjiaaGreatDoor
open Go.RowKit

/-- How many values there are up to one; the least and the greatest of values. -/
def upV (l : List (Int × Int)) (x : Int) : Int := sumP (l.filter fun v => decide (v.1 ≤ x))
def lowV (a : Int) (l : List (Int × Int)) : Int := l.foldl (fun m v => min m v.1) a
def highV (a : Int) (l : List (Int × Int)) : Int := l.foldl (fun m v => max m v.1) a
theorem lowV_take (a : Int) (l : List (Int × Int)) (k : Nat) (hk : k < l.length) : lowV a (l.take (k + 1)) = min (lowV a (l.take k)) (l[k]'hk).1 := by
  unfold lowV; rw [List.take_succ_eq_append_getElem hk, List.foldl_append]; rfl
theorem highV_take (a : Int) (l : List (Int × Int)) (k : Nat) (hk : k < l.length) : highV a (l.take (k + 1)) = max (highV a (l.take k)) (l[k]'hk).1 := by
  unfold highV; rw [List.take_succ_eq_append_getElem hk, List.foldl_append]; rfl
theorem vsum_filter {l : List (Int × Int)} (h : ∀ x ∈ l, 0 < x.2) (p : Int × Int → Bool) : 0 ≤ sumP (l.filter p) ∧ sumP (l.filter p) ≤ sumP l := by
  induction l with
  | nil => exact ⟨Int.le_refl _, Int.le_refl _⟩
  | cons x l ih =>
    have h1 := ih fun y hy => h y (by simp [hy])
    have h2 := h x (by simp)
    rw [List.filter_cons]
    split
    · unfold sumP at *; simp only [List.map_cons, List.sum_cons]; omega
    · unfold sumP at *; simp only [List.map_cons, List.sum_cons]; omega
theorem vsum_take {l : List (Int × Int)} (h : ∀ x ∈ l, 0 < x.2) (k : Nat) : 0 ≤ sumP (l.take k) ∧ sumP (l.take k) ≤ sumP l := by
  have e : sumP l = sumP (l.take k) + sumP (l.drop k) := by
    conv => lhs; rw [← List.take_append_drop k l]
    unfold sumP
    rw [List.map_append, List.sum_append]
  have h1 := vsum_filter (l := l.take k) (fun x hx => h x (List.mem_of_mem_take hx)) (fun _ => true)
  have h2 := vsum_filter (l := l.drop k) (fun x hx => h x (List.mem_of_mem_drop hx)) (fun _ => true)
  omega

theorem up_any (A : Option Addr) (len cap : Nat) (l : List (Int × Int)) (x : Int) (w : World) (hl : l.length = len) (hm : len ≤ 1048576) (hR : RdP w A l) (h : ∀ x ∈ l, 0 < x.2) (hs : sumP l ≤ 9223372036854775807) :
    Calls Tryz.prog 13 #[.slice A len cap, .int .i64 x] w fun e w' => e = .returned (.int .u64 (upV l x)) ∧ Below w.heap.size w w' := by
  have HR := Lib.hid hR
  have H := Lib.hid h
  have HS := Lib.hid hs
  have HL := Lib.hid hl
  clear hR h hs hl
  go_enter Tryz.func13, Tryz.ntmps13
  go_wp2
  go_loopw [5, 7, 10] (fun n _ i wr => ∃ k : Nat, ∃ p : Int, k ≤ len ∧ i = .int .i64 k ∧ n = .int .u64 p ∧ 0 ≤ p ∧ Hid (p = upV (l.take k) x) ∧ Below w.heap.size w wr) (fun _ _ i _ => len - (intOf i).toNat)
  case atStart => exact ⟨0, 0, by omega, rfl, rfl, by omega, rfl, Below.refl _ _⟩
  case round =>
    obtain ⟨k, p, hk, rfl, rfl, hp, HP, hB⟩ := hrel
    have zB := hB.size
    by_cases hlt : k < len
    · obtain ⟨g, o, rfl, hg, c1, c2⟩ := (HR.out.below hB).at k (by have := HL.out; omega)
      have H1 := Lib.hid (sumP_filter_take l (fun v => decide (v.1 ≤ x)) k (by have := HL.out; omega))
      have H2 := Lib.hid (vsum_filter (l := l.take (k + 1)) (fun x hx => H.out x (List.mem_of_mem_take hx)) (fun v => decide (v.1 ≤ x))).2
      have H3 := Lib.hid (vsum_take H.out (k + 1)).2
      have H4 := Lib.hid (H.out _ (List.getElem_mem (show k < l.length by have := HL.out; omega)))
      obtain ⟨⟨y1, y2⟩, hy⟩ : ∃ y, l[k]'(by have := HL.out; omega) = y := ⟨_, rfl⟩
      rw [hy] at c1 c2 H1 H4
      clear hy HR
      dsimp only at c1 c2 H1 H4
      by_cases ha : y1 ≤ x
      · rw [if_pos (decide_eq_true ha)] at H1
        have wa : IntKind.u64.wrap (p + y2) = p + y2 := by have h1 := H1.out; have h2 := H2.out; have h3 := HP.out; have h4 := H3.out; have h5 := HS.out; have h6 := H4.out; unfold upV at h3; simp only [IntKind.wrap_u64]; omega
        go_wp2
        go_roundw
        case rel => exact ⟨k + 1, p + y2, by omega, by simp, rfl, by have := H4.out; omega, by have h1 := H1.out; have h2 := HP.out; show _ = _; unfold upV at h2 ⊢; omega, (by repeat (first | with_reducible assumption | with_reducible exact Below.refl _ _ | with_reducible refine Below.drew ?_ | with_reducible refine Below.drewN ?_ _ | with_reducible refine Below.setCell ?_ (by first | omega | (simp; done) | (simp; omega)) _ | with_reducible refine Below.alloc ?_ (by first | omega | (simp; done) | (simp; omega) | (simp [World.setCell]; omega)) _))⟩
        case measure => simp [intOf]; omega
      · rw [if_neg (by simpa using ha)] at H1
        go_wp2
        go_roundw
        case rel => exact ⟨k + 1, p, by omega, by simp, rfl, hp, by have h1 := H1.out; have h2 := HP.out; show _ = _; unfold upV at h2 ⊢; omega, (by repeat (first | with_reducible assumption | with_reducible exact Below.refl _ _ | with_reducible refine Below.drew ?_ | with_reducible refine Below.drewN ?_ _ | with_reducible refine Below.setCell ?_ (by first | omega | (simp; done) | (simp; omega)) _ | with_reducible refine Below.alloc ?_ (by first | omega | (simp; done) | (simp; omega) | (simp [World.setCell]; omega)) _))⟩
        case measure => simp [intOf]; omega
    · obtain rfl : k = len := by omega
      have h1 := HP.out
      rw [List.take_of_length_le (by have := HL.out; omega)] at h1
      have H1 := Lib.hid h1
      clear HR HP h1
      go_wp2
      go_ret
      exact ⟨by rw [← H1.out]; rfl, hB⟩

end Go.Proofs.YtplfiheejecjiaaGreatDoor
