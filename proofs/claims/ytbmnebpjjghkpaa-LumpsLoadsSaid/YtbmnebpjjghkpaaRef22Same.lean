/- Contracts of the document's lumps: Same, Good; the statements' plain. -/
import Derived.Test.YtbmnebpjjghkpaaProg
import Derived.Test.YtbmnebpjjghkpaaRef22Put
import Derived.Test.YtbmnebpjjghkpaaLumpLoad
namespace Go.Proofs.Ytbmnebpjjghkpaa
open Go.RowKit

theorem ltake_snoc_ne {ps qs : List Lu} {k : Nat} (h1 : k < ps.length) (h2 : k < qs.length) (h : ps[k]'h1 ≠ qs[k]'h2) : ps ≠ qs := fun e => by subst e; exact h rfl
/-- A call that says whether. -/
def SaysL (P : Prop) (e : Ending) : Prop := ∃ bv, e = .returned (.bool bv) ∧ (bv = true ↔ P)
theorem sayl_yes {P : Prop} (h : P) : SaysL P (.returned (.bool true)) := ⟨_, rfl, fun _ => h, fun _ => rfl⟩
theorem sayl_no {P : Prop} (h : ¬ P) : SaysL P (.returned (.bool false)) := ⟨_, rfl, fun e => (by cases e), fun k => absurd k h⟩

set_option maxHeartbeats 1000000 in
theorem ksame_any (A B : Option Addr) (len cap len' cap' : Nat) (ps qs : List Lu) (w : World) (hl : ps.length = len) (hl' : qs.length = len') (hm : len ≤ 9223372036854775807) (hm' : len' ≤ 9223372036854775807) (hR : RdL w A ps) (hR' : RdL w B qs) :
    Calls Try.prog 13 #[.slice A len cap, .slice B len' cap'] w fun e w' => e = .returned (.bool (decide (ps = qs))) ∧ Below w.heap.size w w' := by
  have HR := Lib.hid hR
  have HR' := Lib.hid hR'
  clear hR hR'
  by_cases hll : len = len'
  · subst hll
    go_enter Try.func13, Try.ntmps13
    go_wp2
    go_loopw [5, 13] (fun _ i wr => ∃ k : Nat, k ≤ len ∧ i = .int .i64 k ∧ Hid (ps.take k = qs.take k) ∧ Below w.heap.size w wr) (fun _ i _ => len - (intOf i).toNat)
    case atStart => exact ⟨0, by omega, rfl, rfl, Below.refl _ _⟩
    case round =>
      obtain ⟨k, hk, rfl, HF, hB⟩ := hrel
      have zB := hB.size
      by_cases hlt : k < len
      · obtain ⟨g, o, rfl, hg, c1, c2, c3⟩ := (HR.out.below hB).at k (by omega)
        obtain ⟨g', o', rfl, hg', d1, d2, d3⟩ := (HR'.out.below hB).at k (by omega)
        obtain ⟨⟨x, y, z⟩, hx⟩ : ∃ x, ps[k]'(by omega) = x := ⟨_, rfl⟩
        obtain ⟨⟨x', y', z'⟩, hx'⟩ : ∃ x, qs[k]'(by omega) = x := ⟨_, rfl⟩
        rw [hx] at c1 c2 c3
        rw [hx'] at d1 d2 d3
        have HN := Lib.hid (show (x, y, z) = (x', y', z') → ps.take (k + 1) = qs.take (k + 1) from fun e => by
          rw [List.take_succ_eq_append_getElem (by omega), List.take_succ_eq_append_getElem (by omega), HF.out, hx, hx', e])
        have HM := Lib.hid (show (x, y, z) ≠ (x', y', z') → ps ≠ qs from fun e => ltake_snoc_ne (k := k) (by omega) (by omega) (by rw [hx, hx']; exact e))
        clear hx hx' HR HR' HF
        dsimp only at c1 c2 c3 d1 d2 d3
        by_cases e1 : x = x'
        · subst e1
          by_cases e2 : y = y'
          · subst e2
            by_cases e3 : z = z'
            · subst e3
              have HN' := Lib.hid (HN.out rfl)
              clear HN HM
              go_wp2
              go_quiet (fail)
              go_wp2
              go_roundw
              case rel => exact ⟨k + 1, by omega, rfl, HN', hB.drewN _⟩
              case measure => simp [intOf]; omega
            · have e3' : (z == z') = false := beq_eq_false_iff_ne.2 e3
              have hne := HM.out (fun e => e3 (by simpa using e))
              replace hne := Lib.hid (decide_eq_false hne)
              clear HM HN
              go_wp2
              go_quiet (fail)
              go_wp2
              go_ret
              exact ⟨by rw [hne.out]; rfl, hB.drewN _⟩
          · have e2' : (y == y') = false := beq_eq_false_iff_ne.2 e2
            have hne := HM.out (fun e => e2 (by simp only [Prod.mk.injEq, true_and] at e; exact e.1))
            replace hne := Lib.hid (decide_eq_false hne)
            clear HM HN
            go_wp2
            go_quiet (fail)
            go_wp2
            go_ret
            exact ⟨by rw [hne.out]; rfl, hB.drewN _⟩
        · have e1' : (x == x') = false := beq_eq_false_iff_ne.2 e1
          have hne := HM.out (fun e => e1 (by simp only [Prod.mk.injEq] at e; exact e.1))
          replace hne := Lib.hid (decide_eq_false hne)
          clear HM HN
          go_wp2
          go_quiet (fail)
          go_wp2
          go_ret
          exact ⟨by rw [hne.out]; rfl, hB.drewN _⟩
      · obtain rfl : k = len := by omega
        have h := HF.out
        rw [List.take_of_length_le (by omega), List.take_of_length_le (by omega)] at h
        replace h := Lib.hid (decide_eq_true h)
        clear HR HR' HF
        go_wp2
        go_ret
        exact ⟨by rw [h.out]; rfl, hB⟩
  · have hne : ps ≠ qs := fun e => hll (by rw [← hl, ← hl', e])
    rw [decide_eq_false hne]
    have hll' : ((len : Int) == len') = false := beq_eq_false_iff_ne.2 (by omega)
    clear hne
    go_enter Try.func13, Try.ntmps13
    go_wp2
    go_ret
    exact ⟨rfl, Below.refl _ _⟩

/-- A row of the document's lumps, new. -/
def PlnR (ps : List Lu) (w : World) (e : Ending) (w' : World) : Prop := ∃ A' c', e = .returned (.slice A' ps.length c') ∧ Own3D w.heap.size w' A' c' ps ∧ Below w.heap.size w w'
set_option maxHeartbeats 1000000 in
theorem plain_any (A : Option Addr) (len cap : Nat) (ls : List Lu) (w : World) (hl : ls.length = len) (hm : len ≤ 1048576) (hR : RdL w A ls) :
    Calls Try.prog 14 #[.slice A len cap] w fun e w' => PlnR ls w e w' := by
  have HR := Lib.hid hR
  have HLN := Lib.hid hl
  clear hR hl
  go_enter Try.func14, Try.ntmps14
  go_wp2
  go_loopw [3, 5, 8] (fun o _ i wr => ∃ k : Nat, ∃ A' cap', k ≤ len ∧ i = .int .i64 k ∧ o = .slice A' k cap' ∧ Hid (Own3D w.heap.size wr A' cap' (ls.take k)) ∧ Hid (Below w.heap.size w wr)) (fun _ _ i _ => len - (intOf i).toNat)
  case atStart => exact ⟨0, none, 0, by omega, rfl, rfl, Own3D.nil _ _, Below.refl _ _⟩
  case round =>
    obtain ⟨k, A', cap', hk, rfl, rfl, HO, HB⟩ := hrel
    have zB := HB.out.size
    by_cases hlt : k < len
    · obtain ⟨g, o, rfl, hg, c1, c2, c3⟩ := (HR.out.below HB.out).at k (by have := HLN.out; omega)
      have HT : Hid (ls.take (k + 1) = ls.take k ++ [ls[k]'(by have := HLN.out; omega)]) := List.take_succ_eq_append_getElem (by have := HLN.out; omega)
      obtain ⟨⟨x, y, z⟩, hx⟩ : ∃ x, ls[k]'(by have := HLN.out; omega) = x := ⟨_, rfl⟩
      rw [hx] at c1 c2 c3 HT
      clear hx HR
      dsimp only at c1 c2 c3
      have hkl : (ls.take k).length = k := by rw [List.length_take]; have := HLN.out; omega
      have HKL := Lib.hid hkl
      clear hkl
      go_wp2_with (at_builtin; refine wpList_append_lumpD2 rfl _ _ rfl w.heap.size A' cap' k _ rfl HKL.out (HO.out.below (by repeat (first | with_reducible assumption | with_reducible exact Below.refl _ _ | with_reducible refine Below.drew ?_ | with_reducible refine Below.drewN ?_ _ | with_reducible refine Below.setCell ?_ (by first | omega | (simp; done) | (simp; omega)) _ | with_reducible refine Below.alloc ?_ (by first | omega | (simp; done) | (simp; omega) | (simp [World.setCell]; omega)) _))) _ _ (x, y, z) rfl (new_three0 (by simp)) (new_three1 (by simp)) (new_three2 (by simp)) (by omega) (by simp; omega) ?_; intro A2 cap2 w4 HW2 HGB)
      have HB4 : Hid (Below w.heap.size w w4) := by
        refine Below.grown (w' := w4) ?_ HGB.out (by simp; omega) (fun k hk => ?_)
        · exact (HB.out.alloc (by omega) _).alloc (by simp; omega) _
        · cases A' with
          | none => simp [Value.ownBlock] at hk
          | some a => simp only [Value.ownBlock, Option.some.injEq] at hk; have := (HO.out.base_le a rfl).1; omega
      rw [← HT.out] at HW2
      go_roundw
      case rel => exact ⟨k + 1, A2, cap2, by omega, by simp, rfl, HW2, HB4⟩
      case measure => simp [intOf]; omega
    · obtain rfl : k = len := by omega
      have h1 := HO.out
      rw [List.take_of_length_le (by have := HLN.out; omega)] at h1
      have HE : Hid (PlnR ls w (.returned (.slice A' k cap')) wr) := ⟨A', cap', by rw [HLN.out], h1, HB.out⟩
      clear HR HO h1
      go_wp2
      go_ret
      exact HE.out
end Go.Proofs.Ytbmnebpjjghkpaa

