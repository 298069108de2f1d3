/- Contracts of runs.Good and of the document's Good: can a row be? -/
import Derived.Test.YtplfiheejecjiaaGreatDoorProg
import Derived.Test.YtplfiheejecjiaaGreatDoorPairsR
import Derived.BigQuiet
import Derived.Deep.QuietTactic
namespace Go.Proofs.YtplfiheejecjiaaGreatDoor
open Go.RowKit

/-- A row that can be. -/
structure GdM (ps : List (Int × Int)) : Prop where
  gd : Gd ps
  mx : ∀ x ∈ ps, x.2 ≤ 9223372036854775807
theorem GdM.nil : GdM [] := ⟨Gd.nil, fun _ h => by simp at h⟩
theorem GdM.take {ps : List (Int × Int)} (h : GdM ps) (k : Nat) : GdM (ps.take k) :=
  ⟨⟨h.gd.srt.sublist (List.take_sublist _ _), fun x hx => h.gd.pos x (List.mem_of_mem_take hx)⟩, fun x hx => h.mx x (List.mem_of_mem_take hx)⟩
theorem GdM.step {ps : List (Int × Int)} {k : Nat} (hk : k < ps.length) : GdM (ps.take (k + 1)) ↔ GdM (ps.take k) ∧ 0 < (ps[k]'hk).2 ∧ (ps[k]'hk).2 ≤ 9223372036854775807 ∧ ∀ j (hj : j + 1 = k), (ps[j]'(by omega)).1 < (ps[k]'hk).1 := by
  have hm : ps[k]'hk ∈ ps.take (k + 1) := by have := List.getElem_mem (l := ps.take (k + 1)) (n := k) (by rw [List.length_take]; omega); rwa [List.getElem_take] at this
  constructor
  · intro h
    refine ⟨by have := h.take k; rwa [List.take_take, Nat.min_eq_left (by omega)] at this, h.gd.pos _ hm, h.mx _ hm, fun j hj => ?_⟩
    have h1 := List.pairwise_iff_getElem.1 h.gd.srt j k (by rw [List.length_take]; omega) (by rw [List.length_take]; omega) (by omega)
    simpa using h1
  · rintro ⟨h, h1, h2, h3⟩
    rw [List.take_succ_eq_append_getElem hk]
    refine ⟨⟨List.pairwise_append.2 ⟨h.gd.srt, by simp, fun x hx y hy => ?_⟩, fun x hx => ?_⟩, fun x hx => ?_⟩
    · simp only [List.mem_singleton] at hy
      subst hy
      obtain ⟨i, hi, rfl⟩ := List.getElem_of_mem hx
      rw [List.length_take] at hi
      rw [List.getElem_take]
      obtain ⟨j, rfl⟩ : ∃ j, k = j + 1 := ⟨k - 1, by omega⟩
      have h4 := h3 j rfl
      by_cases e : i = j
      · subst e; exact h4
      · have h5 := List.pairwise_iff_getElem.1 h.gd.srt i j (by rw [List.length_take]; omega) (by rw [List.length_take]; omega) (by omega)
        rw [List.getElem_take, List.getElem_take] at h5
        omega
    · rcases List.mem_append.1 hx with hx | hx
      · exact h.gd.pos x hx
      · simp only [List.mem_singleton] at hx; subst hx; exact h1
    · rcases List.mem_append.1 hx with hx | hx
      · exact h.mx x hx
      · simp only [List.mem_singleton] at hx; subst hx; exact h2
theorem GdM.no {ps : List (Int × Int)} {k : Nat} (h : ¬ GdM (ps.take (k + 1))) : ¬ GdM ps := fun g => h (g.take _)

/-- A call that says whether. -/
def SaysP (P : Prop) (e : Ending) : Prop := ∃ bv, e = .returned (.bool bv) ∧ (bv = true ↔ P)
theorem says_yes {P : Prop} (h : P) : SaysP P (.returned (.bool true)) := ⟨_, rfl, fun _ => h, fun _ => rfl⟩
theorem says_no {P : Prop} (h : ¬ P) : SaysP P (.returned (.bool false)) := ⟨_, rfl, fun e => (by cases e), fun k => absurd k h⟩

set_option maxRecDepth 100000 in
set_option maxHeartbeats 1000000 in
theorem good_any (A : Option Addr) (len cap : Nat) (ps : List (Int × Int)) (most : Int) (w : World) (hl : ps.length = len) (hm : len ≤ 9223372036854775807) (hR : RdP w A ps) (hok : okP ps) :
    Calls Tryz.prog 81 #[.slice A len cap, .int .i64 most] w fun e w' => SaysP (GdM ps ∧ (len : Int) ≤ most) e ∧ Below w.heap.size w w' := by
  have HR := Lib.hid hR
  have HO := Lib.hid hok
  clear hR hok
  go_enter Tryz.func81, Tryz.ntmps81
  go_wp2
  go_loopw [5, 6, 9] (fun _ _ i wr => ∃ k : Nat, k ≤ len ∧ i = .int .i64 k ∧ Hid (GdM (ps.take k)) ∧ Below w.heap.size w wr) (fun _ _ i _ => len - (intOf i).toNat)
  case atStart => exact ⟨0, by omega, rfl, GdM.nil, Below.refl _ _⟩
  case round =>
    obtain ⟨k, hk, rfl, HG, hB⟩ := hrel
    have zB := hB.size
    by_cases hlt : k < len
    · obtain ⟨g, o, rfl, hg, c1, c2⟩ := (HR.out.below hB).at k (by omega)
      obtain ⟨⟨b1, b2⟩, b3, b4⟩ := HO.out.at k (by omega)
      have HS := Lib.hid (GdM.step (ps := ps) (k := k) (by omega))
      obtain ⟨⟨x, y⟩, hx⟩ : ∃ x, ps[k]'(by omega) = x := ⟨_, rfl⟩
      rw [hx] at c1 c2 b1 b2 b3 b4 HS
      dsimp only at c1 c2 b1 b2 b3 b4 HS
      clear hx
      by_cases h0 : y = 0
      · subst h0
        have HN : Hid (¬ GdM ps) := GdM.no (k := k) fun h => by have := (HS.out.1 h).2.1; omega
        clear HS HR HO HG
        go_wp2
        go_quiet (fail)
        go_wp2
        go_ret
        exact ⟨says_no fun h => HN.out h.1, (by repeat (first | with_reducible assumption | with_reducible exact Below.refl _ _ | with_reducible refine Below.drew ?_ | with_reducible refine Below.drewN ?_ _ | with_reducible refine Below.setCell ?_ (by first | omega | (simp; done) | (simp; omega)) _ | with_reducible refine Below.alloc ?_ (by first | omega | (simp; done) | (simp; omega) | (simp [World.setCell]; omega)) _))⟩
      · have h0' : (y == 0) = false := beq_eq_false_iff_ne.2 h0
        by_cases h1 : 9223372036854775807 < y
        · have HN : Hid (¬ GdM ps) := GdM.no (k := k) fun h => by have := (HS.out.1 h).2.2.1; omega
          clear HS HR HO HG
          go_wp2
          go_quiet (fail)
          go_wp2
          go_ret
          exact ⟨says_no fun h => HN.out h.1, (by repeat (first | with_reducible assumption | with_reducible exact Below.refl _ _ | with_reducible refine Below.drew ?_ | with_reducible refine Below.drewN ?_ _ | with_reducible refine Below.setCell ?_ (by first | omega | (simp; done) | (simp; omega)) _ | with_reducible refine Below.alloc ?_ (by first | omega | (simp; done) | (simp; omega) | (simp [World.setCell]; omega)) _))⟩
        · by_cases hk0 : k = 0
          · have HG2 : Hid (GdM (ps.take (k + 1))) := HS.out.2 ⟨HG.out, by omega, by omega, fun j hj => by omega⟩
            have hd1 : decide (9223372036854775807 < y) = false := decide_eq_false h1
            have hd0 : decide ((0 : Int) < k) = false := decide_eq_false (by omega)
            have hd3 : decide (0 < k) = false := decide_eq_false (by omega)
            clear h1
            clear HS HR HO HG hk0
            go_wp2
            go_quiet (fail)
            go_wp2
            go_roundw
            case rel => exact ⟨k + 1, by omega, by simp, HG2, (by repeat (first | with_reducible assumption | with_reducible exact Below.refl _ _ | with_reducible refine Below.drew ?_ | with_reducible refine Below.drewN ?_ _ | with_reducible refine Below.setCell ?_ (by first | omega | (simp; done) | (simp; omega)) _ | with_reducible refine Below.alloc ?_ (by first | omega | (simp; done) | (simp; omega) | (simp [World.setCell]; omega)) _))⟩
            case measure => simp [intOf]; omega
          · obtain ⟨j, rfl⟩ : ∃ j, k = j + 1 := ⟨k - 1, by omega⟩
            obtain ⟨g', o', e, hg', d1, d2⟩ := (HR.out.below hB).at j (by omega)
            cases e
            obtain ⟨⟨x', y'⟩, hx'⟩ : ∃ x, ps[j]'(by omega) = x := ⟨_, rfl⟩
            have HJ : Hid (∀ i (hi : i + 1 = j + 1), (ps[i]'(by omega)).1 = x') := fun i hi => by
              obtain rfl : i = j := by omega
              rw [hx']
            rw [hx'] at d1
            dsimp only at d1
            have v1 : IntKind.i64.wrap (((j + 1 : Nat) : Int) - 1) = j := by simp only [IntKind.wrap_i64]; omega
            have k0 : (0 : Int) < ((j + 1 : Nat) : Int) := by omega
            have k1 : (j : Int) < len := by omega
            have k2 : (0 : Int) ≤ j := by omega
            have hd1 : decide (9223372036854775807 < y) = false := decide_eq_false h1
            clear hx' d2
            by_cases hxx : x ≤ x'
            · have HN : Hid (¬ GdM ps) := GdM.no (k := j + 1) fun h => by have := (HS.out.1 h).2.2.2 j rfl; rw [HJ.out j rfl] at this; omega
              clear HS HR HO HG HJ hk0
              go_wp2
              go_quiet (fail)
              go_wp2
              go_ret
              exact ⟨says_no fun h => HN.out h.1, (by repeat (first | with_reducible assumption | with_reducible exact Below.refl _ _ | with_reducible refine Below.drew ?_ | with_reducible refine Below.drewN ?_ _ | with_reducible refine Below.setCell ?_ (by first | omega | (simp; done) | (simp; omega)) _ | with_reducible refine Below.alloc ?_ (by first | omega | (simp; done) | (simp; omega) | (simp [World.setCell]; omega)) _))⟩
            · have HG2 : Hid (GdM (ps.take (j + 1 + 1))) := HS.out.2 ⟨HG.out, by omega, by omega, fun i hi => by rw [HJ.out i hi]; omega⟩
              have hd2 : decide (x ≤ x') = false := decide_eq_false hxx
              clear HS HR HO HG HJ hk0
              go_wp2
              go_quiet (fail)
              go_wp2
              go_roundw
              case rel => exact ⟨j + 1 + 1, by omega, by simp, HG2, (by repeat (first | with_reducible assumption | with_reducible exact Below.refl _ _ | with_reducible refine Below.drew ?_ | with_reducible refine Below.drewN ?_ _ | with_reducible refine Below.setCell ?_ (by first | omega | (simp; done) | (simp; omega)) _ | with_reducible refine Below.alloc ?_ (by first | omega | (simp; done) | (simp; omega) | (simp [World.setCell]; omega)) _))⟩
              case measure => simp [intOf]; omega
    · obtain rfl : k = len := by omega
      have h := HG.out
      rw [List.take_of_length_le (by omega)] at h
      replace h := Lib.hid h
      clear HR HO HG
      by_cases hlm : (k : Int) ≤ most
      · go_wp2
        go_ret
        exact ⟨says_yes ⟨h.out, hlm⟩, hB⟩
      · go_wp2
        go_ret
        exact ⟨says_no fun e => by have := e.2; omega, hB⟩

set_option maxRecDepth 100000 in
set_option maxHeartbeats 1000000 in
theorem rowgood_any (A : Option Addr) (len cap : Nat) (ps : List (Int × Int)) (w : World) (hl : ps.length = len) (hm : len ≤ 9223372036854775807) (hR : RdP w A ps) (hok : okP ps) :
    Calls Tryz.prog 28 #[.slice A len cap] w fun e w' => SaysP (GdM ps) e ∧ Below w.heap.size w w' := by
  have HR := Lib.hid hR
  have HO := Lib.hid hok
  clear hR hok
  go_enter Tryz.func28, Tryz.ntmps28
  go_wp2
  go_loopw [3, 6] (fun _ i wr => ∃ k : Nat, k ≤ len ∧ i = .int .i64 k ∧ Hid (GdM (ps.take k)) ∧ Below w.heap.size w wr) (fun _ i _ => len - (intOf i).toNat)
  case atStart => exact ⟨0, by omega, rfl, GdM.nil, Below.refl _ _⟩
  case round =>
    obtain ⟨k, hk, rfl, HG, hB⟩ := hrel
    have zB := hB.size
    by_cases hlt : k < len
    · obtain ⟨g, o, rfl, hg, c1, c2⟩ := (HR.out.below hB).at k (by omega)
      obtain ⟨⟨b1, b2⟩, b3, b4⟩ := HO.out.at k (by omega)
      have HS := Lib.hid (GdM.step (ps := ps) (k := k) (by omega))
      obtain ⟨⟨x, y⟩, hx⟩ : ∃ x, ps[k]'(by omega) = x := ⟨_, rfl⟩
      rw [hx] at c1 c2 b1 b2 b3 b4 HS
      dsimp only at c1 c2 b1 b2 b3 b4 HS
      clear hx
      by_cases h0 : y < 1
      · have HN : Hid (¬ GdM ps) := GdM.no (k := k) fun h => by have := (HS.out.1 h).2.1; omega
        clear HS HR HO HG
        go_wp2
        go_ret
        exact ⟨says_no HN.out, (by repeat (first | with_reducible assumption | with_reducible exact Below.refl _ _ | with_reducible refine Below.drew ?_ | with_reducible refine Below.drewN ?_ _ | with_reducible refine Below.setCell ?_ (by first | omega | (simp; done) | (simp; omega)) _ | with_reducible refine Below.alloc ?_ (by first | omega | (simp; done) | (simp; omega) | (simp [World.setCell]; omega)) _))⟩
      · by_cases h1 : 9223372036854775807 < y
        · have HN : Hid (¬ GdM ps) := GdM.no (k := k) fun h => by have := (HS.out.1 h).2.2.1; omega
          clear HS HR HO HG
          go_wp2
          go_ret
          exact ⟨says_no HN.out, (by repeat (first | with_reducible assumption | with_reducible exact Below.refl _ _ | with_reducible refine Below.drew ?_ | with_reducible refine Below.drewN ?_ _ | with_reducible refine Below.setCell ?_ (by first | omega | (simp; done) | (simp; omega)) _ | with_reducible refine Below.alloc ?_ (by first | omega | (simp; done) | (simp; omega) | (simp [World.setCell]; omega)) _))⟩
        · by_cases hk0 : k = 0
          · have HG2 : Hid (GdM (ps.take (k + 1))) := HS.out.2 ⟨HG.out, by omega, by omega, fun j hj => by omega⟩
            have hd1 : decide (9223372036854775807 < y) = false := decide_eq_false h1
            have hd0 : decide ((0 : Int) < k) = false := decide_eq_false (by omega)
            have hd3 : decide (0 < k) = false := decide_eq_false (by omega)
            clear h1
            clear HS HR HO HG hk0
            go_wp2
            go_quiet (fail)
            go_wp2
            go_roundw
            case rel => exact ⟨k + 1, by omega, by simp, HG2, (by repeat (first | with_reducible assumption | with_reducible exact Below.refl _ _ | with_reducible refine Below.drew ?_ | with_reducible refine Below.drewN ?_ _ | with_reducible refine Below.setCell ?_ (by first | omega | (simp; done) | (simp; omega)) _ | with_reducible refine Below.alloc ?_ (by first | omega | (simp; done) | (simp; omega) | (simp [World.setCell]; omega)) _))⟩
            case measure => simp [intOf]; omega
          · obtain ⟨j, rfl⟩ : ∃ j, k = j + 1 := ⟨k - 1, by omega⟩
            obtain ⟨g', o', e, hg', d1, d2⟩ := (HR.out.below hB).at j (by omega)
            cases e
            obtain ⟨⟨x', y'⟩, hx'⟩ : ∃ x, ps[j]'(by omega) = x := ⟨_, rfl⟩
            have HJ : Hid (∀ i (hi : i + 1 = j + 1), (ps[i]'(by omega)).1 = x') := fun i hi => by
              obtain rfl : i = j := by omega
              rw [hx']
            rw [hx'] at d1
            dsimp only at d1
            have v1 : IntKind.i64.wrap (((j + 1 : Nat) : Int) - 1) = j := by simp only [IntKind.wrap_i64]; omega
            have k0 : (0 : Int) < ((j + 1 : Nat) : Int) := by omega
            have k1 : (j : Int) < len := by omega
            have k2 : (0 : Int) ≤ j := by omega
            have hd1 : decide (9223372036854775807 < y) = false := decide_eq_false h1
            clear hx' d2
            by_cases hxx : x ≤ x'
            · have HN : Hid (¬ GdM ps) := GdM.no (k := j + 1) fun h => by have := (HS.out.1 h).2.2.2 j rfl; rw [HJ.out j rfl] at this; omega
              have hxx' : decide (x' < x) = false := decide_eq_false (by omega)
              clear HS HR HO HG HJ hk0 hxx
              go_wp2
              go_quiet (fail)
              go_wp2
              go_ret
              exact ⟨says_no HN.out, (by repeat (first | with_reducible assumption | with_reducible exact Below.refl _ _ | with_reducible refine Below.drew ?_ | with_reducible refine Below.drewN ?_ _ | with_reducible refine Below.setCell ?_ (by first | omega | (simp; done) | (simp; omega)) _ | with_reducible refine Below.alloc ?_ (by first | omega | (simp; done) | (simp; omega) | (simp [World.setCell]; omega)) _))⟩
            · have HG2 : Hid (GdM (ps.take (j + 1 + 1))) := HS.out.2 ⟨HG.out, by omega, by omega, fun i hi => by rw [HJ.out i hi]; omega⟩
              have hxx' : x' < x := by omega
              clear HS HR HO HG HJ hk0 hxx
              go_wp2
              go_quiet (fail)
              go_wp2
              go_roundw
              case rel => exact ⟨j + 1 + 1, by omega, by simp, HG2, (by repeat (first | with_reducible assumption | with_reducible exact Below.refl _ _ | with_reducible refine Below.drew ?_ | with_reducible refine Below.drewN ?_ _ | with_reducible refine Below.setCell ?_ (by first | omega | (simp; done) | (simp; omega)) _ | with_reducible refine Below.alloc ?_ (by first | omega | (simp; done) | (simp; omega) | (simp [World.setCell]; omega)) _))⟩
              case measure => simp [intOf]; omega
    · obtain rfl : k = len := by omega
      have h := HG.out
      rw [List.take_of_length_le (by omega)] at h
      replace h := Lib.hid h
      clear HR HO HG
      go_wp2
      go_ret
      exact ⟨says_yes h.out, hB⟩
end Go.Proofs.YtplfiheejecjiaaGreatDoor
