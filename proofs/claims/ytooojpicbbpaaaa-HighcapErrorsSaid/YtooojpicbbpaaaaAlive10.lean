/- What is played: alive, great, build. -/
import Derived.Test.YtooojpicbbpaaaaProg
import Derived.Test.YtooojpicbbpaaaaRef10
import Derived.Test.YtooojpicbbpaaaaGood
import Derived.Test.YtooojpicbbpaaaaUntil
namespace Go.Proofs.Ytooojpicbbpaaaa
open Go.RowKit

theorem alive_any (w : World) : Calls Try.prog 8 #[] w fun e w' => e = .returned (.bool true) ∧ Below w.heap.size w w' := by
  go_enter Try.func8, Try.ntmps8
  go_wp2_with fail
  refine (lnew_any 2 w (by omega) (by omega)).mono ?_
  rintro e w1 ⟨⟨b, S, rfl, _, hW1, hC⟩, hb⟩
  have hz1 := hb.size
  go_wp2_with fail
  refine (ladd_any _ _ _ _ 5 1 _ w1 hC (by omega) (by omega) (by omega)).mono ?_
  rintro e w2 ⟨rfl, S2, hg2, hC2, hF2⟩
  rw [show capRow sd 2 [] 5 1 = [(5, 1)] by decide] at hC2
  have hb2 : Below w.heap.size w w2 := hF2.below' hb hz1 hW1
  have hW2 := (hW1.grown hg2 hz1 hC2.lt)
  clear hF2 hg2 hW1
  go_wp2_with fail
  refine (ladd_any _ _ _ _ 7 1 _ w2 hC2 (by omega) (by omega) (by omega)).mono ?_
  rintro e w3 ⟨rfl, S3, hg3, hC3, hF3⟩
  rw [show capRow sd 2 [(5, 1)] 7 1 = [(5, 1)] by decide] at hC3
  have hb3 : Below w.heap.size w w3 := hF3.below' hb2 hb2.size hW2
  clear hF3 hg3
  go_wp2_with fail
  refine (llost_any _ _ _ _ _ w3 hC3).mono ?_
  rintro e w4 ⟨rfl, rfl⟩
  rw [show (0 : Int) + 1 + 1 - sumP [(5, 1)] = 1 by decide]
  go_wp2_with fail
  refine (ltotal_any _ _ _ _ _ w3 hC3).mono ?_
  rintro e w4 ⟨rfl, hb4⟩
  rw [show (0 : Int) + 1 + 1 = 2 by decide]
  go_wp2_with fail
  refine (lat_any _ _ _ _ _ 5 w4 (hC3.below hb4)).mono ?_
  rintro e w5 ⟨rfl, hb5⟩
  rw [show cnt [(5, 1)] 5 = 1 by decide]
  go_wp2
  go_ret
  exact ⟨rfl, keep1 (keep1 hb3 hb4) hb5⟩

/-- What is played. -/
structure Small (most : Int) (l : List (Int × Int)) : Prop where
  c : ∀ x ∈ l, 0 < x.2 ∧ x.2 ≤ 1125899906842624
  n : l.length ≤ 120
  m : 1 ≤ most ∧ most ≤ 4096
structure SmallG (most : Int) (l : List (Int × Int)) : Prop where
  s : Small most l
  g : l.length ≤ 60
theorem small_sum : ∀ {l : List (Int × Int)}, (∀ x ∈ l, 0 < x.2 ∧ x.2 ≤ 1125899906842624) → 0 ≤ sumP l ∧ sumP l ≤ l.length * 1125899906842624
  | [], _ => by rw [sumP_nil]; simp
  | x :: l, h => by
    have h1 := h x (by simp)
    have h2 := small_sum (l := l) fun y hy => h y (by simp [hy])
    rw [sumP_cons, List.length_cons]
    omega
theorem filter_two {α : Type} (p q : α → Bool) : ∀ (l : List α), (∀ x ∈ l, p x = true → q x = false) → (l.filter p).length + (l.filter q).length ≤ l.length
  | [], _ => by simp
  | x :: l, h => by
    have ih := filter_two p q l fun y hy => h y (by simp [hy])
    have hx := h x (by simp)
    rw [List.filter_cons, List.filter_cons, List.length_cons]
    by_cases hp : p x = true
    · rw [if_pos hp, if_neg (by rw [hx hp]; decide), List.length_cons]; omega
    · rw [if_neg hp]; split
      · rw [List.length_cons]; omega
      · omega
theorem rowAdd_len1 {ps : List (Int × Int)} {q c : Int} : (rowAdd ps q c).length ≤ ps.length + 1 := by
  unfold rowAdd
  have h1 := filter_two (fun x : Int × Int => decide (x.1 < q)) (fun x : Int × Int => decide (q < x.1)) ps fun x _ hx => by
    rw [decide_eq_true_eq] at hx; exact decide_eq_false (by omega)
  rw [List.length_append, List.length_append]
  split <;> simp only [List.length_cons, List.length_nil] <;> omega
theorem addAll_len : ∀ (l ps : List (Int × Int)), (addAll ps l).length ≤ ps.length + l.length
  | [], _ => Nat.le_refl _
  | x :: l, ps => by
    have h1 := addAll_len l (rowAdd ps x.1 x.2)
    have h2 := rowAdd_len1 (ps := ps) (q := x.1) (c := x.2)
    show (addAll (rowAdd ps x.1 x.2) l).length ≤ _
    rw [List.length_cons]
    omega
/-- All that was added. -/
def allOf (l : List (Int × Int)) : List (Int × Int) := addAll [] l
theorem allOf_take (l : List (Int × Int)) (k : Nat) (hk : k < l.length) : allOf (l.take (k + 1)) = rowAdd (allOf (l.take k)) (l[k]'hk).1 (l[k]'hk).2 := addAll_take [] l k hk
section
variable {most : Int} {l : List (Int × Int)}
theorem Small.take (h : Small most l) (k : Nat) : Small most (l.take k) := ⟨fun x hx => h.c x (List.mem_of_mem_take hx), by rw [List.length_take]; have := h.n; omega, h.m⟩
theorem Small.sum (h : Small most l) : 0 ≤ sumP l ∧ sumP l ≤ 135107988821114880 := by
  have := small_sum h.c
  have := h.n
  omega
theorem Small.all (h : Small most l) : Gd (allOf l) ∧ sumP (allOf l) = sumP l ∧ ∀ i, cnt (allOf l) i = cnt l i := by
  have := addAll_spec (l := l) Gd.nil (fun x hx => (h.c x hx).1) (by rw [sumP_nil]; have := h.sum; omega)
  refine ⟨this.1, ?_, fun i => ?_⟩
  · have := this.2.1; rw [sumP_nil, Int.zero_add] at this; exact this
  · have := this.2.2 i; rw [cnt_nil, Int.zero_add] at this; exact this
theorem allOf_ok (h : okP l) : okP (allOf l) := addAll_ok (ps := []) (fun x hx => by simp at hx) h
theorem Small.len (h : Small most l) : (allOf l).length ≤ 120 := by have := addAll_len l []; have := h.n; unfold allOf; simp at *; omega
theorem Small.keptR (h : Small most l) (k : Nat) (hk : k < l.length) : keptP sd most (allOf (l.take (k + 1))) = capRow sd most (keptP sd most (allOf (l.take k))) (l[k]'hk).1 (l[k]'hk).2 := by
  have h1 := (h.take k).all
  have h2 := h.c _ (List.getElem_mem hk)
  have h3 := (h.take k).sum
  rw [allOf_take l k hk]
  exact kept_rowAdd h1.1 h.m.1 h2.1 (by have := cnt_le_sumP h1.1.pos (l[k]'hk).1; rw [h1.2.1] at this; omega)
end

theorem Two.newY {B : Nat} {w wr w' : World} {S T : List Nat} {X X' Y Y0 : Prop} (h : Two B w wr S [] X Y0) (hb : Below wr.heap.size wr w') (hX : X → X') (hT : Within T wr.heap.size w'.heap.size) (hY : Y) : Two B w w' S T X' Y :=
  ⟨hX h.x, hY, h.ws.mono hb.size, fun k hk => ⟨Nat.le_trans h.size (hT k hk).1, (hT k hk).2⟩, fun k hk hn => by have := (h.ws k hk).2; have := (hT k hn).1; omega, h.below.trans (hb.mono h.size), Nat.le_trans h.size hb.size⟩

set_option maxRecDepth 100000 in
theorem great_any (A : Option Addr) (len cap : Nat) (l : List (Int × Int)) (most : Int) (w : World) (hl : l.length = len) (hm : len ≤ 9223372036854775807) (hR : RdP w A l) (hok : okP l) :
    Calls Try.prog 9 #[.int .i64 most, .slice A len cap] w fun e w' => SaysP (¬ SmallG most l) e ∧ Below w.heap.size w w' := by
  have HR := Lib.hid hR
  have HO := Lib.hid hok
  have HLN := Lib.hid hl
  clear hR hok hl
  go_enter Try.func9, Try.ntmps9
  go_wp2
  go_loopw [6, 9] (fun _ i wr => ∃ k : Nat, k ≤ len ∧ i = .int .i64 k ∧ Hid (∀ x ∈ l.take k, 0 < x.2 ∧ x.2 ≤ 1125899906842624) ∧ Below w.heap.size w wr) (fun _ i _ => len - (intOf i).toNat)
  case atStart => exact ⟨0, by omega, rfl, fun x hx => by simp at hx, Below.refl _ _⟩
  case round =>
    obtain ⟨k, hk, rfl, HG, hB⟩ := hrel
    have zB := hB.size
    by_cases hlt : k < len
    · obtain ⟨g, o, rfl, hg, c1, c2⟩ := (HR.out.below hB).at k (by have := HLN.out; omega)
      obtain ⟨⟨b1, b2⟩, b3, b4⟩ := HO.out.at k (by have := HLN.out; omega)
      have HM := Lib.hid (List.getElem_mem (show k < l.length by have := HLN.out; omega))
      have HS := Lib.hid (List.take_succ_eq_append_getElem (show k < l.length by have := HLN.out; omega))
      obtain ⟨⟨x, y⟩, hx⟩ : ∃ x, l[k]'(by have := HLN.out; omega) = x := ⟨_, rfl⟩
      rw [hx] at c1 c2 b1 b2 b3 b4 HM HS
      dsimp only at c1 c2 b1 b2 b3 b4
      clear hx
      by_cases h1 : 1125899906842624 < y
      · have HN : Hid (¬ SmallG most l) := fun k => by have := (k.s.c _ HM.out).2; dsimp only at this; omega
        clear HR HO HG HM HS
        go_wp2
        go_ret
        exact ⟨says_yes HN.out, (by repeat (first | with_reducible assumption | with_reducible exact Below.refl _ _ | with_reducible refine Below.drew ?_ | with_reducible refine Below.drewN ?_ _ | with_reducible refine Below.setCell ?_ (by first | omega | (simp; done) | (simp; omega)) _ | with_reducible refine Below.alloc ?_ (by first | omega | (simp; done) | (simp; omega) | (simp [World.setCell]; omega)) _))⟩
      · by_cases h0 : y = 0
        · subst h0
          have HN : Hid (¬ SmallG most l) := fun k => by have := (k.s.c _ HM.out).1; dsimp only at this; omega
          clear HR HO HG HM HS
          go_wp2
          go_ret
          exact ⟨says_yes HN.out, (by repeat (first | with_reducible assumption | with_reducible exact Below.refl _ _ | with_reducible refine Below.drew ?_ | with_reducible refine Below.drewN ?_ _ | with_reducible refine Below.setCell ?_ (by first | omega | (simp; done) | (simp; omega)) _ | with_reducible refine Below.alloc ?_ (by first | omega | (simp; done) | (simp; omega) | (simp [World.setCell]; omega)) _))⟩
        · have h0' : (y == 0) = false := beq_eq_false_iff_ne.2 h0
          have HG2 : Hid (∀ x ∈ l.take (k + 1), 0 < x.2 ∧ x.2 ≤ 1125899906842624) := fun z hz => by
            rw [HS.out] at hz
            rcases List.mem_append.1 hz with hz | hz
            · exact HG.out z hz
            · simp only [List.mem_singleton] at hz; subst hz; dsimp only; omega
          clear HR HO HG HM HS h0
          go_wp2
          go_roundw
          case rel => exact ⟨k + 1, by omega, by simp, HG2, (by repeat (first | with_reducible assumption | with_reducible exact Below.refl _ _ | with_reducible refine Below.drew ?_ | with_reducible refine Below.drewN ?_ _ | with_reducible refine Below.setCell ?_ (by first | omega | (simp; done) | (simp; omega)) _ | with_reducible refine Below.alloc ?_ (by first | omega | (simp; done) | (simp; omega) | (simp [World.setCell]; omega)) _))⟩
          case measure => simp [intOf]; omega
    · obtain rfl : k = len := by omega
      have h := HG.out
      rw [List.take_of_length_le (by have := HLN.out; omega)] at h
      replace h := Lib.hid h
      clear HR HO HG
      by_cases h1 : 60 < k
      · have h1' : (60 : Int) < k := by omega
        have HN : Hid (¬ SmallG most l) := fun s => by have := s.g; have := HLN.out; omega
        go_wp2
        go_ret
        exact ⟨says_yes HN.out, hB⟩
      · have h1' : ¬ (60 : Int) < k := by omega
        by_cases h2 : most < 1
        · have HN : Hid (¬ SmallG most l) := fun s => by have := s.s.m; omega
          go_wp2
          go_ret
          exact ⟨says_yes HN.out, hB⟩
        · by_cases h3 : 4096 < most
          · have HN : Hid (¬ SmallG most l) := fun s => by have := s.s.m; omega
            go_wp2
            go_ret
            exact ⟨says_yes HN.out, hB⟩
          · have HY : Hid (SmallG most l) := ⟨⟨h.out, by have := HLN.out; omega, by omega⟩, by have := HLN.out; omega⟩
            go_wp2
            go_ret
            exact ⟨says_no (fun k => k HY.out), hB⟩
theorem says_small {most : Int} {l : List (Int × Int)} (h : (false = true) ↔ ¬ SmallG most l) : SmallG most l := by
  by_cases k : SmallG most l
  · exact k
  · have := h.2 k; cases this
end Go.Proofs.Ytooojpicbbpaaaa

