/- Contract of package wide's Plus. -/
import Derived.Test.YtondkkhagbcadaaGreatProg
import Derived.Test.YtondkkhagbcadaaGreatBase
namespace Go.Proofs.YtondkkhagbcadaaGreat
open Go.RowKit

/-- The sum of counts, as long as it isn't above the greatest count. -/
def plusF : Int → List Int → Option Int
  | n, [] => some n
  | n, a :: l => if n + a ≤ 9223372036854775807 then plusF (n + a) l else none

def plusV (o : Option Int) : Value := .tuple #[.int .u64 (o.getD 0), .bool o.isSome]

theorem plus_any (A : Option Addr) (len cap : Nat) (xs : List Int) (w : World) (hl : xs.length = len) (hm : len ≤ 9223372036854775807)
    (hx : ∀ x ∈ xs, 0 ≤ x ∧ x < 18446744073709551616)
    (hc : ∀ j, j < len → ∃ ad, A = some ad ∧ w.cell? (ad.add j) = some (.int .u64 (xs.getD j 0))) :
    Calls Tryz.prog 67 #[.slice A len cap] w fun e w' => e = .returned (plusV (plusF 0 xs)) ∧ w = w' := by
  go_enter Tryz.func67, Tryz.ntmps67
  go_wp2
  go_loop [4, 9] (fun n i => ∃ k : Nat, ∃ m : Int, k ≤ len ∧ 0 ≤ m ∧ m ≤ 9223372036854775807 ∧ n = .int .u64 m ∧ i = .int .i64 k ∧ Hid (plusF 0 xs = plusF m (xs.drop k))) (fun _ i => len - (intOf i).toNat)
  case atStart => exact ⟨0, 0, by omega, by omega, by omega, rfl, rfl, rfl⟩
  case round =>
    obtain ⟨k, m, hk, hm0, hm', rfl, rfl, HF⟩ := hrel
    by_cases hlt : k < len
    · obtain ⟨ad, rfl, hcell⟩ := hc k hlt
      have hb : 0 ≤ xs.getD k 0 ∧ xs.getD k 0 < 18446744073709551616 := by
        rw [List.getD_eq_getElem?_getD, List.getElem?_eq_getElem (by omega)]
        exact hx _ (List.getElem_mem _)
      have HD := Lib.hid (show xs.drop k = xs.getD k 0 :: xs.drop (k+1) by
        rw [List.getD_eq_getElem?_getD, List.getElem?_eq_getElem (by omega)]
        exact List.drop_eq_getElem_cons (by omega))
      clear hc hx
      obtain ⟨x, hxk⟩ : ∃ x : Int, xs.getD k 0 = x := ⟨_, rfl⟩
      rw [hxk] at hb hcell HD
      clear hxk
      obtain ⟨hb1, hb2⟩ := hb
      by_cases hs : m + x ≤ 9223372036854775807
      · have hs' : ¬ 9223372036854775807 - m < x := by omega
        go_wp2
        go_round
        case rel => exact ⟨k + 1, m + x, by omega, by omega, hs, rfl, by go_num, by rw [HF.out, HD.out, plusF, if_pos hs]; rfl⟩
        case measure => simp [intOf]; omega
      · have hs' : 9223372036854775807 - m < x := by omega
        go_wp2
        go_ret2
        rw [HF.out, HD.out, plusF, if_neg (by omega)]
        exact ⟨rfl, rfl⟩
    · go_wp2
      go_ret2
      rw [HF.out, List.drop_eq_nil_of_le (by omega)]
      exact ⟨rfl, rfl⟩

def plus2Q (a b : Int) : Int := if a + b ≤ 9223372036854775807 then a + b else 0
def plus2Ok (a b : Int) : Bool := decide (a + b ≤ 9223372036854775807)
theorem plus2_yes {a b : Int} (h : a + b ≤ 9223372036854775807) : plus2Q a b = a + b ∧ plus2Ok a b = true := ⟨if_pos h, decide_eq_true h⟩
theorem plus2_no {a b : Int} (h : ¬ a + b ≤ 9223372036854775807) : plus2Q a b = 0 ∧ plus2Ok a b = false := ⟨if_neg h, decide_eq_false h⟩

/-- Two counts. -/
theorem plus2_any (g : Nat) (a b : Int) (w : World) (ha : 0 ≤ a) (ha' : a < 18446744073709551616) (hb : 0 ≤ b) (hb' : b < 18446744073709551616)
    (h0 : w.cell? ⟨g, 0, none⟩ = some (.int .u64 a)) (h1 : w.cell? ⟨g, 1, none⟩ = some (.int .u64 b)) :
    Calls Tryz.prog 67 #[.slice (some ⟨g, 0, none⟩) 2 2] w fun e w' => e = .returned (.tuple #[.int .u64 (plus2Q a b), .bool (plus2Ok a b)]) ∧ w = w' := by
  refine (plus_any (some ⟨g, 0, none⟩) 2 2 [a, b] w rfl (by omega) (by intro x hx; simp at hx; omega) (fun j hj => ⟨_, rfl, ?_⟩)).mono ?_
  · rcases (show j = 0 ∨ j = 1 by omega) with rfl | rfl
    · simpa [Addr.add] using h0
    · simpa [Addr.add] using h1
  · rintro e w' ⟨rfl, rfl⟩
    refine ⟨?_, rfl⟩
    congr 1
    unfold plusV plus2Q plus2Ok plusF plusF plusF
    by_cases h : a + b ≤ 9223372036854775807
    · rw [if_pos (by omega), if_pos (by omega), if_pos h, decide_eq_true h]; simp
    · rw [if_neg h, decide_eq_false h]
      by_cases h' : 0 + a ≤ 9223372036854775807
      · rw [if_pos h', if_neg (by omega)]; rfl
      · rw [if_neg h']; rfl
end Go.Proofs.YtondkkhagbcadaaGreat
