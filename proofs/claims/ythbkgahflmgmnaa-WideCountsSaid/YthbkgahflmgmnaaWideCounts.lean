/- The walk of the statement WideCounts. -/
import Derived.Test.YthbkgahflmgmnaaProg
import Derived.Test.YthbkgahflmgmnaaOpen
import Derived.Lib.ItoaNum
import Derived.Test.YthbkgahflmgmnaaWAdd
import Derived.Test.YthbkgahflmgmnaaPlus
import Derived.Test.YthbkgahflmgmnaaAlive01
namespace Go.Proofs.Ythbkgahflmgmnaa
open Go.RowKit

theorem shr_pos (a k : Int) (h1 : 0 ≤ a) (h2 : a < 18446744073709551616) (hk : 0 ≤ k) : 0 < a / 2 ^ k.toNat ↔ k < (Lib.bitLen a.toNat : Int) := by
  obtain ⟨x, rfl⟩ : ∃ x : Nat, a = x := ⟨a.toNat, by omega⟩
  obtain ⟨n, rfl⟩ : ∃ n : Nat, k = n := ⟨k.toNat, by omega⟩
  have hx : x < 2 ^ 64 := by have : x < 18446744073709551616 := by omega
                             simpa using this
  simp only [Int.toNat_natCast]
  rw [show ((x : Int) / 2 ^ n) = ((x / 2 ^ n : Nat) : Int) by simp]
  have e1 : (0 < x / 2 ^ n) ↔ 2 ^ n ≤ x := ⟨fun h => by
      rcases Nat.lt_or_ge x (2 ^ n) with h' | h'
      · rw [Nat.div_eq_of_lt h'] at h; omega
      · exact h', fun h => Nat.div_pos h (Nat.two_pow_pos n)⟩
  by_cases h0 : x = 0
  · subst h0
    have : Lib.bitLen 0 = 0 := Lib.bitLenAux_zero 64
    rw [this]
    simp
  · obtain ⟨b1, b2, b3⟩ := Lib.bitLenAux_bounds 64 x hx h0
    have e2 : 2 ^ n ≤ x ↔ n < Lib.bitLenAux 64 x := ⟨fun h => by
        rcases Nat.lt_or_ge n (Lib.bitLenAux 64 x) with h' | h'
        · exact h'
        · have := Nat.pow_le_pow_right (show 0 < 2 by omega) h'
          omega, fun h => Nat.le_trans (Nat.pow_le_pow_right (show 0 < 2 by omega) (by omega)) b2⟩
    show 0 < ((x / 2 ^ n : Nat) : Int) ↔ (n : Int) < (Lib.bitLenAux 64 x : Int)
    omega

set_option maxHeartbeats 2000000 in
theorem wideCounts_walk (w : World) (a : Int) (bda : 0 ≤ a ∧ a < 18446744073709551616) (Alist : Option Addr) (clist : Nat) (list : List Int) (rlist : Rd w Alist (list.map (Value.int .u64))) (bdlist : ∀ x ∈ list, 0 ≤ x ∧ x < 18446744073709551616) (llist : list.length ≤ 9223372036854775807) :
    Calls Try.prog 5 #[.int .u64 a, .slice Alist list.length clist] w fun e w' => e = .returned (.bool true) ∧ Below w.heap.size w w' := by
  obtain ⟨p1, p2⟩ := bda
  obtain ⟨len, HN⟩ : ∃ n, list.length = n := ⟨_, rfl⟩
  rw [HN] at llist ⊢
  obtain ⟨L, HB⟩ : ∃ L : Int, Hid ((Lib.bitLen a.toNat : Int) = L) := ⟨_, rfl⟩
  have hL : 0 ≤ L ∧ L ≤ 64 := by
    have h1 : Lib.bitLen a.toNat ≤ 64 := Lib.bitLen_le _ 64 (by omega) (by have : a.toNat < 18446744073709551616 := by omega
                                                                           simpa using this)
    have h2 := HB.out
    omega
  obtain ⟨hL0, hL1⟩ := hL
  have HS := Lib.hid (fun k hk => shr_pos a k p1 p2 hk)
  rw [HB.out] at HS
  have HW := Lib.hid rlist
  clear rlist
  go_enter Try.func5, Try.ntmps5
  go_wp2_with fail
  refine (alive_any _).mono ?_
  rintro e w1 ⟨rfl, hb⟩
  by_cases h40 : 40 < len
  · go_wp2
    go_ret
    exact ⟨rfl, hb⟩
  go_wp2
  go_loop [5, 6] (fun x y => ∃ i k : Int, 0 ≤ i ∧ i ≤ 64 ∧ -1 ≤ k ∧ k < 64 ∧ x = .int .i64 k ∧ y = .int .i64 i ∧ Hid (k = min L i - 1)) (fun _ y => 64 - (intOf y).toNat)
  case atStart => exact ⟨0, -1, by omega, by omega, by omega, by omega, rfl, rfl, Lib.hid (by omega)⟩
  case round =>
    obtain ⟨i, k, hi0, hi1, hk0, hk1, rfl, rfl, HK⟩ := hrel
    by_cases hi : i < 64
    · obtain ⟨v, hv⟩ : ∃ v : Int, a / 2 ^ i.toNat = v := ⟨_, rfl⟩
      have hp := HS.out i hi0
      rw [hv] at hp
      by_cases h : i < L
      · have hv0 : 0 < v := hp.2 h
        clear hp
        go_wp2
        go_round
        case rel => exact ⟨i + 1, i, by omega, by omega, by omega, by omega, rfl, rfl, Lib.hid (by omega)⟩
        case measure => simp [intOf]; omega
      · have hv0 : ¬ 0 < v := fun h' => h (hp.1 h')
        clear hp
        go_wp2
        go_round
        case rel => exact ⟨i + 1, k, by omega, by omega, by omega, by omega, rfl, rfl, Lib.hid (by have := HK.out; omega)⟩
        case measure => simp [intOf]; omega
    · obtain rfl : i = 64 := by omega
      obtain rfl : k = L - 1 := by have := HK.out; omega
      clear HS HK hi0 hi1 hi
      go_wp2_with fail
      refine (log_any _ _ p1 p2).mono ?_
      rintro e w2 ⟨rfl, rfl⟩
      rw [HB.out]
      have HP := plus_any Alist len clist list w1 HN llist bdlist (fun j hj => by
        obtain ⟨g, o, rfl, hg, hc⟩ := (HW.out.below hb) j (.int .u64 (list.getD j 0)) (by
          rw [List.getElem?_map, List.getD_eq_getElem?_getD, List.getElem?_eq_getElem (by omega)]; rfl)
        exact ⟨_, rfl, by rw [Addr.add_lit]; exact hc⟩)
      have HC : Hid (∀ j, j < len → ∃ g o, Alist = some ⟨g, o, none⟩ ∧ w1.cell? ⟨g, o + j, none⟩ = some (.int .u64 (list.getD j 0)) ∧ 0 ≤ list.getD j 0 ∧ list.getD j 0 < 18446744073709551616 ∧ list.drop j = list.getD j 0 :: list.drop (j+1)) := fun j hj => by
        obtain ⟨g, o, rfl, hg, hc⟩ := (HW.out.below hb) j (.int .u64 (list.getD j 0)) (by
          rw [List.getElem?_map, List.getD_eq_getElem?_getD, List.getElem?_eq_getElem (by omega)]; rfl)
        have e1 : list.getD j 0 = list[j]'(by omega) := by rw [List.getD_eq_getElem?_getD, List.getElem?_eq_getElem (by omega)]; rfl
        refine ⟨g, o, rfl, hc, ?_⟩
        rw [e1]
        obtain ⟨b1, b2⟩ := bdlist _ (List.getElem_mem (by omega : j < list.length))
        exact ⟨b1, b2, List.drop_eq_getElem_cons (by omega)⟩
      have HP' := Lib.hid HP
      clear HP HW bdlist
      go_wp2_with fail
      go_loop [9, 10, 12, 37] (fun s f _ y => ∃ k : Nat, ∃ m : Int, ∃ b : Bool, k ≤ len ∧ 0 ≤ m ∧ m ≤ 9223372036854775807 ∧ s = .int .u64 m ∧ f = .bool b ∧ y = .int .i64 k ∧ Hid (if b then plusF 0 list = plusF m (list.drop k) else plusF 0 list = none)) (fun _ _ _ y => len - (intOf y).toNat)
      case atStart => exact ⟨0, 0, true, by omega, by omega, by omega, rfl, rfl, rfl, rfl⟩
      case round =>
        obtain ⟨k, m, b, hk, hm0, hm', rfl, rfl, rfl, HF⟩ := hrel
        by_cases hlt : k < len
        · obtain ⟨g, o, rfl, hcell, hb1, hb2, HD⟩ := HC.out k hlt
          replace HD := Lib.hid HD
          clear HC HP'
          obtain ⟨x, hx⟩ : ∃ x, list.getD k 0 = x := ⟨_, rfl⟩
          rw [hx] at hcell hb1 hb2 HD
          clear hx
          cases b
          · go_wp2
            go_round
            case rel => exact ⟨k + 1, m, false, by omega, by omega, by omega, rfl, rfl, rfl, HF.out⟩
            case measure => simp [intOf]; omega
          by_cases hx1 : x < 9223372036854775808
          · by_cases hx2 : m + x < 9223372036854775808
            · go_wp2
              go_round
              case rel => exact ⟨k + 1, m + x, true, by omega, by omega, by omega, rfl, rfl, rfl, Lib.hid (by
                have h := HF.out
                simp only [if_true] at h ⊢
                rw [h, HD.out, plusF, if_pos (by omega)])⟩
              case measure => simp [intOf]; omega
            · go_wp2
              go_round
              case rel => exact ⟨k + 1, m, false, by omega, by omega, by omega, rfl, rfl, rfl, Lib.hid (by
                have h := HF.out
                simp only [if_true] at h
                show plusF 0 list = none
                rw [h, HD.out, plusF, if_neg (by omega)])⟩
              case measure => simp [intOf]; omega
          · go_wp2
            go_round
            case rel => exact ⟨k + 1, m, false, by omega, by omega, by omega, rfl, rfl, rfl, Lib.hid (by
                have h := HF.out
                simp only [if_true] at h
                show plusF 0 list = none
                rw [h, HD.out, plusF, if_neg (by omega)])⟩
            case measure => simp [intOf]; omega
        · obtain rfl : k = len := by omega
          have h := HF.out
          rw [List.drop_of_length_le (by omega), plusF] at h
          clear HF HC
          have hz : (a != 0) = decide (0 < a) := by
            by_cases h0 : a = 0
            · subst h0; rfl
            · have : 0 < a := by omega
              simp [h0, this]
          rw [hz]
          cases b
          · simp only [Bool.false_eq_true, if_false] at h
            have HP := HP'.out
            rw [h] at HP
            clear HP' h
            go_wp2_with fail
            refine HP.mono ?_
            rintro e w3 ⟨rfl, rfl⟩
            simp only [plusV, Option.getD_none, Option.isSome_none]
            go_wp2
            go_ret
            exact ⟨rfl, hb⟩
          · simp only [if_true] at h
            have HP := HP'.out
            rw [h] at HP
            clear HP' h
            go_wp2_with fail
            refine HP.mono ?_
            rintro e w3 ⟨rfl, rfl⟩
            simp only [plusV, Option.getD_some, Option.isSome_some]
            go_wp2
            go_ret
            exact ⟨rfl, hb⟩
end Go.Proofs.Ythbkgahflmgmnaa

