/- Contracts of the document's number, and Read. -/
import Derived.Test.YtadnnpjnmfddmaaProg
import Derived.Test.YtadnnpjnmfddmaaReadEq
import Derived.Laws.Strings
import Derived.Laws.Strings2
import Derived.Laws.Strings3
import Derived.Lib.Strings
namespace Go.Proofs.Ytadnnpjnmfddmaa
open Go.RowKit

def numV (r : Int × Bool) : Value := .tuple #[.int .u64 r.1, .bool r.2]
theorem bytesN_at (s : ByteArray) (k : Nat) (hk : k < s.size) : (bytesN s).getD k 0 = (s[k]'hk).toNat := by
  have := bytesN_drop s k hk
  rw [List.getD_eq_getElem?_getD, ← List.head?_drop, this]
  rfl

theorem bytesN_extract (s : ByteArray) (a b : Nat) : bytesN (s.extract a b) = ((bytesN s).drop a).take (b - a) := by
  unfold bytesN
  rw [← ByteArray.toList_eq, Lib.extract_toList, List.map_take, List.map_drop]
theorem bytesN_take (s : ByteArray) (k : Nat) : bytesN (s.extract 0 k) = (bytesN s).take k := by
  rw [bytesN_extract, List.drop_zero, Nat.sub_zero]
theorem bytesN_from (s : ByteArray) (k : Nat) : bytesN (s.extract k s.size) = (bytesN s).drop k := by
  rw [bytesN_extract, List.take_of_length_le]
  rw [List.length_drop, bytesN_length]
  exact Nat.le_refl _
theorem extract_size (s : ByteArray) (a b : Nat) : (s.extract a b).size ≤ s.size := by
  rw [← bytesN_length, ← bytesN_length, bytesN_extract, List.length_take, List.length_drop]
  omega

def optN : Option Int → Int × Bool
  | some n => (n, true)
  | none => (0, false)
theorem numberF_def (l : List Nat) : numberF l = if l.length < 1 ∨ 18 < l.length ∨ (1 < l.length ∧ l.getD 0 0 = 48) then (0, false) else optN (numD 0 l) := by
  unfold numberF
  split
  · rfl
  · cases numD 0 l <;> rfl

set_option maxRecDepth 100000 in
set_option maxHeartbeats 1000000 in
theorem number_any (s : ByteArray) (w : World) (hs : s.size ≤ 9223372036854775807) :
    Calls Try.prog 24 #[.string s] w fun e w' => e = .returned (numV (numberF (bytesN s))) ∧ w = w' := by
  have hl := bytesN_length s
  have HN : Hid (numberF (bytesN s) = if s.size < 1 ∨ 18 < s.size ∨ (1 < s.size ∧ (bytesN s).getD 0 0 = 48) then (0, false) else optN (numD 0 (bytesN s))) := by
    show _ = _
    rw [numberF_def, hl]
  by_cases h1 : s.size < 1
  · have HE : Hid (numberF (bytesN s) = (0, false)) := by show _ = _; rw [HN.out, if_pos (.inl h1)]
    have h1' : (s.size : Int) < 1 := by omega
    clear HN hl
    go_enter Try.func24, Try.ntmps24
    go_wp2
    go_ret2
    exact ⟨by rw [HE.out]; rfl, rfl⟩
  have h1' : ¬ (s.size : Int) < 1 := by omega
  by_cases h2 : 18 < s.size
  · have HE : Hid (numberF (bytesN s) = (0, false)) := by show _ = _; rw [HN.out, if_pos (.inr (.inl h2))]
    have h2' : (18 : Int) < s.size := by omega
    clear HN hl
    go_enter Try.func24, Try.ntmps24
    go_wp2
    go_ret2
    exact ⟨by rw [HE.out]; rfl, rfl⟩
  have h2' : ¬ (18 : Int) < s.size := by omega
  have h0 : 0 < s.size := by omega
  have h0' : (0 : Int) < s.size := by omega
  have hat := bytesN_at s 0 h0
  obtain ⟨c0, hc0⟩ : ∃ c, (s[0]'h0).toNat = c := ⟨_, rfl⟩
  rw [hc0] at hat
  rw [hat] at HN
  by_cases h3 : 1 < s.size ∧ c0 = 48
  · have HE : Hid (numberF (bytesN s) = (0, false)) := by show _ = _; rw [HN.out, if_pos (.inr (.inr h3))]
    obtain ⟨h3, rfl⟩ := h3
    have h3' : (1 : Int) < s.size := by omega
    clear HN hl hat
    go_enter Try.func24, Try.ntmps24
    go_wp2
    go_ret2
    exact ⟨by rw [HE.out]; rfl, rfl⟩
  · have HE : Hid (numberF (bytesN s) = optN (numD 0 (bytesN s))) := by
      show _ = _
      rw [HN.out, if_neg]
      rintro (h | h | h)
      · omega
      · omega
      · exact h3 h
    obtain ⟨R, hR⟩ : ∃ R, Hid (R = numD 0 (bytesN s)) := ⟨_, rfl⟩
    have HE2 : Hid (numberF (bytesN s) = optN R) := by show _ = _; rw [HE.out, hR.out]
    clear HN hat HE
    go_enter Try.func24, Try.ntmps24
    by_cases h4 : 1 < s.size
    · have h4' : (1 : Int) < s.size := by omega
      have hc : ((c0 : Int) == 48) = false := beq_eq_false_iff_ne.2 (fun e => h3 ⟨h4, by omega⟩)
      clear h3
      go_wp2
      go_loop [4, 5] (fun n i => ∃ k : Nat, ∃ m : Int, k ≤ s.size ∧ 0 ≤ m ∧ m < 18446744073709551616 ∧ n = .int .u64 m ∧ i = .int .i64 k ∧ Hid (R = numD m ((bytesN s).drop k))) (fun _ i => s.size - (intOf i).toNat)
      case atStart => exact ⟨0, 0, by omega, by omega, by omega, rfl, rfl, hR⟩
      case round =>
        obtain ⟨k, m, hk, hm0, hm1, rfl, rfl, HF⟩ := hrel
        by_cases hlt : k < s.size
        · obtain ⟨c, hc'⟩ : ∃ c, (s[k]'hlt).toNat = c := ⟨_, rfl⟩
          have hd := bytesN_drop s k hlt
          rw [hc'] at hd
          have HF2 : Hid (R = numD m (c :: (bytesN s).drop (k + 1))) := by show _ = _; rw [← hd]; exact HF.out
          clear HF hd
          have hlt' : (k : Int) < s.size := by omega
          have hk0 : (0 : Int) ≤ k := by omega
          have hcb : c < 256 := by rw [← hc']; exact (s[k]'hlt).toNat_lt
          by_cases hd1 : c < 48
          · have HE3 : Hid (numberF (bytesN s) = (0, false)) := by show _ = _; rw [HE2.out, HF2.out, numD, if_pos (.inl hd1)]; rfl
            have hd1' : (c : Int) < 48 := by omega
            clear HE2 HF2
            go_wp2
            go_ret2
            exact ⟨by rw [HE3.out]; rfl, rfl⟩
          by_cases hd2 : 57 < c
          · have HE3 : Hid (numberF (bytesN s) = (0, false)) := by show _ = _; rw [HE2.out, HF2.out, numD, if_pos (.inr hd2)]; rfl
            have hd1' : ¬ (c : Int) < 48 := by omega
            have hd2' : (57 : Int) < c := by omega
            clear HE2 HF2
            go_wp2
            go_ret2
            exact ⟨by rw [HE3.out]; rfl, rfl⟩
          have HF3 := HF2.out
          rw [numD, if_neg (by omega)] at HF3
          obtain ⟨mm, hmm⟩ : ∃ x, IntKind.u64.wrap (10 * m) = x := ⟨_, rfl⟩
          obtain ⟨v, hv⟩ : ∃ v, (10 * m + ((c : Int) - 48)) % 18446744073709551616 = v := ⟨_, rfl⟩
          have v1 : IntKind.u8.wrap ((c : Int) - 48) = c - 48 := by simp only [IntKind.wrap_u8]; omega
          have v2 : IntKind.u64.wrap ((c : Int) - 48) = c - 48 := by simp only [IntKind.wrap_u64]; omega
          have v3 : IntKind.u64.wrap (mm + ((c : Int) - 48)) = v := by rw [← hmm, ← hv]; simp only [IntKind.wrap_u64]; omega
          have hv0 : 0 ≤ v ∧ v < 18446744073709551616 := by omega
          rw [hv] at HF3
          replace HF3 := Lib.hid HF3
          clear HF2 hv
          have hd1' : ¬ (c : Int) < 48 := by omega
          have hd2' : ¬ (57 : Int) < c := by omega
          go_wp2
          go_round
          case rel => exact ⟨k + 1, v, by omega, hv0.1, hv0.2, rfl, by go_num, HF3⟩
          case measure => simp [intOf]; omega
        · obtain rfl : k = s.size := by omega
          have HF2 := HF.out
          rw [List.drop_of_length_le (by omega), numD] at HF2
          have HE3 : Hid (numberF (bytesN s) = (m, true)) := by show _ = _; rw [HE2.out, HF2]; rfl
          clear HE2 HF HF2
          go_wp2
          go_ret2
          exact ⟨by rw [HE3.out]; rfl, rfl⟩
    · have h4' : ¬ (1 : Int) < s.size := by omega
      clear h3
      go_wp2
      go_loop [4, 5] (fun n i => ∃ k : Nat, ∃ m : Int, k ≤ s.size ∧ 0 ≤ m ∧ m < 18446744073709551616 ∧ n = .int .u64 m ∧ i = .int .i64 k ∧ Hid (R = numD m ((bytesN s).drop k))) (fun _ i => s.size - (intOf i).toNat)
      case atStart => exact ⟨0, 0, by omega, by omega, by omega, rfl, rfl, hR⟩
      case round =>
        obtain ⟨k, m, hk, hm0, hm1, rfl, rfl, HF⟩ := hrel
        by_cases hlt : k < s.size
        · obtain ⟨c, hc'⟩ : ∃ c, (s[k]'hlt).toNat = c := ⟨_, rfl⟩
          have hd := bytesN_drop s k hlt
          rw [hc'] at hd
          have HF2 : Hid (R = numD m (c :: (bytesN s).drop (k + 1))) := by show _ = _; rw [← hd]; exact HF.out
          clear HF hd
          have hlt' : (k : Int) < s.size := by omega
          have hk0 : (0 : Int) ≤ k := by omega
          have hcb : c < 256 := by rw [← hc']; exact (s[k]'hlt).toNat_lt
          by_cases hd1 : c < 48
          · have HE3 : Hid (numberF (bytesN s) = (0, false)) := by show _ = _; rw [HE2.out, HF2.out, numD, if_pos (.inl hd1)]; rfl
            have hd1' : (c : Int) < 48 := by omega
            clear HE2 HF2
            go_wp2
            go_ret2
            exact ⟨by rw [HE3.out]; rfl, rfl⟩
          by_cases hd2 : 57 < c
          · have HE3 : Hid (numberF (bytesN s) = (0, false)) := by show _ = _; rw [HE2.out, HF2.out, numD, if_pos (.inr hd2)]; rfl
            have hd1' : ¬ (c : Int) < 48 := by omega
            have hd2' : (57 : Int) < c := by omega
            clear HE2 HF2
            go_wp2
            go_ret2
            exact ⟨by rw [HE3.out]; rfl, rfl⟩
          have HF3 := HF2.out
          rw [numD, if_neg (by omega)] at HF3
          obtain ⟨mm, hmm⟩ : ∃ x, IntKind.u64.wrap (10 * m) = x := ⟨_, rfl⟩
          obtain ⟨v, hv⟩ : ∃ v, (10 * m + ((c : Int) - 48)) % 18446744073709551616 = v := ⟨_, rfl⟩
          have v1 : IntKind.u8.wrap ((c : Int) - 48) = c - 48 := by simp only [IntKind.wrap_u8]; omega
          have v2 : IntKind.u64.wrap ((c : Int) - 48) = c - 48 := by simp only [IntKind.wrap_u64]; omega
          have v3 : IntKind.u64.wrap (mm + ((c : Int) - 48)) = v := by rw [← hmm, ← hv]; simp only [IntKind.wrap_u64]; omega
          have hv0 : 0 ≤ v ∧ v < 18446744073709551616 := by omega
          rw [hv] at HF3
          replace HF3 := Lib.hid HF3
          clear HF2 hv
          have hd1' : ¬ (c : Int) < 48 := by omega
          have hd2' : ¬ (57 : Int) < c := by omega
          go_wp2
          go_round
          case rel => exact ⟨k + 1, v, by omega, hv0.1, hv0.2, rfl, by go_num, HF3⟩
          case measure => simp [intOf]; omega
        · obtain rfl : k = s.size := by omega
          have HF2 := HF.out
          rw [List.drop_of_length_le (by omega), numD] at HF2
          have HE3 : Hid (numberF (bytesN s) = (m, true)) := by show _ = _; rw [HE2.out, HF2]; rfl
          clear HE2 HF HF2
          go_wp2
          go_ret2
          exact ⟨by rw [HE3.out]; rfl, rfl⟩
end Go.Proofs.Ytadnnpjnmfddmaa

