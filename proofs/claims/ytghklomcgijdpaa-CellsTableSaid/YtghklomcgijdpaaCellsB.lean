/- Contracts of package cells: Range, Index; slices.BinarySearch at uint64. -/
import Derived.Test.YtghklomcgijdpaaProg
import Derived.Test.YtghklomcgijdpaaCells
namespace Go.Proofs.Ytghklomcgijdpaa
open Go.RowKit

set_option maxRecDepth 100000 in
set_option maxHeartbeats 1000000 in
theorem crange_any (b : Nat) (u v : Int) (L R : List Nat) (i : Int) (w : World) (h : Tab w b u v L R) (hb : ∀ x ∈ L, 1 ≤ x ∧ x ≤ mostN) :
    Calls Try.prog 17 #[.pointer (some ⟨b, 0, none⟩), .int .i64 i] w fun e w' => e = .returned (.tuple #[.int .u64 (atL L i : Nat), .int .u64 (highL L i : Nat)]) ∧ Below w.heap.size w w' := by
  obtain ⟨⟨A, c, A2, c2, h1, h2, h3⟩, h4, h5⟩ := h
  have f1 := h1.four.1
  by_cases a : 0 ≤ i ∧ i < L.length
  · obtain ⟨a1, a2⟩ := a
    obtain ⟨k, rfl⟩ := Int.eq_ofNat_of_zero_le a1
    obtain ⟨g, o, rfl, hg, hc⟩ := h2.atN k (by omega)
    have HE : Hid (atL L k = L.getD k 0) := by show _ = _; unfold atL; rw [if_pos ⟨a1, a2⟩]; rfl
    have HF : Hid (highL L k = if (k : Int) = L.length - 1 then mostN else L.getD (k + 1) 0 - 1) := by show _ = _; unfold highL; rw [if_pos ⟨a1, a2⟩]; rfl
    obtain ⟨y, hy⟩ : ∃ y, highL L k = y := ⟨_, rfl⟩
    rw [hy] at HF ⊢
    rw [HE.out]
    clear hy
    obtain ⟨x, hx⟩ : ∃ x, L.getD k 0 = x := ⟨_, rfl⟩
    rw [hx] at hc ⊢
    obtain ⟨n, hn⟩ : ∃ n, L.length = n := ⟨_, rfl⟩
    rw [hn] at f1 a2 h4 HF
    have a3 : ¬ (k : Int) < 0 := by omega
    have a4 : ¬ (n : Int) ≤ k := by omega
    have v1 : IntKind.i64.wrap ((n : Int) - 1) = n - 1 := by simp only [IntKind.wrap_i64]; omega
    by_cases e : (k : Int) = n - 1
    · have e' : ((k : Int) == (n : Int) - 1) = true := beq_iff_eq.2 e
      have HY : Hid ((y : Int) = 9223372036854775808) := by show _ = _; rw [HF.out, if_pos e]; rfl
      clear h1 h2 h3 hx hn HE HF e hb
      go_enter Try.func17, Try.ntmps17
      go_wp2
      go_ret2
      exact ⟨by rw [HY.out]; rfl, Below.refl _ _⟩
    · have e' : ((k : Int) == (n : Int) - 1) = false := beq_eq_false_iff_ne.2 e
      obtain ⟨g', o', e1, hg', hc'⟩ := h2.atN (k + 1) (by omega)
      obtain ⟨rfl, rfl⟩ : g' = g ∧ o' = o := by injection e1 with e1; injection e1 with e1 e2 e3; exact ⟨e1.symm, e2.symm⟩
      have hz : 1 ≤ L.getD (k + 1) 0 ∧ L.getD (k + 1) 0 ≤ mostN := by
        have hlt : k + 1 < L.length := by omega
        rw [List.getD_eq_getElem?_getD, List.getElem?_eq_getElem hlt]
        exact hb _ (List.getElem_mem hlt)
      rw [if_neg e] at HF
      obtain ⟨z, hz'⟩ : ∃ z, L.getD (k + 1) 0 = z := ⟨_, rfl⟩
      rw [hz'] at hc' hz HF
      unfold mostN at hz
      have v2 : IntKind.i64.wrap ((k : Int) + 1) = ((k + 1 : Nat) : Int) := by simp only [IntKind.wrap_i64]; omega
      have v3 : IntKind.u64.wrap ((z : Int) - 1) = y := by rw [HF.out]; simp only [IntKind.wrap_u64]; omega
      have a5 : ((k + 1 : Nat) : Int) < n := by omega
      obtain ⟨k1, hk1⟩ : ∃ k1, k + 1 = k1 := ⟨_, rfl⟩
      rw [hk1] at v2 a5 hc'
      have a6 : (0 : Int) ≤ k1 := by omega
      clear h1 h2 h3 hx hn HE HF e hb e1 hz' hk1
      go_enter Try.func17, Try.ntmps17
      go_wp2
      go_quiet (fail)
      go_wp2
      go_ret2
      exact ⟨by first | rfl | simp, (Below.refl _ _).drewN _⟩
  · have HE : Hid (atL L i = 0) := by show _ = _; unfold atL; rw [if_neg a]
    have HF : Hid (highL L i = 0) := by show _ = _; unfold highL; rw [if_neg a]
    rw [HE.out, HF.out]
    obtain ⟨n, hn⟩ : ∃ n, L.length = n := ⟨_, rfl⟩
    rw [hn] at f1 a h4
    clear h1 h2 h3 hn HE HF hb
    by_cases a1 : i < 0
    · clear a
      go_enter Try.func17, Try.ntmps17
      go_wp2
      go_ret2
      exact ⟨rfl, Below.refl _ _⟩
    · have a2 : (n : Int) ≤ i := by omega
      clear a
      go_enter Try.func17, Try.ntmps17
      go_wp2
      go_ret2
      exact ⟨rfl, Below.refl _ _⟩

theorem nan1_any (x : Int) (w : World) : Calls Try.prog 33 #[.int .u64 x] w fun e w' => e = .returned (.bool false) ∧ w = w' := by
  go_enter Try.func33, Try.ntmps33
  go_wp2
  go_ret
  exact ⟨by first | rfl | simp, rfl⟩
theorem nan2_any (x : Int) (w : World) : Calls Try.prog 27 #[.int .u64 x] w fun e w' => e = .returned (.bool false) ∧ w = w' := by
  go_enter Try.func27, Try.ntmps27
  go_wp2
  go_ret
  exact ⟨by first | rfl | simp, rfl⟩
theorem cmpless_any (x y : Int) (w : World) : Calls Try.prog 26 #[.int .u64 x, .int .u64 y] w fun e w' => e = .returned (.bool (decide (x < y))) ∧ w = w' := by
  go_enter Try.func26, Try.ntmps26
  go_wp2_with fail
  refine (nan1_any x w).mono ?_
  rintro e w1 ⟨rfl, rfl⟩
  go_wp2
  go_ret
  exact ⟨by first | rfl | simp, rfl⟩

theorem sorted_getD {L : List Nat} (hs : L.Pairwise (· < ·)) {x y : Nat} (h : x ≤ y) (hy : y < L.length) : L.getD x 0 ≤ L.getD y 0 := by
  rw [List.getD_eq_getElem?_getD, List.getD_eq_getElem?_getD, List.getElem?_eq_getElem hy, List.getElem?_eq_getElem (by omega)]
  rcases Nat.lt_or_eq_of_le h with h | rfl
  · exact Nat.le_of_lt (List.pairwise_iff_getElem.1 hs x y (by omega) hy h)
  · exact Nat.le_refl _
theorem getD_at {L : List Nat} {j : Nat} (h : j < L.length) : L[j]'h = L.getD j 0 := by
  rw [List.getD_eq_getElem?_getD, List.getElem?_eq_getElem h]; rfl

/-- What BinarySearch answers. -/
def BsR (L : List Nat) (m : Nat) (e : Ending) : Prop := ∃ k : Nat, ∃ f : Bool, e = .returned (.tuple #[.int .i64 k, .bool f]) ∧ At' L m k ∧ (f = true ↔ k < L.length ∧ L.getD k 0 = m)

set_option maxRecDepth 100000 in
set_option maxHeartbeats 2000000 in
theorem bsearch_any (A : Option Addr) (c : Nat) (L : List Nat) (m : Nat) (w : World) (h : RdU w A (castL L)) (hs : L.Pairwise (· < ·)) (hl : L.length ≤ 4096) :
    Calls Try.prog 22 #[.slice A L.length c, .int .u64 m] w fun e w' => BsR L m e ∧ w = w' := by
  have HA := Lib.hid (fun j (hj : j < L.length) => h.atN j hj)
  have HS := Lib.hid (fun (x y : Nat) (h : x ≤ y) (hy : y < L.length) => sorted_getD hs h hy)
  obtain ⟨n, hn⟩ : ∃ n, L.length = n := ⟨_, rfl⟩
  rw [hn] at HA HS hl ⊢
  replace hn := Lib.hid hn
  clear h hs
  go_enter Try.func22, Try.ntmps22
  go_wp2
  go_loop [7, 8] (fun I J => ∃ i j : Nat, i ≤ j ∧ j ≤ n ∧ I = .int .i64 i ∧ J = .int .i64 j ∧ Hid (∀ x, x < i → L.getD x 0 < m) ∧ Hid (∀ x, j ≤ x → x < n → m ≤ L.getD x 0)) (fun I J => (intOf J).toNat - (intOf I).toNat)
  case atStart => exact ⟨0, n, by omega, by omega, rfl, rfl, Lib.hid (fun x hx => by omega), Lib.hid (fun x h1 h2 => by omega)⟩
  case round =>
    obtain ⟨i, j, hij, hjn, rfl, rfl, Hlo, Hhi⟩ := hrel
    by_cases hlt : i < j
    · have hlt' : (i : Int) < j := by omega
      obtain ⟨H, hH⟩ : ∃ H, (i + j) / 2 = H := ⟨_, rfl⟩
      obtain ⟨g, o, rfl, hg, hc⟩ := HA.out H (by omega)
      have v1 : ((i : Int) + j) / 2 = (H : Int) := by omega
      have hHj : i ≤ H ∧ H < j := by omega
      obtain ⟨y, hy⟩ : ∃ y, L.getD H 0 = y := ⟨_, rfl⟩
      rw [hy] at hc
      replace hy := Lib.hid hy
      have k0 : (0 : Int) ≤ H := by omega
      have k1 : (H : Int) < n := by omega
      have v2 : IntKind.i64.wrap ((H : Int) + 1) = H + 1 := by simp only [IntKind.wrap_i64]; omega
      clear hH
      go_wp2_with fail
      refine (cmpless_any y m w).mono ?_
      rintro e w1 ⟨rfl, rfl⟩
      by_cases hym : y < m
      · have hym' : (y : Int) < m := by omega
        have Hlo2 : Hid (∀ x, x < H + 1 → L.getD x 0 < m) := fun x hx => by
          have := HS.out x H (by omega) (by omega)
          rw [hy.out] at this
          omega
        clear Hlo
        go_wp2
        go_round
        case rel => exact ⟨H + 1, j, by omega, hjn, by go_num, rfl, Hlo2, Hhi⟩
        case measure => simp [intOf]; omega
      · have hym' : ¬ (y : Int) < m := by omega
        have Hhi2 : Hid (∀ x, H ≤ x → x < n → m ≤ L.getD x 0) := fun x h1 h2 => by
          have := HS.out H x h1 (by omega)
          rw [hy.out] at this
          omega
        clear Hhi
        go_wp2
        go_round
        case rel => exact ⟨i, H, by omega, by omega, rfl, rfl, Hlo, Hhi2⟩
        case measure => simp [intOf]; omega
    · obtain rfl : i = j := by omega
      have HAt : Hid (At' L m i) := ⟨by rw [hn.out]; omega, fun j hj h => by rw [getD_at]; exact Hlo.out j h, fun h => by rw [getD_at]; exact Hhi.out i (Nat.le_refl _) (by rw [← hn.out]; exact h)⟩
      clear Hlo Hhi HS
      by_cases hin : i < n
      · obtain ⟨g, o, rfl, hg, hc⟩ := HA.out i hin
        obtain ⟨y, hy⟩ : ∃ y, L.getD i 0 = y := ⟨_, rfl⟩
        rw [hy] at hc
        replace hy := Lib.hid hy
        have k0 : (0 : Int) ≤ i := by omega
        have k1 : (i : Int) < n := by omega
        by_cases e : y = m
        · have HE : Hid (L.getD i 0 = m) := hy.out.trans e
          subst e
          clear hy
          go_wp2
          go_ret2
          exact ⟨⟨i, true, rfl, HAt.out, ⟨fun _ => ⟨by rw [hn.out]; exact hin, HE.out⟩, fun _ => rfl⟩⟩, rfl⟩
        · have e' : ((y : Int) == (m : Int)) = false := beq_eq_false_iff_ne.2 (by omega)
          have HNe := Lib.hid e
          clear e
          go_wp2_with fail
          refine (nan2_any y w).mono ?_
          rintro e w1 ⟨rfl, rfl⟩
          go_wp2
          go_ret2
          exact ⟨⟨i, false, rfl, HAt.out, ⟨fun h => (by cases h), fun h => absurd (hy.out.symm.trans h.2) HNe.out⟩⟩, rfl⟩
      · obtain rfl : i = n := by omega
        have hin' : ¬ (i : Int) < i := by omega
        clear HA
        go_wp2
        go_ret2
        exact ⟨⟨i, false, rfl, HAt.out, ⟨fun h => (by cases h), fun h => absurd (h.1) (by rw [hn.out]; exact Nat.lt_irrefl _)⟩⟩, rfl⟩

/-- In which cell a magnitude lies, as the table finds it. -/
def cellAt (L : List Nat) (m : Nat) (i : Nat) : Prop := i < L.length ∧ L.getD i 0 ≤ m ∧ (i + 1 < L.length → m < L.getD (i + 1) 0)

/-- What Index answers. -/
def IxR (L : List Nat) (m : Nat) (e : Ending) : Prop := ((m = 0 ∨ mostN < m) ∧ e = .returned (.tuple #[.int .i64 0, .bool false])) ∨ (1 ≤ m ∧ m ≤ mostN ∧ ∃ i : Nat, e = .returned (.tuple #[.int .i64 i, .bool true]) ∧ cellAt L m i)

set_option maxRecDepth 100000 in
theorem cindex_any (b : Nat) (u v : Int) (L R : List Nat) (m : Nat) (w : World) (h : Tab w b u v L R) (hs : L.Pairwise (· < ·)) (h0 : 0 < L.length) (h1 : L.getD 0 0 = 1) (hm : m < 18446744073709551616) :
    Calls Try.prog 10 #[.pointer (some ⟨b, 0, none⟩), .int .u64 m] w fun e w' =>
      IxR L m e ∧ w = w' := by
  obtain ⟨⟨A, c, A2, c2, t1, t2, t3⟩, h4, h5⟩ := h
  have f1 := t1.four.1
  by_cases a : m = 0
  · subst a
    clear t1 t2 t3
    go_enter Try.func10, Try.ntmps10
    go_wp2
    go_ret2
    exact ⟨.inl ⟨.inl rfl, rfl⟩, rfl⟩
  have a' : ((m : Int) == 0) = false := beq_eq_false_iff_ne.2 (by omega)
  by_cases a2 : mostN < m
  · have a2' : (9223372036854775808 : Int) < m := by unfold mostN at a2; omega
    have HM := Lib.hid a2
    clear t1 t2 t3 a2
    go_enter Try.func10, Try.ntmps10
    go_wp2
    go_ret2
    exact ⟨.inl ⟨.inr HM.out, rfl⟩, rfl⟩
  have a2' : ¬ (9223372036854775808 : Int) < m := by unfold mostN at a2; omega
  have HM : Hid (1 ≤ m ∧ m ≤ mostN) := ⟨by omega, by omega⟩
  have H0 := Lib.hid h0
  have H1 := Lib.hid h1
  clear a a2 h0 h1
  go_enter Try.func10, Try.ntmps10
  go_wp2_with fail
  refine (bsearch_any A c L m w t2 hs h4).mono ?_
  rintro e w1 ⟨⟨k, f, rfl, HAt, Hf⟩, rfl⟩
  have HC : Hid (cellAt L m (if f = true then k else k - 1) ∧ (f = false → 1 ≤ k) ∧ k ≤ 4096) := by
    have z0 := H0.out
    have z1 := H1.out
    have z2 := HM.out
    have zle := HAt.le
    refine ⟨?_, ?_, by omega⟩
    · cases f with
      | true =>
        obtain ⟨k1, k2⟩ := Hf.1 rfl
        rw [if_pos rfl]
        refine ⟨k1, by omega, fun h => ?_⟩
        have := List.pairwise_iff_getElem.1 hs k (k + 1) k1 h (by omega)
        rw [getD_at, getD_at] at this
        omega
      | false =>
        have hk : 1 ≤ k := by
          rcases Nat.eq_zero_or_pos k with rfl | h
          · have h1 := HAt.over z0
            rw [getD_at] at h1
            have : ¬ (0 < L.length ∧ L.getD 0 0 = m) := fun h => by have := Hf.2 h; cases this
            exact absurd ⟨z0, by omega⟩ this
          · exact h
        have h2 := HAt.under (k - 1) (by omega) (by omega)
        rw [getD_at] at h2
        rw [if_neg (by decide)]
        refine ⟨by omega, by omega, fun h => ?_⟩
        rw [Nat.sub_add_cancel hk] at h ⊢
        have h3 := HAt.over h
        rw [getD_at] at h3
        rcases Nat.lt_or_eq_of_le h3 with h4 | h4
        · exact h4
        · have := Hf.2 ⟨h, h4.symm⟩; cases this
    · rintro rfl
      rcases Nat.eq_zero_or_pos k with rfl | h
      · have h1 := HAt.over z0
        rw [getD_at] at h1
        have : ¬ (0 < L.length ∧ L.getD 0 0 = m) := fun h => by have := Hf.2 h; cases this
        exact absurd ⟨z0, by omega⟩ this
      · exact h
  clear HAt Hf t1 t2 t3 hs
  cases f with
  | true =>
    go_wp2
    go_ret2
    exact ⟨.inr ⟨HM.out.1, HM.out.2, k, rfl, HC.out.1⟩, rfl⟩
  | false =>
    have hk := HC.out.2.1 rfl
    have hk2 := HC.out.2.2
    have v1 : IntKind.i64.wrap ((k : Int) - 1) = ((k - 1 : Nat) : Int) := by simp only [IntKind.wrap_i64]; omega
    go_wp2
    go_ret2
    exact ⟨.inr ⟨HM.out.1, HM.out.2, k - 1, rfl, HC.out.1⟩, rfl⟩
end Go.Proofs.Ytghklomcgijdpaa

