/- Contracts of package crate: New, far, At, Total. -/
import Derived.Test.YtogidoohgfmbfaaProg
import Derived.Test.YtogidoohgfmbfaaBase
import Derived.Test.YtogidoohgfmbfaaPlus
namespace Go.Proofs.Ytogidoohgfmbfaa
open Go.RowKit

/-- Block b is a crate's, whose counts, from index f on, lie in block g. -/
def CrB (w : World) (b g : Nat) (f : Int) (cs : List Int) (tot : Int) : Prop :=
  At w b #[.int .i64 f, .slice (if cs = [] then none else some ⟨g, 0, none⟩) cs.length cs.length, .int .u64 tot] 52 ∧ (cs ≠ [] → At w g (cs.map (Value.int .u64)).toArray 26)

/-- A crate that may be. -/
structure CrOk (f : Int) (cs : List Int) (tot : Int) : Prop where
  lo : -9223372036854775808 ≤ f
  hi : f + cs.length ≤ 9223372036854775808
  top : f ≤ 9223372036854775807
  len : cs.length ≤ 4096
  pos : ∀ c ∈ cs, 0 ≤ c ∧ c ≤ tot
  tot0 : 0 ≤ tot
  tot1 : tot ≤ 9223372036854775807

theorem CrB.below {w w' : World} {b g : Nat} {f tot : Int} {cs : List Int} (h : CrB w b g f cs tot) (hb : Below w.heap.size w w') : CrB w' b g f cs tot := ⟨h.1.below hb, fun hn => (h.2 hn).below hb⟩
theorem CrB.nil {w : World} {b g : Nat} {f tot : Int} (h : CrB w b g f [] tot) : At w b #[.int .i64 f, .slice none 0 0, .int .u64 tot] 52 := h.1
theorem CrB.cons {w : World} {b g : Nat} {f tot : Int} {cs : List Int} (h : CrB w b g f cs tot) (hn : cs ≠ []) : At w b #[.int .i64 f, .slice (some ⟨g, 0, none⟩) cs.length cs.length, .int .u64 tot] 52 := by
  have := h.1; rwa [if_neg hn] at this

theorem At.ints {w : World} {g k : Nat} {cs : List Int} {T : TypeId} {q : IntKind} (h : At w g (cs.map (Value.int q)).toArray T) (hk : k < cs.length) : w.cell? ⟨g, k, none⟩ = some (.int q (cs.getD k 0)) := by
  refine h.cell ?_
  rw [List.getElem?_toArray, List.getElem?_map, List.getD_eq_getElem?_getD, List.getElem?_eq_getElem hk]
  rfl

theorem far_any (a b : Int) (w : World) (ha : -9223372036854775808 ≤ a) (hb : b ≤ 9223372036854775807) (hab : a ≤ b) :
    Calls Try.prog 27 #[.int .i64 a, .int .i64 b] w fun e w' => ∃ n, e = .returned (.tuple #[.int .i64 n, .bool (decide (b - a < 4096))]) ∧ (b - a < 4096 → n = b - a + 1) ∧ w = w' := by
  obtain ⟨x, hx⟩ : ∃ x, IntKind.u64.wrap b = x := ⟨_, rfl⟩
  obtain ⟨y, hy⟩ : ∃ y, IntKind.u64.wrap a = y := ⟨_, rfl⟩
  have hd : IntKind.u64.wrap (x - y) = b - a := by subst hx hy; simp only [IntKind.wrap_u64]; omega
  obtain ⟨d, hd'⟩ : ∃ d, b - a = d := ⟨_, rfl⟩
  rw [hd'] at hd ⊢
  have hd0 : 0 ≤ d ∧ d < 18446744073709551616 := by omega
  obtain ⟨hd0, hd1⟩ := hd0
  obtain ⟨s, hs⟩ : ∃ s, IntKind.i64.wrap d = s := ⟨_, rfl⟩
  obtain ⟨t, ht⟩ : ∃ t, IntKind.i64.wrap (s + 1) = t := ⟨_, rfl⟩
  have HT : Hid (d < 4096 → t = d + 1) := fun h => by subst ht hs; simp only [IntKind.wrap_i64]; omega
  go_enter Try.func27, Try.ntmps27
  go_wp2
  go_ret2
  exact ⟨t, rfl, HT.out, rfl⟩

theorem crnew_any (w : World) : Calls Try.prog 9 #[] w fun e w' => ∃ b, e = .returned (.pointer (some ⟨b, 0, none⟩)) ∧ b = w.heap.size ∧ CrB w' b 0 0 [] 0 ∧ Below w.heap.size w w' := by
  go_enter Try.func9, Try.ntmps9
  go_wp2
  go_ret
  exact ⟨w.heap.size, rfl, rfl, ⟨At.new _ _ _, fun h => absurd rfl h⟩, (by repeat (first | with_reducible assumption | with_reducible exact Below.refl _ _ | with_reducible refine Below.drew ?_ | with_reducible refine Below.drewN ?_ _ | with_reducible refine Below.setCell ?_ (by first | omega | (simp; done) | (simp; omega)) _ | with_reducible refine Below.alloc ?_ (by first | omega | (simp; done) | (simp; omega) | (simp [World.setCell]; omega)) _))⟩

theorem crtotal_any (w : World) (b g : Nat) (f tot : Int) (cs : List Int) (h : CrB w b g f cs tot) :
    Calls Try.prog 13 #[.pointer (some ⟨b, 0, none⟩)] w fun e w' => e = .returned (.int .u64 tot) ∧ w = w' := by
  obtain ⟨s1, _⟩ := h
  have f1 := s1.three
  have l1 := s1.lt
  go_enter Try.func13, Try.ntmps13
  go_wp2
  go_ret
  exact ⟨rfl, rfl⟩
theorem crtotal_nil (w : World) :
    Calls Try.prog 13 #[.pointer none] w fun e w' => e = .returned (.int .u64 0) ∧ w = w' := by
  go_enter Try.func13, Try.ntmps13
  go_wp2
  go_ret
  exact ⟨rfl, rfl⟩

/-- How many of an index. -/
def crAt (f : Int) (cs : List Int) (q : Int) : Int := if f ≤ q ∧ q < f + cs.length then cs.getD (q - f).toNat 0 else 0

set_option maxHeartbeats 1000000 in
theorem crat_any (w : World) (b g : Nat) (f tot q : Int) (cs : List Int) (h : CrB w b g f cs tot) (ok : CrOk f cs tot) (hq0 : -9223372036854775808 ≤ q) (hq1 : q ≤ 9223372036854775807) :
    Calls Try.prog 20 #[.pointer (some ⟨b, 0, none⟩), .int .i64 q] w fun e w' => e = .returned (.int .u64 (crAt f cs q)) ∧ Below w.heap.size w w' := by
  obtain ⟨o1, o2, o3, o4, o5, o6, o7⟩ := ok
  by_cases hn : cs = []
  · subst hn
    have s1 := h.nil
    have f1 := s1.three
    have l1 := s1.lt
    have HA : Hid (crAt f [] q = 0) := by show _ = _; simp [crAt]
    clear h o5
    go_enter Try.func20, Try.ntmps20
    go_wp2
    go_quiet (fail)
    go_wp2
    go_ret
    exact ⟨by rw [HA.out]; rfl, (Below.refl _ _).drewN _⟩
  · have s1 := h.cons hn
    have s2 := h.2 hn
    have f1 := s1.three
    have l1 := s1.lt
    have l2 := s2.lt
    have hlen : 0 < cs.length := List.length_pos_iff.2 hn
    obtain ⟨n, hN⟩ : ∃ n, cs.length = n := ⟨_, rfl⟩
    rw [hN] at o2 o4 hlen f1
    obtain ⟨s, hs⟩ : ∃ s, IntKind.i64.wrap (f + n) = s := ⟨_, rfl⟩
    have ht : IntKind.i64.wrap (s - 1) = f + n - 1 := by subst hs; simp only [IntKind.wrap_i64]; omega
    have hne : ((n : Int) == 0) = false := beq_eq_false_iff_ne.2 (by omega)
    by_cases h1 : q < f
    · have HA : Hid (crAt f cs q = 0) := by show _ = _; simp only [crAt]; rw [if_neg (by omega)]
      clear h s1 s2 o5
      go_enter Try.func20, Try.ntmps20
      go_wp2
      go_quiet (fail)
      go_wp2
      go_ret
      exact ⟨by rw [HA.out]; rfl, (Below.refl _ _).drewN _⟩
    · by_cases h2 : f + n - 1 < q
      · have HA : Hid (crAt f cs q = 0) := by show _ = _; simp only [crAt]; rw [if_neg (by omega)]
        clear h s1 s2 o5
        go_enter Try.func20, Try.ntmps20
        go_wp2
        go_quiet (fail)
        go_wp2
        go_ret
        exact ⟨by rw [HA.out]; rfl, (Below.refl _ _).drewN _⟩
      · obtain ⟨k, hk⟩ : ∃ k : Nat, q = f + k := ⟨(q - f).toNat, by omega⟩
        subst hk
        have hkn : k < n := by omega
        have c1 := s2.ints (k := k) (by omega)
        obtain ⟨v, hv⟩ : ∃ v, cs.getD k 0 = v := ⟨_, rfl⟩
        have HA : Hid (crAt f cs (f + k) = v) := by show _ = _; simp only [crAt]; rw [if_pos (by omega), show (f + k - f).toNat = k by omega, hv]
        rw [hv] at c1
        clear h s1 s2 o5 hv
        have hk2 : (0 : Int) ≤ k := by omega
        have hk3 : (k : Int) < n := by omega
        have hd : IntKind.i64.wrap (f + k - f) = k := by simp only [IntKind.wrap_i64]; omega
        go_enter Try.func20, Try.ntmps20
        go_wp2
        go_quiet (fail)
        go_wp2
        go_quiet (fail)
        go_wp2
        go_ret
        exact ⟨by rw [HA.out]; rfl, ((Below.refl _ _).drewN _).drewN _⟩

theorem crat_nil (w : World) (q : Int) :
    Calls Try.prog 20 #[.pointer none, .int .i64 q] w fun e w' => e = .returned (.int .u64 0) ∧ Below w.heap.size w w' := by
  go_enter Try.func20, Try.ntmps20
  go_wp2
  go_quiet (fail)
  go_wp2
  go_ret
  exact ⟨rfl, (Below.refl _ _).drewN _⟩
end Go.Proofs.Ytogidoohgfmbfaa

