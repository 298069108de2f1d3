/- Contracts of package bins: Add. -/
import Derived.Test.YtondkkhagbcadaaGreatProg
import Derived.Test.YtondkkhagbcadaaGreatBn
import Derived.Test.YtondkkhagbcadaaGreatPlus
namespace Go.Proofs.YtondkkhagbcadaaGreat
open Go.RowKit

theorem badd_nil (x c : Int) (w : World) : Calls Tryz.prog 49 #[.pointer none, .int .i64 x, .int .u64 c] w fun e w' => e = .returned (.int .i64 2) ∧ w = w' := by
  go_enter Tryz.func49, Tryz.ntmps49
  go_wp2
  go_ret
  exact ⟨rfl, rfl⟩
theorem badd_zero (b : Nat) (x : Int) (w : World) : Calls Tryz.prog 49 #[.pointer (some ⟨b, 0, none⟩), .int .i64 x, .int .u64 0] w fun e w' => e = .returned (.int .i64 1) ∧ w = w' := by
  go_enter Tryz.func49, Tryz.ntmps49
  go_wp2
  go_ret
  exact ⟨rfl, rfl⟩
set_option maxRecDepth 100000 in
set_option maxHeartbeats 1000000 in
theorem badd_full (PB : List Nat) (b : Nat) (k : Bool) (pa : Nat) (part : Nat → Int) (rep : Int → Int) (s : Bool) (most : Int) (c0 c1 : Nat) (S0 S1 : List Nat) (ps0 ps1 : List (Int × Int)) (t0 t1 zero t x c : Int) (w : World)
    (h : BnB PB w b k pa part rep s most c0 c1 S0 S1 ps0 ps1 t0 t1 zero) (hz : 0 ≤ zero) (he : t0 + zero + t1 = t) (ht : t ≤ 9223372036854775807) (hc : 0 < c) (hc' : c < 18446744073709551616) (hf : 9223372036854775807 < t + c) :
    Calls Tryz.prog 49 #[.pointer (some ⟨b, 0, none⟩), .int .i64 x, .int .u64 c] w fun e w' => e = .returned (.int .i64 6) ∧ Below w.heap.size w w' := by
  have HT := Lib.hid (btot_at _ _ _ _ _ _ _ _ _ _ _ _ _ _ _ _ _ _ w h hz he ht)
  have c0' : (c == 0) = false := beq_eq_false_iff_ne.2 (by omega)
  have p0 := h.s0.sums
  have p1 := h.s1.sums
  have H0 : Hid (0 ≤ t ∧ t ≤ 9223372036854775807 ∧ 0 < c ∧ c < 18446744073709551616) := ⟨by omega, ht, hc, hc'⟩
  obtain ⟨q1, q2⟩ := plus2_no (a := t) (b := c) (by omega)
  have HP := Lib.hid (And.intro q1 q2)
  clear h hz he ht hc hc' hf p0 p1 q1 q2
  go_enter Tryz.func49, Tryz.ntmps49
  go_wp2_with fail
  refine HT.out.mono ?_
  rintro e w1 ⟨rfl, hb⟩
  have z1 := hb.size
  clear HT
  go_wp2_with fail
  have a1 := At.new w1 #[.int .u64 t, .int .u64 c] 22
  refine (plus2_any w1.heap.size t c _ (by have := H0.out; omega) (by have := H0.out; omega) (by have := H0.out; omega) (by have := H0.out; omega) (a1.cell rfl) (a1.cell rfl)).mono ?_
  rintro e w2 ⟨rfl, rfl⟩
  rw [HP.out.1, HP.out.2]
  clear a1
  go_wp2
  go_ret
  exact ⟨rfl, (by repeat (first | with_reducible assumption | with_reducible exact Below.refl _ _ | with_reducible refine Below.drew ?_ | with_reducible refine Below.drewN ?_ _ | with_reducible refine Below.setCell ?_ (by first | omega | (simp; done) | (simp; omega)) _ | with_reducible refine Below.alloc ?_ (by first | omega | (simp; done) | (simp; omega) | (simp [World.setCell]; omega)) _))⟩
/-- What an addition leaves. -/
def BaddR (b : Nat) (S : List Nat) (k : Bool) (part : Nat → Int) (rep : Int → Int) (s : Bool) (most : Int) (ps0 ps1 : List (Int × Int)) (t0 t1 zero : Int) (w w' : World) : Prop :=
  ∃ S', GrownS S S' w.heap.size ∧ Bn w' b S' k part rep s most ps0 ps1 t0 t1 zero ∧ Frame S w w'
theorem badd_fin0 {PB : List Nat} {w w1 w2 : World} {b pa c0 c1 : Nat} {k s : Bool} {part : Nat → Int} {rep : Int → Int} {S0 S1 : List Nat} {most t0 t1 zero t : Int} {ps0 ps1 ps : List (Int × Int)} (h : BnB PB w1 b k pa part rep s most c0 c1 S0 S1 ps0 ps1 t0 t1 zero) (hb : Below w.heap.size w w1)
    (hA : StoA s c0 S0 most ps t w1 w2) : BaddR b (PB ++ (b :: (S0 ++ S1))) k part rep s most ps ps1 t t1 zero w w2 := by
  obtain ⟨T, hg, hS, hF⟩ := hA
  have hz := hb.size
  refine ⟨PB ++ (b :: (T ++ S1)), fun j hj => ?_, ⟨_, _, _, _, _, _, rfl, h.side0 hg hS hF⟩, (Frame.of_below hb).trans (hF.mono fun j hj => by simp [hj])⟩
  simp only [List.mem_cons, List.mem_append] at hj ⊢
  rcases hj with hj | rfl | hj | hj
  · exact .inl (.inl hj)
  · exact .inl (.inr (.inl rfl))
  · rcases hg j hj with h1 | h1
    · exact .inl (.inr (.inr (.inl h1)))
    · exact .inr (Nat.le_trans hz h1)
  · exact .inl (.inr (.inr (.inr hj)))
theorem badd_fin1 {PB : List Nat} {w w1 w2 : World} {b pa c0 c1 : Nat} {k s : Bool} {part : Nat → Int} {rep : Int → Int} {S0 S1 : List Nat} {most t0 t1 zero t : Int} {ps0 ps1 ps : List (Int × Int)} (h : BnB PB w1 b k pa part rep s most c0 c1 S0 S1 ps0 ps1 t0 t1 zero) (hb : Below w.heap.size w w1)
    (hA : StoA s c1 S1 most ps t w1 w2) : BaddR b (PB ++ (b :: (S0 ++ S1))) k part rep s most ps0 ps t0 t zero w w2 := by
  obtain ⟨T, hg, hS, hF⟩ := hA
  have hz := hb.size
  refine ⟨PB ++ (b :: (S0 ++ T)), fun j hj => ?_, ⟨_, _, _, _, _, _, rfl, h.side1 hg hS hF⟩, (Frame.of_below hb).trans (hF.mono fun j hj => by simp [hj])⟩
  simp only [List.mem_cons, List.mem_append] at hj ⊢
  rcases hj with hj | rfl | hj | hj
  · exact .inl (.inl hj)
  · exact .inl (.inr (.inl rfl))
  · exact .inl (.inr (.inr (.inl hj)))
  · rcases hg j hj with h1 | h1
    · exact .inl (.inr (.inr (.inr h1)))
    · exact .inr (Nat.le_trans hz h1)
set_option maxRecDepth 100000 in
set_option maxHeartbeats 1000000 in
theorem badd_neg (PB : List Nat) (b : Nat) (k : Bool) (pa : Nat) (part : Nat → Int) (rep : Int → Int) (s : Bool) (most : Int) (c0 c1 : Nat) (S0 S1 : List Nat) (ps0 ps1 : List (Int × Int)) (t0 t1 zero t x c : Int) (w : World)
    (h : BnB PB w b k pa part rep s most c0 c1 S0 S1 ps0 ps1 t0 t1 zero) (hz : 0 ≤ zero) (he : t0 + zero + t1 = t) (hc : 0 < c) (hf : t + c ≤ 9223372036854775807) (hx1 : -9223372036854775808 ≤ x) (hx : x < 0) :
    Calls Tryz.prog 49 #[.pointer (some ⟨b, 0, none⟩), .int .i64 x, .int .u64 c] w fun e w' => e = .returned (.int .i64 0) ∧ BaddR b (PB ++ (b :: (S0 ++ S1))) k part rep s most (capRow s most ps0 (part x.natAbs) c) ps1 (t0 + c) t1 zero w w' := by
  have HT := Lib.hid (btot_at _ _ _ _ _ _ _ _ _ _ _ _ _ _ _ _ _ _ w h hz he (by omega))
  have c0' : (c == 0) = false := beq_eq_false_iff_ne.2 (by omega)
  have p0 := h.s0.sums
  have p1 := h.s1.sums
  have H := Lib.hid h
  have HSG := Lib.hid fun W => sgof_any x W hx1 (by omega)
  have HIX := Lib.hid fun W (hb : Below w.heap.size w W) => h.prt.ix W hb x.natAbs (by omega) (by omega)
  have H0 : Hid (0 ≤ t ∧ t + c ≤ 9223372036854775807 ∧ 0 < c ∧ 0 ≤ zero ∧ t0 ≤ t ∧ t1 ≤ t ∧ zero ≤ t) := ⟨by omega, hf, hc, hz, by omega, by omega, by omega⟩
  obtain ⟨q1, q2⟩ := plus2_yes (a := t) (b := c) (by omega)
  have HP := Lib.hid (And.intro q1 q2)
  have s1 := h.at'
  have m1 := (pIndex k).1
  have m2 := (pIndex k).2
  have HAD := Lib.hid fun W (hb : Below w.heap.size w W) => sto_add s c0 S0 most t0 (part x.natAbs) c ps0 W ((H.out.below hb).s0) H0.out.2.2.1 (by have := H0.out; omega) (by have := h.prt.rng x.natAbs (by omega) (by omega); omega)
  have m3 := (sAdd s).1
  have m4 := (sAdd s).2
  obtain ⟨q, hq⟩ : ∃ q, part x.natAbs = q := ⟨_, rfl⟩
  rw [hq] at HIX HAD
  rw [hq]
  obtain ⟨sT, hsT⟩ : ∃ z, (sKnd s).T = z := ⟨_, rfl⟩
  obtain ⟨sF, hsF⟩ : ∃ z, (sKnd s).fA = z := ⟨_, rfl⟩
  rw [hsT] at s1 m3
  rw [hsF] at m3 m4 HAD
  obtain ⟨m, hm⟩ : ∃ m : Int, (x.natAbs : Int) = m := ⟨_, rfl⟩
  rw [hm] at HSG HIX
  obtain ⟨pT, hpT⟩ : ∃ z, (pKnd k).T = z := ⟨_, rfl⟩
  obtain ⟨pF, hpF⟩ : ∃ z, (pKnd k).fI = z := ⟨_, rfl⟩
  rw [hpT] at s1 m1
  rw [hpF] at m1 m2 HIX
  clear h hz he hc hf p0 p1 q1 q2 hpT hpF hsT hsF hm hq hx1
  go_enter Tryz.func49, Tryz.ntmps49
  go_wp2_with fail
  refine HT.out.mono ?_
  rintro e w1 ⟨rfl, hb⟩
  have z1 := hb.size
  clear HT
  go_wp2_with fail
  have a1 := At.new w1 #[.int .u64 t, .int .u64 c] 22
  refine (plus2_any w1.heap.size t c _ (by have := H0.out; omega) (by have := H0.out; omega) (by have := H0.out; omega) (by have := H0.out; omega) (a1.cell rfl) (a1.cell rfl)).mono ?_
  rintro e w2 ⟨rfl, rfl⟩
  rw [HP.out.1, HP.out.2]
  have hB2 : Below w.heap.size w (w1.alloc (.cells #[.int .u64 t, .int .u64 c] 22)) := (by repeat (first | with_reducible assumption | with_reducible exact Below.refl _ _ | with_reducible refine Below.drew ?_ | with_reducible refine Below.drewN ?_ _ | with_reducible refine Below.setCell ?_ (by first | omega | (simp; done) | (simp; omega)) _ | with_reducible refine Below.alloc ?_ (by first | omega | (simp; done) | (simp; omega) | (simp [World.setCell]; omega)) _))
  obtain ⟨W2, hW2⟩ : ∃ W2, w1.alloc (.cells #[.int .u64 t, .int .u64 c] 22) = W2 := ⟨_, rfl⟩
  have HB2 := Lib.hid hB2
  rw [hW2] at HB2
  try rw [hW2]
  clear hB2 hW2 hb a1 z1
  go_wp2_with fail
  refine (HSG.out W2).mono ?_
  rintro e w3 ⟨rfl, rfl⟩
  rw [decide_eq_true hx]
  clear hx
  have s2 := s1.below HB2.out
  have f2 := s2.six
  have l2 := s2.lt
  clear HSG s1
  go_wp2_with fail
  refine (HIX.out W2 HB2.out).mono ?_
  rintro e w4 ⟨rfl, hb⟩
  have HB4 := Lib.hid (keep1 HB2.out hb)
  have s4 := s2.below hb
  have f4 := s4.six
  have l4 := s4.lt
  clear hb HB2 f2 l2 s2 HIX
  go_wp2_with fail
  refine (HAD.out w4 HB4.out).mono ?_
  rintro e w5 ⟨rfl, hA⟩
  have HF := Lib.hid (badd_fin0 (H.out.below HB4.out) HB4.out hA)
  clear hA f4 l4 s4 HAD H
  go_wp2
  go_ret
  exact ⟨rfl, HF.out⟩
set_option maxRecDepth 100000 in
set_option maxHeartbeats 1000000 in
theorem badd_pos (PB : List Nat) (b : Nat) (k : Bool) (pa : Nat) (part : Nat → Int) (rep : Int → Int) (s : Bool) (most : Int) (c0 c1 : Nat) (S0 S1 : List Nat) (ps0 ps1 : List (Int × Int)) (t0 t1 zero t x c : Int) (w : World)
    (h : BnB PB w b k pa part rep s most c0 c1 S0 S1 ps0 ps1 t0 t1 zero) (hz : 0 ≤ zero) (he : t0 + zero + t1 = t) (hc : 0 < c) (hf : t + c ≤ 9223372036854775807) (hx2 : x ≤ 9223372036854775807) (hx : 0 < x) :
    Calls Tryz.prog 49 #[.pointer (some ⟨b, 0, none⟩), .int .i64 x, .int .u64 c] w fun e w' => e = .returned (.int .i64 0) ∧ BaddR b (PB ++ (b :: (S0 ++ S1))) k part rep s most ps0 (capRow s most ps1 (part x.natAbs) c) t0 (t1 + c) zero w w' := by
  have HT := Lib.hid (btot_at _ _ _ _ _ _ _ _ _ _ _ _ _ _ _ _ _ _ w h hz he (by omega))
  have c0' : (c == 0) = false := beq_eq_false_iff_ne.2 (by omega)
  have p0 := h.s0.sums
  have p1 := h.s1.sums
  have H := Lib.hid h
  have HSG := Lib.hid fun W => sgof_any x W (by omega) hx2
  have HIX := Lib.hid fun W (hb : Below w.heap.size w W) => h.prt.ix W hb x.natAbs (by omega) (by omega)
  have H0 : Hid (0 ≤ t ∧ t + c ≤ 9223372036854775807 ∧ 0 < c ∧ 0 ≤ zero ∧ t0 ≤ t ∧ t1 ≤ t ∧ zero ≤ t) := ⟨by omega, hf, hc, hz, by omega, by omega, by omega⟩
  obtain ⟨q1, q2⟩ := plus2_yes (a := t) (b := c) (by omega)
  have HP := Lib.hid (And.intro q1 q2)
  have s1 := h.at'
  have m1 := (pIndex k).1
  have m2 := (pIndex k).2
  have HAD := Lib.hid fun W (hb : Below w.heap.size w W) => sto_add s c1 S1 most t1 (part x.natAbs) c ps1 W ((H.out.below hb).s1) H0.out.2.2.1 (by have := H0.out; omega) (by have := h.prt.rng x.natAbs (by omega) (by omega); omega)
  have m3 := (sAdd s).1
  have m4 := (sAdd s).2
  obtain ⟨q, hq⟩ : ∃ q, part x.natAbs = q := ⟨_, rfl⟩
  rw [hq] at HIX HAD
  rw [hq]
  obtain ⟨sT, hsT⟩ : ∃ z, (sKnd s).T = z := ⟨_, rfl⟩
  obtain ⟨sF, hsF⟩ : ∃ z, (sKnd s).fA = z := ⟨_, rfl⟩
  rw [hsT] at s1 m3
  rw [hsF] at m3 m4 HAD
  obtain ⟨m, hm⟩ : ∃ m : Int, (x.natAbs : Int) = m := ⟨_, rfl⟩
  rw [hm] at HSG HIX
  obtain ⟨pT, hpT⟩ : ∃ z, (pKnd k).T = z := ⟨_, rfl⟩
  obtain ⟨pF, hpF⟩ : ∃ z, (pKnd k).fI = z := ⟨_, rfl⟩
  rw [hpT] at s1 m1
  rw [hpF] at m1 m2 HIX
  clear h hz he hc hf p0 p1 q1 q2 hpT hpF hsT hsF hm hq hx2
  go_enter Tryz.func49, Tryz.ntmps49
  go_wp2_with fail
  refine HT.out.mono ?_
  rintro e w1 ⟨rfl, hb⟩
  have z1 := hb.size
  clear HT
  go_wp2_with fail
  have a1 := At.new w1 #[.int .u64 t, .int .u64 c] 22
  refine (plus2_any w1.heap.size t c _ (by have := H0.out; omega) (by have := H0.out; omega) (by have := H0.out; omega) (by have := H0.out; omega) (a1.cell rfl) (a1.cell rfl)).mono ?_
  rintro e w2 ⟨rfl, rfl⟩
  rw [HP.out.1, HP.out.2]
  have hB2 : Below w.heap.size w (w1.alloc (.cells #[.int .u64 t, .int .u64 c] 22)) := (by repeat (first | with_reducible assumption | with_reducible exact Below.refl _ _ | with_reducible refine Below.drew ?_ | with_reducible refine Below.drewN ?_ _ | with_reducible refine Below.setCell ?_ (by first | omega | (simp; done) | (simp; omega)) _ | with_reducible refine Below.alloc ?_ (by first | omega | (simp; done) | (simp; omega) | (simp [World.setCell]; omega)) _))
  obtain ⟨W2, hW2⟩ : ∃ W2, w1.alloc (.cells #[.int .u64 t, .int .u64 c] 22) = W2 := ⟨_, rfl⟩
  have HB2 := Lib.hid hB2
  rw [hW2] at HB2
  try rw [hW2]
  clear hB2 hW2 hb a1 z1
  go_wp2_with fail
  refine (HSG.out W2).mono ?_
  rintro e w3 ⟨rfl, rfl⟩
  rw [decide_eq_false (by omega : ¬ x < 0)]
  clear hx
  have s2 := s1.below HB2.out
  have f2 := s2.six
  have l2 := s2.lt
  clear HSG s1
  go_wp2_with fail
  refine (HIX.out W2 HB2.out).mono ?_
  rintro e w4 ⟨rfl, hb⟩
  have HB4 := Lib.hid (keep1 HB2.out hb)
  have s4 := s2.below hb
  have f4 := s4.six
  have l4 := s4.lt
  clear hb HB2 f2 l2 s2 HIX
  go_wp2_with fail
  refine (HAD.out w4 HB4.out).mono ?_
  rintro e w5 ⟨rfl, hA⟩
  have HF := Lib.hid (badd_fin1 (H.out.below HB4.out) HB4.out hA)
  clear hA f4 l4 s4 HAD H
  go_wp2
  go_ret
  exact ⟨rfl, HF.out⟩
set_option maxRecDepth 100000 in
set_option maxHeartbeats 1000000 in
theorem badd_nought (PB : List Nat) (b : Nat) (k : Bool) (pa : Nat) (part : Nat → Int) (rep : Int → Int) (s : Bool) (most : Int) (c0 c1 : Nat) (S0 S1 : List Nat) (ps0 ps1 : List (Int × Int)) (t0 t1 zero t c : Int) (w : World)
    (h : BnB PB w b k pa part rep s most c0 c1 S0 S1 ps0 ps1 t0 t1 zero) (hz : 0 ≤ zero) (he : t0 + zero + t1 = t) (hc : 0 < c) (hf : t + c ≤ 9223372036854775807) :
    Calls Tryz.prog 49 #[.pointer (some ⟨b, 0, none⟩), .int .i64 0, .int .u64 c] w fun e w' => e = .returned (.int .i64 0) ∧ BaddR b (PB ++ (b :: (S0 ++ S1))) k part rep s most ps0 ps1 t0 t1 (zero + c) w w' := by
  have HT := Lib.hid (btot_at _ _ _ _ _ _ _ _ _ _ _ _ _ _ _ _ _ _ w h hz he (by omega))
  have c0' : (c == 0) = false := beq_eq_false_iff_ne.2 (by omega)
  have p0 := h.s0.sums
  have p1 := h.s1.sums
  have H := Lib.hid h
  have HSG := Lib.hid fun W => sgof_any 0 W (by omega) (by omega)
  have HIX := Lib.hid fun W (hb : Below w.heap.size w W) => h.prt.i0 W hb
  have H0 : Hid (0 ≤ t ∧ t + c ≤ 9223372036854775807 ∧ 0 < c ∧ 0 ≤ zero ∧ t0 ≤ t ∧ t1 ≤ t ∧ zero ≤ t) := ⟨by omega, hf, hc, hz, by omega, by omega, by omega⟩
  obtain ⟨q1, q2⟩ := plus2_yes (a := t) (b := c) (by omega)
  have HP := Lib.hid (And.intro q1 q2)
  have s1 := h.at'
  have m1 := (pIndex k).1
  have m2 := (pIndex k).2
  have HW : Hid (IntKind.u64.wrap (zero + c) = zero + c) := by show _ = _; simp only [IntKind.wrap_u64]; have := H0.out; omega
  obtain ⟨pT, hpT⟩ : ∃ z, (pKnd k).T = z := ⟨_, rfl⟩
  obtain ⟨pF, hpF⟩ : ∃ z, (pKnd k).fI = z := ⟨_, rfl⟩
  rw [hpT] at s1 m1
  rw [hpF] at m1 m2 HIX
  clear h hz he hc hf p0 p1 q1 q2 hpT hpF 
  go_enter Tryz.func49, Tryz.ntmps49
  go_wp2_with fail
  refine HT.out.mono ?_
  rintro e w1 ⟨rfl, hb⟩
  have z1 := hb.size
  clear HT
  go_wp2_with fail
  have a1 := At.new w1 #[.int .u64 t, .int .u64 c] 22
  refine (plus2_any w1.heap.size t c _ (by have := H0.out; omega) (by have := H0.out; omega) (by have := H0.out; omega) (by have := H0.out; omega) (a1.cell rfl) (a1.cell rfl)).mono ?_
  rintro e w2 ⟨rfl, rfl⟩
  rw [HP.out.1, HP.out.2]
  have hB2 : Below w.heap.size w (w1.alloc (.cells #[.int .u64 t, .int .u64 c] 22)) := (by repeat (first | with_reducible assumption | with_reducible exact Below.refl _ _ | with_reducible refine Below.drew ?_ | with_reducible refine Below.drewN ?_ _ | with_reducible refine Below.setCell ?_ (by first | omega | (simp; done) | (simp; omega)) _ | with_reducible refine Below.alloc ?_ (by first | omega | (simp; done) | (simp; omega) | (simp [World.setCell]; omega)) _))
  obtain ⟨W2, hW2⟩ : ∃ W2, w1.alloc (.cells #[.int .u64 t, .int .u64 c] 22) = W2 := ⟨_, rfl⟩
  have HB2 := Lib.hid hB2
  rw [hW2] at HB2
  try rw [hW2]
  clear hB2 hW2 hb a1 z1
  go_wp2_with fail
  refine (HSG.out W2).mono ?_
  rintro e w3 ⟨rfl, rfl⟩
  rw [show ((Int.natAbs 0 : Nat) : Int) = 0 from rfl, show decide ((0 : Int) < 0) = false from rfl]
  have s2 := s1.below HB2.out
  have f2 := s2.six
  have l2 := s2.lt
  clear HSG s1
  go_wp2_with fail
  refine (HIX.out W2 HB2.out).mono ?_
  rintro e w4 ⟨rfl, hb⟩
  have HB4 := Lib.hid (keep1 HB2.out hb)
  have s4 := s2.below hb
  have f4 := s4.six
  have l4 := s4.lt
  clear hb HB2 f2 l2 s2 HIX
  have HR : Hid (BaddR b (PB ++ (b :: (S0 ++ S1))) k part rep s most ps0 ps1 t0 t1 (zero + c) w (w4.setCell ⟨b, 5, none⟩ (.int .u64 (zero + c)))) :=
    ⟨_, GrownS.refl _ _, ⟨_, _, _, _, _, _, rfl, (H.out.below HB4.out).noughts⟩, ((Frame.of_below HB4.out).trans (Frame.refl _ _)).setc (.inl (by simp)) 5 _⟩
  clear s4 H
  go_wp2
  rw [HW.out]
  go_ret
  exact ⟨rfl, HR.out⟩
end Go.Proofs.YtondkkhagbcadaaGreat
