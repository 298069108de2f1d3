/- Contract of package bins: Rank. -/
import Derived.Test.YtplfiheejecjiaaGreatDoorProg
import Derived.Test.YtplfiheejecjiaaGreatDoorBnFind
namespace Go.Proofs.YtplfiheejecjiaaGreatDoor
open Go.RowKit

theorem stoBelow_bd {s : Bool} {most lo q tot : Int} {ps : List (Int × Int)} (h : Gd ps) (h0 : 0 ≤ lo) (ht : sumP ps + lo = tot) : (0 ≤ (stoBelow s most lo ps q).1 ∧ (stoBelow s most lo ps q).1 ≤ tot) ∧ (0 ≤ (stoBelow s most lo ps q).2 ∧ (stoBelow s most lo ps q).2 ≤ tot) := by
  have hu := upto_le q h
  cases s
  · unfold stoBelow Hi.lowBelow
    dsimp only
    split <;> dsimp only <;> omega
  · unfold stoBelow Lo.lowBelow
    dsimp only
    split <;> dsimp only <;> omega
def binRank (part : Nat → Int) (s : Bool) (most : Int) (ps0 ps1 : List (Int × Int)) (t0 t1 zero x : Int) : Int × Int :=
  if x = 0 then (t0 + zero, t0 + zero)
  else if x < 0 then (t0 - (stoBelow s most (t0 - sumP ps0) ps0 (part x.natAbs)).2, t0 - (stoBelow s most (t0 - sumP ps0) ps0 (part x.natAbs - 1)).1)
  else (t0 + zero + (stoBelow s most (t1 - sumP ps1) ps1 (part x.natAbs - 1)).1, t0 + zero + (stoBelow s most (t1 - sumP ps1) ps1 (part x.natAbs)).2)
theorem brank_nil (x : Int) (w : World) : Calls Tryz.prog 12 #[.pointer none, .int .i64 x] w fun e w' => e = .returned (.tuple #[.int .u64 0, .int .u64 0]) ∧ w = w' := by
  go_enter Tryz.func12, Tryz.ntmps12
  go_wp2
  go_ret2
  exact ⟨rfl, rfl⟩
set_option maxRecDepth 100000 in
set_option maxHeartbeats 2000000 in
theorem brank_neg (PB : List Nat) (b : Nat) (k : Bool) (pa : Nat) (part : Nat → Int) (rep : Int → Int) (s : Bool) (most : Int) (c0 c1 : Nat) (S0 S1 : List Nat) (ps0 ps1 : List (Int × Int)) (t0 t1 zero x : Int) (w : World)
    (h : BnB PB w b k pa part rep s most c0 c1 S0 S1 ps0 ps1 t0 t1 zero) (hz : 0 ≤ zero) (hT : t0 + zero + t1 ≤ 9223372036854775807) (hx1 : -9223372036854775808 ≤ x) (hx : x < 0) :
    Calls Tryz.prog 12 #[.pointer (some ⟨b, 0, none⟩), .int .i64 x] w fun e w' => e = .returned (.tuple #[.int .u64 (t0 - (stoBelow s most (t0 - sumP ps0) ps0 (part x.natAbs)).2), .int .u64 (t0 - (stoBelow s most (t0 - sumP ps0) ps0 (part x.natAbs - 1)).1)]) ∧ Below w.heap.size w w' := by
  have p0 := h.s0.sums
  have p1 := h.s1.sums
  have HT0 := Lib.hid fun W (hb : Below w.heap.size w W) => sto_total s c0 S0 most t0 ps0 W (h.s0.below hb)
  have HSG := Lib.hid fun W => sgof_any x W hx1 (by omega)
  have HIX := Lib.hid fun W (hb : Below w.heap.size w W) => h.prt.ix W hb x.natAbs (by omega) (by omega)
  have s1 := h.at'
  have m1 := (pIndex k).1
  have m2 := (pIndex k).2
  have m3 := (sTotal s).1
  have m4 := (sTotal s).2
  have HB0 := Lib.hid fun W (hb : Below w.heap.size w W) => sto_below s c0 S0 most t0 (part x.natAbs - 1) ps0 W (h.s0.below hb) (by have := h.prt.rng x.natAbs (by omega) (by omega); omega)
  have HB9 := Lib.hid fun W (hb : Below w.heap.size w W) => sto_below s c0 S0 most t0 (part x.natAbs) ps0 W (h.s0.below hb) (by have := h.prt.rng x.natAbs (by omega) (by omega); omega)
  have m5 := (sBelow s).1
  have m6 := (sBelow s).2
  have hbd0 := stoBelow_bd (s := s) (most := most) (lo := t0 - sumP ps0) (q := part x.natAbs - 1) (tot := t0) h.s0.gd (by omega) (by omega)
  have hbd1 := stoBelow_bd (s := s) (most := most) (lo := t0 - sumP ps0) (q := part x.natAbs) (tot := t0) h.s0.gd (by omega) (by omega)
  have hrn := h.prt.rng x.natAbs (by omega) (by omega)
  obtain ⟨q, hq⟩ : ∃ q, part x.natAbs = q := ⟨_, rfl⟩
  rw [hq] at HIX HB0 HB9 hbd0 hbd1 hrn ⊢
  obtain ⟨⟨u0, u1⟩, hu⟩ : ∃ u, stoBelow s most (t0 - sumP ps0) ps0 (q - 1) = u := ⟨_, rfl⟩
  obtain ⟨⟨x0, x1⟩, hx'⟩ : ∃ u, stoBelow s most (t0 - sumP ps0) ps0 q = u := ⟨_, rfl⟩
  rw [hu] at HB0 hbd0 ⊢
  rw [hx'] at HB9 hbd1 ⊢
  dsimp only at HB0 HB9 hbd0 hbd1 ⊢
  have vq : IntKind.i64.wrap (q - 1) = q - 1 := by simp only [IntKind.wrap_i64]; omega
  have v1 : IntKind.u64.wrap (t0 - x1) = t0 - x1 := by simp only [IntKind.wrap_u64]; omega
  have v2 : IntKind.u64.wrap (t0 - u0) = t0 - u0 := by simp only [IntKind.wrap_u64]; omega
  obtain ⟨m, hm⟩ : ∃ m : Int, (x.natAbs : Int) = m := ⟨_, rfl⟩
  rw [hm] at HSG HIX
  obtain ⟨sB, hsB⟩ : ∃ z, (sKnd s).fB = z := ⟨_, rfl⟩
  rw [hsB] at m5 m6 HB0 HB9
  obtain ⟨pT, hpT⟩ : ∃ z, (pKnd k).T = z := ⟨_, rfl⟩
  obtain ⟨pF, hpF⟩ : ∃ z, (pKnd k).fI = z := ⟨_, rfl⟩
  obtain ⟨sT, hsT⟩ : ∃ z, (sKnd s).T = z := ⟨_, rfl⟩
  obtain ⟨sF, hsF⟩ : ∃ z, (sKnd s).fT = z := ⟨_, rfl⟩
  rw [hpT, hsT] at s1
  rw [hpT] at m1
  rw [hsT] at m3 m5
  rw [hpF] at m1 m2 HIX
  rw [hsF] at m3 m4 HT0
  have f1 := s1.six
  have l1 := s1.lt
  clear h hz hT p0 p1 hpT hpF hsT hsF hx1 hq hu hx' hm hsB hbd0 hbd1 hrn
  go_enter Tryz.func12, Tryz.ntmps12
  go_wp2_with fail
  refine (HSG.out w).mono ?_
  rintro e w1 ⟨rfl, rfl⟩
  rw [decide_eq_true hx]
  clear hx
  clear HSG
  go_wp2_with fail
  refine (HIX.out w (Below.refl _ _)).mono ?_
  rintro e w1 ⟨rfl, hb⟩
  have HB1 := Lib.hid hb
  have s2 := s1.below hb
  have f2 := s2.six
  have l2 := s2.lt
  clear HIX hb s1 f1 l1
  go_wp2_with fail
  refine (HT0.out w1 HB1.out).mono ?_
  rintro e w2 ⟨rfl, hb⟩
  have HB2 := Lib.hid (keep1 HB1.out hb)
  have s3 := s2.below hb
  have f3 := s3.six
  have l3 := s3.lt
  clear HT0 hb s2 f2 l2 HB1
  go_wp2_with fail
  refine (HB0.out w2 HB2.out).mono ?_
  rintro e w3 ⟨rfl, hb⟩
  have HB3 := Lib.hid (keep1 HB2.out hb)
  have s4 := s3.below hb
  have f4 := s4.six
  have l4 := s4.lt
  clear HB0 hb s3 f3 l3 HB2
  go_wp2_with fail
  refine (HB9.out w3 HB3.out).mono ?_
  rintro e w4 ⟨rfl, hb⟩
  have HB4 := Lib.hid (keep1 HB3.out hb)
  have s5 := s4.below hb
  clear HB9 hb s4 f4 l4 HB3
  go_wp2
  go_ret2
  exact ⟨rfl, HB4.out⟩
set_option maxRecDepth 100000 in
set_option maxHeartbeats 2000000 in
theorem brank_pos (PB : List Nat) (b : Nat) (k : Bool) (pa : Nat) (part : Nat → Int) (rep : Int → Int) (s : Bool) (most : Int) (c0 c1 : Nat) (S0 S1 : List Nat) (ps0 ps1 : List (Int × Int)) (t0 t1 zero x : Int) (w : World)
    (h : BnB PB w b k pa part rep s most c0 c1 S0 S1 ps0 ps1 t0 t1 zero) (hz : 0 ≤ zero) (hT : t0 + zero + t1 ≤ 9223372036854775807) (hx2 : x ≤ 9223372036854775807) (hx : 0 < x) :
    Calls Tryz.prog 12 #[.pointer (some ⟨b, 0, none⟩), .int .i64 x] w fun e w' => e = .returned (.tuple #[.int .u64 (t0 + zero + (stoBelow s most (t1 - sumP ps1) ps1 (part x.natAbs - 1)).1), .int .u64 (t0 + zero + (stoBelow s most (t1 - sumP ps1) ps1 (part x.natAbs)).2)]) ∧ Below w.heap.size w w' := by
  have p0 := h.s0.sums
  have p1 := h.s1.sums
  have HT0 := Lib.hid fun W (hb : Below w.heap.size w W) => sto_total s c0 S0 most t0 ps0 W (h.s0.below hb)
  have HSG := Lib.hid fun W => sgof_any x W (by omega) hx2
  have HIX := Lib.hid fun W (hb : Below w.heap.size w W) => h.prt.ix W hb x.natAbs (by omega) (by omega)
  have s1 := h.at'
  have m1 := (pIndex k).1
  have m2 := (pIndex k).2
  have m3 := (sTotal s).1
  have m4 := (sTotal s).2
  have HB0 := Lib.hid fun W (hb : Below w.heap.size w W) => sto_below s c1 S1 most t1 (part x.natAbs - 1) ps1 W (h.s1.below hb) (by have := h.prt.rng x.natAbs (by omega) (by omega); omega)
  have HB9 := Lib.hid fun W (hb : Below w.heap.size w W) => sto_below s c1 S1 most t1 (part x.natAbs) ps1 W (h.s1.below hb) (by have := h.prt.rng x.natAbs (by omega) (by omega); omega)
  have m5 := (sBelow s).1
  have m6 := (sBelow s).2
  have hbd0 := stoBelow_bd (s := s) (most := most) (lo := t1 - sumP ps1) (q := part x.natAbs - 1) (tot := t1) h.s1.gd (by omega) (by omega)
  have hbd1 := stoBelow_bd (s := s) (most := most) (lo := t1 - sumP ps1) (q := part x.natAbs) (tot := t1) h.s1.gd (by omega) (by omega)
  have hrn := h.prt.rng x.natAbs (by omega) (by omega)
  obtain ⟨q, hq⟩ : ∃ q, part x.natAbs = q := ⟨_, rfl⟩
  rw [hq] at HIX HB0 HB9 hbd0 hbd1 hrn ⊢
  obtain ⟨⟨u0, u1⟩, hu⟩ : ∃ u, stoBelow s most (t1 - sumP ps1) ps1 (q - 1) = u := ⟨_, rfl⟩
  obtain ⟨⟨x0, x1⟩, hx'⟩ : ∃ u, stoBelow s most (t1 - sumP ps1) ps1 q = u := ⟨_, rfl⟩
  rw [hu] at HB0 hbd0 ⊢
  rw [hx'] at HB9 hbd1 ⊢
  dsimp only at HB0 HB9 hbd0 hbd1 ⊢
  have vq : IntKind.i64.wrap (q - 1) = q - 1 := by simp only [IntKind.wrap_i64]; omega
  have v1 : IntKind.u64.wrap (t0 + zero) = t0 + zero := by simp only [IntKind.wrap_u64]; omega
  have v2 : IntKind.u64.wrap (t0 + zero + u0) = t0 + zero + u0 := by simp only [IntKind.wrap_u64]; omega
  have v3 : IntKind.u64.wrap (t0 + zero + x1) = t0 + zero + x1 := by simp only [IntKind.wrap_u64]; omega
  obtain ⟨m, hm⟩ : ∃ m : Int, (x.natAbs : Int) = m := ⟨_, rfl⟩
  rw [hm] at HSG HIX
  obtain ⟨sB, hsB⟩ : ∃ z, (sKnd s).fB = z := ⟨_, rfl⟩
  rw [hsB] at m5 m6 HB0 HB9
  obtain ⟨pT, hpT⟩ : ∃ z, (pKnd k).T = z := ⟨_, rfl⟩
  obtain ⟨pF, hpF⟩ : ∃ z, (pKnd k).fI = z := ⟨_, rfl⟩
  obtain ⟨sT, hsT⟩ : ∃ z, (sKnd s).T = z := ⟨_, rfl⟩
  obtain ⟨sF, hsF⟩ : ∃ z, (sKnd s).fT = z := ⟨_, rfl⟩
  rw [hpT, hsT] at s1
  rw [hpT] at m1
  rw [hsT] at m3 m5
  rw [hpF] at m1 m2 HIX
  rw [hsF] at m3 m4 HT0
  have f1 := s1.six
  have l1 := s1.lt
  clear h hz hT p0 p1 hpT hpF hsT hsF hx2 hq hu hx' hm hsB hbd0 hbd1 hrn
  go_enter Tryz.func12, Tryz.ntmps12
  go_wp2_with fail
  refine (HSG.out w).mono ?_
  rintro e w1 ⟨rfl, rfl⟩
  rw [decide_eq_false (by omega : ¬ x < 0)]
  clear hx
  clear HSG
  go_wp2_with fail
  refine (HIX.out w (Below.refl _ _)).mono ?_
  rintro e w1 ⟨rfl, hb⟩
  have HB1 := Lib.hid hb
  have s2 := s1.below hb
  have f2 := s2.six
  have l2 := s2.lt
  clear HIX hb s1 f1 l1
  go_wp2_with fail
  refine (HT0.out w1 HB1.out).mono ?_
  rintro e w2 ⟨rfl, hb⟩
  have HB2 := Lib.hid (keep1 HB1.out hb)
  have s3 := s2.below hb
  have f3 := s3.six
  have l3 := s3.lt
  clear HT0 hb s2 f2 l2 HB1
  go_wp2_with fail
  refine (HB0.out w2 HB2.out).mono ?_
  rintro e w3 ⟨rfl, hb⟩
  have HB3 := Lib.hid (keep1 HB2.out hb)
  have s4 := s3.below hb
  have f4 := s4.six
  have l4 := s4.lt
  clear HB0 hb s3 f3 l3 HB2
  go_wp2_with fail
  refine (HB9.out w3 HB3.out).mono ?_
  rintro e w4 ⟨rfl, hb⟩
  have HB4 := Lib.hid (keep1 HB3.out hb)
  have s5 := s4.below hb
  clear HB9 hb s4 f4 l4 HB3
  go_wp2
  have hfar1 := fun x : Far w4 => (x.at s5).six
  refine wp_region_far (by kernel_rfl) (by kernel_rfl) ?_
  repeat (first | go_big_quiet_skip | (go_big_quiet_want; go_big_quiet_op; first | go_big_quiet_on | (apply Exists.intro; refine ⟨fun _ => ?_, ?_⟩; (focus (first | (fail))); go_big_quiet_on)))
  refine wpQuiet_nil ?_
  rintro _ ⟨xq, rfl⟩
  clear hfar1
  have hbf := xq.below
  clear s5
  go_wp2
  go_ret2
  exact ⟨rfl, keep1 HB4.out hbf⟩
set_option maxRecDepth 100000 in
set_option maxHeartbeats 2000000 in
theorem brank_nought (PB : List Nat) (b : Nat) (k : Bool) (pa : Nat) (part : Nat → Int) (rep : Int → Int) (s : Bool) (most : Int) (c0 c1 : Nat) (S0 S1 : List Nat) (ps0 ps1 : List (Int × Int)) (t0 t1 zero : Int) (w : World)
    (h : BnB PB w b k pa part rep s most c0 c1 S0 S1 ps0 ps1 t0 t1 zero) (hz : 0 ≤ zero) (hT : t0 + zero + t1 ≤ 9223372036854775807) :
    Calls Tryz.prog 12 #[.pointer (some ⟨b, 0, none⟩), .int .i64 0] w fun e w' => e = .returned (.tuple #[.int .u64 (t0 + zero), .int .u64 (t0 + zero)]) ∧ Below w.heap.size w w' := by
  have p0 := h.s0.sums
  have p1 := h.s1.sums
  have HT0 := Lib.hid fun W (hb : Below w.heap.size w W) => sto_total s c0 S0 most t0 ps0 W (h.s0.below hb)
  have HSG := Lib.hid fun W => sgof_any 0 W (by omega) (by omega)
  have HIX := Lib.hid fun W (hb : Below w.heap.size w W) => h.prt.i0 W hb
  have s1 := h.at'
  have m1 := (pIndex k).1
  have m2 := (pIndex k).2
  have m3 := (sTotal s).1
  have m4 := (sTotal s).2
  have v1 : IntKind.u64.wrap (t0 + zero) = t0 + zero := by simp only [IntKind.wrap_u64]; omega
  obtain ⟨pT, hpT⟩ : ∃ z, (pKnd k).T = z := ⟨_, rfl⟩
  obtain ⟨pF, hpF⟩ : ∃ z, (pKnd k).fI = z := ⟨_, rfl⟩
  obtain ⟨sT, hsT⟩ : ∃ z, (sKnd s).T = z := ⟨_, rfl⟩
  obtain ⟨sF, hsF⟩ : ∃ z, (sKnd s).fT = z := ⟨_, rfl⟩
  rw [hpT, hsT] at s1
  rw [hpT] at m1
  rw [hsT] at m3
  rw [hpF] at m1 m2 HIX
  rw [hsF] at m3 m4 HT0
  have f1 := s1.six
  have l1 := s1.lt
  clear h hz hT p0 p1 hpT hpF hsT hsF 
  go_enter Tryz.func12, Tryz.ntmps12
  go_wp2_with fail
  refine (HSG.out w).mono ?_
  rintro e w1 ⟨rfl, rfl⟩
  rw [show ((Int.natAbs 0 : Nat) : Int) = 0 from rfl, show decide ((0 : Int) < 0) = false from rfl]
  clear HSG
  go_wp2_with fail
  refine (HIX.out w (Below.refl _ _)).mono ?_
  rintro e w1 ⟨rfl, hb⟩
  have HB1 := Lib.hid hb
  have s2 := s1.below hb
  have f2 := s2.six
  have l2 := s2.lt
  clear HIX hb s1 f1 l1
  go_wp2_with fail
  refine (HT0.out w1 HB1.out).mono ?_
  rintro e w2 ⟨rfl, hb⟩
  have HB2 := Lib.hid (keep1 HB1.out hb)
  have s3 := s2.below hb
  have f3 := s3.six
  have l3 := s3.lt
  clear HT0 hb s2 f2 l2 HB1
  clear f3 l3
  go_wp2
  have hfar1 := fun x : Far w2 => (x.at s3).six
  refine wp_region_far (by kernel_rfl) (by kernel_rfl) ?_
  repeat (first | go_big_quiet_skip | (go_big_quiet_want; go_big_quiet_op; first | go_big_quiet_on | (apply Exists.intro; refine ⟨fun _ => ?_, ?_⟩; (focus (first | (fail))); go_big_quiet_on)))
  refine wpQuiet_nil ?_
  rintro _ ⟨xq, rfl⟩
  clear hfar1
  have hbf := xq.below
  clear s3
  go_wp2
  go_ret2
  exact ⟨rfl, keep1 HB2.out hbf⟩
theorem brank_at (PB : List Nat) (b : Nat) (k : Bool) (pa : Nat) (part : Nat → Int) (rep : Int → Int) (s : Bool) (most : Int) (c0 c1 : Nat) (S0 S1 : List Nat) (ps0 ps1 : List (Int × Int)) (t0 t1 zero x : Int) (w : World)
    (h : BnB PB w b k pa part rep s most c0 c1 S0 S1 ps0 ps1 t0 t1 zero) (hz : 0 ≤ zero) (hT : t0 + zero + t1 ≤ 9223372036854775807) (hx1 : -9223372036854775808 ≤ x) (hx2 : x ≤ 9223372036854775807) :
    Calls Tryz.prog 12 #[.pointer (some ⟨b, 0, none⟩), .int .i64 x] w fun e w' => e = .returned (.tuple #[.int .u64 (binRank part s most ps0 ps1 t0 t1 zero x).1, .int .u64 (binRank part s most ps0 ps1 t0 t1 zero x).2]) ∧ Below w.heap.size w w' := by
  unfold binRank
  rcases Int.lt_trichotomy x 0 with h1 | rfl | h1
  · rw [if_neg (by omega), if_pos h1]
    exact brank_neg _ _ _ _ _ _ _ _ _ _ _ _ _ _ _ _ _ _ w h hz hT hx1 h1
  · rw [if_pos rfl]
    exact brank_nought _ _ _ _ _ _ _ _ _ _ _ _ _ _ _ _ _ w h hz hT
  · rw [if_neg (by omega), if_neg (by omega)]
    exact brank_pos _ _ _ _ _ _ _ _ _ _ _ _ _ _ _ _ _ _ w h hz hT hx2 h1
end Go.Proofs.YtplfiheejecjiaaGreatDoor
