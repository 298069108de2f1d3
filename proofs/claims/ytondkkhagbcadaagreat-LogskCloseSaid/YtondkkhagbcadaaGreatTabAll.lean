/- How far apart two values are. No program in sight. -/
import Derived.Test.YtondkkhagbcadaaGreatShelf
import Derived.Test.YtondkkhagbcadaaGreatDoc13
import Derived.Test.YtondkkhagbcadaaGreatProg
import Derived.Test.YtondkkhagbcadaaGreatSpanAll
import Derived.Test.YtondkkhagbcadaaGreatRefOne
import Derived.Test.YtondkkhagbcadaaGreatWalks
namespace Go.Proofs.YtondkkhagbcadaaGreat

/-- How far apart two values are. -/
def gapZ (a b : Int) : Nat := (a - b).natAbs
theorem clamp_close {r x lo hi : Int} (h1 : lo ≤ x) (h2 : x ≤ hi) : gapZ (min (max r lo) hi) x ≤ gapZ r x := by unfold gapZ; omega
end Go.Proofs.YtondkkhagbcadaaGreat
/- Plain laws of what stands for a table's values: it rises, and it is as close as was asked. -/
namespace Go.Proofs.YtondkkhagbcadaaGreat
open Go.RowKit

/-- The cell of a magnitude. -/
theorem tab_cell {u v : Nat} {L : List Nat} (h : TabOk u v L) {m : Nat} (h1 : 1 ≤ m) (h2 : m ≤ 9223372036854775808) : ∃ i, ∃ hi : i < L.length, partT L m = i ∧ L[i]'hi ≤ m ∧ m ≤ highN u v (L[i]'hi) ∧ repTN u v L m = repN u v (L[i]'hi) := by
  obtain ⟨i, hi, a1, a2⟩ := chain_cell h.uv h.chain h1 (show m ≤ mostN from h2)
  have hp : partT L m = i := partT_cell h.srt ⟨hi, by rw [← getD_at hi]; exact a1, fun hn => by
    rw [← getD_at hn, (chain_at h.uv h.chain).2.1 i hn]
    omega⟩
  refine ⟨i, hi, hp, a1, a2, ?_⟩
  unfold repTN atL
  rw [hp, if_pos ⟨by omega, by rw [List.length_map]; omega⟩, Int.toNat_natCast, List.getD_eq_getElem?_getD, List.getElem?_map, List.getElem?_eq_getElem hi]
  rfl
theorem repTN_mono {u v : Nat} {L : List Nat} (h : TabOk u v L) {m m' : Nat} (h1 : 1 ≤ m) (hm : m ≤ m') (h2 : m' ≤ 9223372036854775808) : repTN u v L m ≤ repTN u v L m' := by
  obtain ⟨i, hi, p, a1, a2, e⟩ := tab_cell h h1 (by omega)
  obtain ⟨j, hj, q, b1, b2, f⟩ := tab_cell h (by omega) h2
  have hij : i ≤ j := by
    have := partT_mono L m m' (by omega) hm h2
    rw [p, q] at this
    omega
  rw [e, f]
  refine repN_mono ?_
  have := sorted_at h.srt hij hj
  rw [← getD_at hi, ← getD_at hj] at this
  exact this
theorem repTN_le {u v : Nat} {L : List Nat} (h : TabOk u v L) {m : Nat} (h1 : 1 ≤ m) (h2 : m ≤ 9223372036854775808) : repTN u v L m ≤ 9223372036854775807 := by
  obtain ⟨i, hi, p, a1, a2, e⟩ := tab_cell h h1 h2
  rw [e]
  unfold repN topN
  omega
theorem standT_mono {u v : Nat} {L : List Nat} (h : TabOk u v L) {x y : Int} (hx : -9223372036854775808 ≤ x) (hxy : x ≤ y) (hy : y ≤ 9223372036854775807) : standV (repTN u v L) x ≤ standV (repTN u v L) y := by
  unfold standV
  by_cases x0 : x = 0
  · rw [if_pos x0]
    by_cases y0 : y = 0
    · rw [if_pos y0]; omega
    · rw [if_neg y0, if_pos (by omega)]; omega
  · rw [if_neg x0]
    by_cases y0 : y = 0
    · rw [if_pos y0, if_neg (by omega)]; omega
    · rw [if_neg y0]
      by_cases xp : 0 < x
      · rw [if_pos xp, if_pos (by omega)]
        have := repTN_mono h (m := x.natAbs) (m' := y.natAbs) (by omega) (by omega) (by omega)
        omega
      · rw [if_neg xp]
        by_cases yp : 0 < y
        · rw [if_pos yp]; omega
        · rw [if_neg yp]
          have := repTN_mono h (m := y.natAbs) (m' := x.natAbs) (by omega) (by omega) (by omega)
          omega
theorem standT_close {u v : Nat} {L : List Nat} (h : TabOk u v L) {x : Int} (h1 : -9223372036854775808 ≤ x) (h2 : x ≤ 9223372036854775807) : gapZ (standV (repTN u v L) x) x * v ≤ x.natAbs * u := by
  unfold standV
  by_cases h0 : x = 0
  · subst h0; simp [gapZ]
  · obtain ⟨i, hi, p, a1, a2, e⟩ := tab_cell h (m := x.natAbs) (by omega) (by omega)
    have hc := close h.u0 h.uv h.v1 a1 a2
    have hl := repTN_le h (m := x.natAbs) (by omega) (by omega)
    rw [← e] at hc
    have hg : ∀ z : Int, z.natAbs = max (repTN u v L x.natAbs) x.natAbs - min (repTN u v L x.natAbs) x.natAbs → z.natAbs * v ≤ x.natAbs * u := fun z hz => by rw [hz]; exact hc
    rw [if_neg h0]
    unfold gapZ
    by_cases hp : 0 < x
    · rw [if_pos hp]
      exact hg _ (by omega)
    · rw [if_neg hp]
      exact hg _ (by omega)
/-! ## Of a case. -/
section
variable {u v : Int} {part : Nat → Int} {rep stand : Int → Int}
theorem Cs.tab (h : Cs u v 0 false part rep stand) : ∃ (un vn : Nat) (L : List Nat), u = un ∧ v = vn ∧ TabOk un vn L ∧ part = partT L ∧ stand = standV (repTN un vn L) := by
  rcases h with ⟨_, h1, _⟩ | ⟨_, _, un, vn, L, e1, e2, ht, e3, _, e4⟩
  · omega
  · exact ⟨un, vn, L, e1, e2, ht, e3, e4⟩
theorem Cs.mono (h : Cs u v 0 false part rep stand) {x y : Int} (hx : -9223372036854775808 ≤ x) (hxy : x ≤ y) (hy : y ≤ 9223372036854775807) : stand x ≤ stand y := by
  obtain ⟨un, vn, L, _, _, ht, _, rfl⟩ := h.tab
  exact standT_mono ht hx hxy hy
/-- Clamped, it is as close. -/
theorem Cs.close (h : Cs u v 0 false part rep stand) {x lo hi : Int} (h1 : -9223372036854775808 ≤ x) (h2 : x ≤ 9223372036854775807) (k1 : lo ≤ x) (k2 : x ≤ hi) : (gapZ (min (max (stand x) lo) hi) x : Int) * v ≤ x.natAbs * u := by
  obtain ⟨un, vn, L, rfl, rfl, ht, _, rfl⟩ := h.tab
  have a := Nat.mul_le_mul_right vn (clamp_close (r := standV (repTN un vn L) x) k1 k2)
  have b := standT_close ht h1 h2
  exact_mod_cast Nat.le_trans a b
end
end Go.Proofs.YtondkkhagbcadaaGreat
/- Contracts of the document's Gap and Within. -/
namespace Go.Proofs.YtondkkhagbcadaaGreat
open Go.RowKit

theorem rtimes_fixed (a b : Int) (ha : 0 ≤ a) (ha' : a < 18446744073709551616) (hb : 0 ≤ b) (hb' : b < 18446744073709551616) :
    ∃ hi lo : Int, 0 ≤ hi ∧ hi < 18446744073709551616 ∧ 0 ≤ lo ∧ lo < 18446744073709551616 ∧ hi * 18446744073709551616 + lo = a * b ∧
      ∀ W, Calls Tryz.prog 40 #[.int .u64 a, .int .u64 b] W fun e w' => e = .returned (.agg #[.int .u64 hi, .int .u64 lo]) ∧ Below W.heap.size W w' := by
  have h0 : 0 ≤ a * b := Int.mul_nonneg ha hb
  have h1 : a * b ≤ 18446744073709551615 * 18446744073709551615 := Int.mul_le_mul (by omega) (by omega) hb (by omega)
  refine ⟨a * b / 18446744073709551616, a * b % 18446744073709551616, by omega, by omega, by omega, by omega, by omega, fun W => ?_⟩
  refine (rtimes_any a b W ha ha' hb hb').mono ?_
  rintro e w' ⟨hi, lo, p1, p2, p3, p4, p5, rfl, hB⟩
  refine ⟨?_, hB⟩
  rw [show hi = a * b / 18446744073709551616 by omega, show lo = a * b % 18446744073709551616 by omega]
set_option maxRecDepth 100000 in
theorem rgap_any (a b : Int) (w : World) (a1 : -9223372036854775808 ≤ a) (a2 : a ≤ 9223372036854775807) (b1 : -9223372036854775808 ≤ b) (b2 : b ≤ 9223372036854775807) :
    Calls Tryz.prog 41 #[.int .i64 a, .int .i64 b] w fun e w' => e = .returned (.int .u64 (gapZ a b : Nat)) ∧ Below w.heap.size w w' := by
  have HA := Lib.hid fun W => rsize_any a W a1 a2
  have HB := Lib.hid fun W => rsize_any b W b1 b2
  obtain ⟨u, hu⟩ : ∃ u : Int, (a.natAbs : Int) = u := ⟨_, rfl⟩
  obtain ⟨v, hv⟩ : ∃ u : Int, (b.natAbs : Int) = u := ⟨_, rfl⟩
  rw [hu] at HA
  rw [hv] at HB
  rcases Int.lt_or_le a 0 with ha | ha <;> rcases Int.lt_or_le b 0 with hb | hb
  case inl.inr | inr.inl =>
    have HV : Hid (IntKind.u64.wrap (u + v) = ((gapZ a b : Nat) : Int)) := by show _ = _; unfold gapZ; simp only [IntKind.wrap_u64]; omega
    have da : decide (a < 0) = (if a < 0 then true else false) := by by_cases h : a < 0 <;> simp [h]
    have db : decide (b < 0) = (if b < 0 then true else false) := by by_cases h : b < 0 <;> simp [h]
    first | rw [if_pos ha] at da | rw [if_neg (by omega : ¬ a < 0)] at da
    first | rw [if_pos hb] at db | rw [if_neg (by omega : ¬ b < 0)] at db
    clear hu hv a1 a2 b1 b2 ha hb
    go_enter Tryz.func41, Tryz.ntmps41
    go_wp2_with fail
    refine (HA.out w).mono ?_
    rintro e w1 ⟨rfl, rfl⟩
    go_wp2_with fail
    refine (HB.out w).mono ?_
    rintro e w1 ⟨rfl, rfl⟩
    go_wp2
    go_ret
    exact ⟨by rw [← HV.out]; rfl, Below.refl _ _⟩
  all_goals
    have HV : Hid (IntKind.u64.wrap (max u v - min u v) = ((gapZ a b : Nat) : Int)) := by show _ = _; unfold gapZ; simp only [IntKind.wrap_u64]; omega
    have da : decide (a < 0) = (if a < 0 then true else false) := by by_cases h : a < 0 <;> simp [h]
    have db : decide (b < 0) = (if b < 0 then true else false) := by by_cases h : b < 0 <;> simp [h]
    first | rw [if_pos ha] at da | rw [if_neg (by omega : ¬ a < 0)] at da
    first | rw [if_pos hb] at db | rw [if_neg (by omega : ¬ b < 0)] at db
    clear hu hv a1 a2 b1 b2 ha hb
    go_enter Tryz.func41, Tryz.ntmps41
    go_wp2_with fail
    refine (HA.out w).mono ?_
    rintro e w1 ⟨rfl, rfl⟩
    go_wp2_with fail
    refine (HB.out w).mono ?_
    rintro e w1 ⟨rfl, rfl⟩
    go_wp2_with fail
    refine (HA.out w).mono ?_
    rintro e w1 ⟨rfl, rfl⟩
    go_wp2_with fail
    refine (HB.out w).mono ?_
    rintro e w1 ⟨rfl, rfl⟩
    go_wp2
    go_ret
    exact ⟨by rw [← HV.out]; rfl, Below.refl _ _⟩
set_option maxRecDepth 100000 in
set_option maxHeartbeats 1000000 in
theorem rwithin_any (r x n t : Int) (w : World) (a1 : -9223372036854775808 ≤ r) (a2 : r ≤ 9223372036854775807) (b1 : -9223372036854775808 ≤ x) (b2 : x ≤ 9223372036854775807) (n1 : 0 ≤ n) (n2 : n < 18446744073709551616) (t1 : 0 ≤ t) (t2 : t < 18446744073709551616)
    (h : (gapZ r x : Int) * t ≤ x.natAbs * n) :
    Calls Tryz.prog 17 #[.int .i64 r, .int .i64 x, .agg #[.int .u64 n, .int .u64 t]] w fun e w' => e = .returned (.bool true) ∧ Below w.heap.size w w' := by
  have HSZ := Lib.hid fun W (_ : True) => (rsize_any x W b1 b2).mono fun e w' (h : e = .returned (.int .u64 (x.natAbs : Int)) ∧ W = w') => (⟨h.1, by rw [← h.2]; exact Below.refl _ _⟩ : e = .returned (.int .u64 (x.natAbs : Int)) ∧ Below W.heap.size W w')
  have HGP := Lib.hid fun W => rgap_any r x W a1 a2 b1 b2
  have hg : (gapZ r x : Int) < 18446744073709551616 := by unfold gapZ; omega
  obtain ⟨m, hm⟩ : ∃ m : Int, (x.natAbs : Int) = m := ⟨_, rfl⟩
  obtain ⟨g, hgg⟩ : ∃ g : Int, ((gapZ r x : Nat) : Int) = g := ⟨_, rfl⟩
  rw [hm] at HSZ h
  rw [hgg] at HGP h hg
  obtain ⟨h1, l1, p1, p2, p3, p4, p5, H1⟩ := rtimes_fixed m n (by omega) (by omega) n1 n2
  obtain ⟨h2, l2, q1, q2, q3, q4, q5, H2⟩ := rtimes_fixed g t (by omega) hg t1 t2
  have HL := Lib.hid fun W => rless_any h1 l1 h2 l2 W p1 p2 p3 p4 q1 q2 q3 q4
  rw [decide_eq_false (by omega)] at HL
  have HT1 := Lib.hid H1
  have HT2 := Lib.hid H2
  have hb0 : Below w.heap.size w (w.alloc (.cells #[.int .u64 n, .int .u64 t] 24)) := (Below.refl _ _).alloc (Nat.le_refl _) _
  have r2 := At.new' w #[.int .u64 n, .int .u64 t] 24 rfl
  clear h hg hm hgg p1 p2 p3 p4 p5 q1 q2 q3 q4 q5 H1 H2 a1 a2 b1 b2 n1 n2 t1 t2
  go_enter Tryz.func17, Tryz.ntmps17
  go_wp2
  obtain ⟨W1, hW1⟩ : ∃ W1, w.alloc (.cells #[.int .u64 n, .int .u64 t] 24) = W1 := ⟨_, rfl⟩
  rw [hW1] at hb0 r2 ⊢
  obtain ⟨rb, hrb⟩ : ∃ r, w.heap.size = r := ⟨_, rfl⟩
  rw [hrb] at r2
  try rw [hrb]
  have HB0 : Hid (Below w.heap.size w W1) := hb0
  clear hW1 hb0 hrb
  have hfar1 := fun x : Far W1 => (x.at r2).two
  refine wp_region_far (by kernel_rfl) (by kernel_rfl) ?_
  repeat (first | go_big_quiet_skip | (go_big_quiet_want; go_big_quiet_op; first | go_big_quiet_on | (apply Exists.intro; refine ⟨fun _ => ?_, ?_⟩; (focus (first | (with_reducible refine far_of (HSZ.out _ trivial)) | (with_reducible refine far_of (HGP.out _)) | (with_reducible refine far_of (HT1.out _)) | (with_reducible refine far_of (HT2.out _)) | (with_reducible refine far_of (HL.out _)))); go_big_quiet_on)))
  refine wpQuiet_nil ?_
  rintro _ ⟨xq, rfl⟩
  clear hfar1
  have HB1 : Hid (Below w.heap.size w xq.far) := keep1 HB0.out xq.below
  clear HSZ HGP HT1 HT2 HL
  go_wp2
  go_ret
  exact ⟨rfl, HB1.out⟩
end Go.Proofs.YtondkkhagbcadaaGreat
