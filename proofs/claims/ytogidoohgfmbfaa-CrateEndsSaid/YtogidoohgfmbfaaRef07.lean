/- Contract of the document's crate: Add. -/
import Derived.Test.YtogidoohgfmbfaaProg
import Derived.Test.YtogidoohgfmbfaaPairs
namespace Go.Proofs.Ytogidoohgfmbfaa
open Go.RowKit

/-- Block m is the document's crate's, whose row lies in block r. -/
def RowB (w : World) (m r : Nat) (ps : List (Int × Int)) : Prop :=
  ∃ A cap, At w m #[.slice A ps.length cap] 40 ∧ RdP w A ps ∧ ∀ a, A = some a → a.block = r

theorem RowB.below {w w' : World} {m r : Nat} {ps : List (Int × Int)} (h : RowB w m r ps) (hb : Below w.heap.size w w') : RowB w' m r ps := by
  obtain ⟨A, cap, h1, h2, h3⟩ := h
  exact ⟨A, cap, h1.below hb, h2.below hb, h3⟩
theorem Frame.rd {S : List Nat} {w w' : World} {A : Option Addr} {cs : List Value} (h : Frame S w w') (hr : Rd w A cs) (hn : ∀ a, A = some a → a.block ∉ S) : Rd w' A cs := fun j u hj => by
  obtain ⟨g, o, rfl, hg, hc⟩ := hr j u hj
  refine ⟨g, o, rfl, Nat.lt_of_lt_of_le hg h.size, ?_⟩
  rw [← hc]
  exact World.cell?_of_block (w := w) (h.block g hg (hn _ rfl))
theorem RowB.frame {S : List Nat} {w w' : World} {m r : Nat} {ps : List (Int × Int)} (h : RowB w m r ps) (hf : Frame S w w') (hm : m ∉ S) (hr : r ∉ S) : RowB w' m r ps := by
  obtain ⟨A, cap, h1, h2, h3⟩ := h
  exact ⟨A, cap, hf.at h1 hm, hf.rd h2 (fun a ha => (h3 a ha) ▸ hr), h3⟩
theorem CrB.frame {S : List Nat} {w w' : World} {b g : Nat} {f tot : Int} {cs : List Int} (h : CrB w b g f cs tot) (hf : Frame S w w') (hb : b ∉ S) (hg : g ∉ S) : CrB w' b g f cs tot :=
  ⟨hf.at h.1 hb, fun hn => hf.at (h.2 hn) hg⟩

theorem refadd_zero (w : World) (m : Nat) (q : Int) :
    Calls Try.prog 15 #[.pointer (some ⟨m, 0, none⟩), .int .i64 q, .int .u64 0] w fun e w' => e = .returned (.int .i64 1) ∧ w = w' := by
  go_enter Try.func15, Try.ntmps15
  go_wp2
  go_ret
  exact ⟨rfl, rfl⟩

set_option maxHeartbeats 1000000 in
theorem refadd_any (w : World) (m r : Nat) (q c : Int) (ps : List (Int × Int)) (h : RowB w m r ps) (hmr : m ≠ r) (hok : okP ps) (hg : Gd ps) (hlen : ps.length ≤ 100000) (hs : sumP ps ≤ 9223372036854775807)
    (hc0 : 0 < c) (hc1 : c < 18446744073709551616) (hq0 : -9223372036854775808 ≤ q) (hq1 : q ≤ 9223372036854775807) :
    Calls Try.prog 15 #[.pointer (some ⟨m, 0, none⟩), .int .i64 q, .int .u64 c] w fun e w' =>
      (¬ rowRoom ps q c ∧ e = .returned (.int .i64 6) ∧ Below w.heap.size w w') ∨
      (rowRoom ps q c ∧ e = .returned (.int .i64 0) ∧ ∃ r', (r' = r ∨ w.heap.size ≤ r') ∧ m ≠ r' ∧ RowB w' m r' (rowAdd ps q c) ∧ Frame [m] w w') := by
  obtain ⟨A, cap, h1, h2, h3⟩ := h
  have f1 := h1.one
  have l1 := h1.lt
  have e1 : (c == 0) = false := beq_eq_false_iff_ne.2 (by omega)
  have hs0 := sumP_nonneg hg.pos
  obtain ⟨n, hN⟩ : ∃ n, ps.length = n := ⟨_, rfl⟩
  rw [hN] at f1 hlen
  have HH : Hid (rowRoom ps q c = (c ≤ 9223372036854775807 - sumP ps ∧ span (rowAdd ps q c) ≤ 4095)) := rfl
  have HG := Lib.hid hg
  have HO := Lib.hid hok
  have H2 := Lib.hid h2
  have HC := Lib.hid (cnt_le_sumP hg.pos q)
  clear hg hok h2
  obtain ⟨T, hT⟩ : ∃ T, sumP ps = T := ⟨_, rfl⟩
  rw [hT] at hs hs0 HH HC
  have hm : T % 18446744073709551616 = T := by omega
  have hw : IntKind.u64.wrap (9223372036854775807 - T) = 9223372036854775807 - T := by simp only [IntKind.wrap_u64]; omega
  go_enter Try.func15, Try.ntmps15
  go_wp2_with fail
  refine (total_any A n cap ps _ hN (by omega) H2.out HO.out).mono ?_
  rintro e w1 ⟨rfl, hb1⟩
  rw [hT, hm]
  clear hm
  by_cases hp : 9223372036854775807 - T < c
  · go_wp2
    go_ret
    have hp' : 9223372036854775807 - T < c := by assumption
    exact .inl ⟨by rw [HH.out]; rintro ⟨h, _⟩; omega, rfl, hb1⟩
  · have hp' := Lib.hid hp
    have HE := Lib.hid (rowAdd_ne HG.out hc0 (by have := HC.out; omega) : rowAdd ps q c ≠ [])
    have HD := Lib.hid (HG.out.rowAdd (q := q) hc0 (by have := HC.out; omega))
    have HP := Lib.hid (okP_rowAdd (c := c) HO.out ⟨hq0, hq1⟩)
    have hlen2 := rowAdd_len (ps := ps) (q := q) (c := c)
    rw [hN] at hlen2
    have z1 := hb1.size
    have f2 := (h1.below hb1).one
    go_wp2_with fail
    refine (radd06_any A n cap ps q c w1 hN (by omega) (H2.out.below hb1) HO.out ⟨hq0, hq1⟩ ⟨by omega, hc1⟩).mono ?_
    rintro e w2 ⟨A', cap', rfl, HW, hb2⟩
    have hb2' : Below w.heap.size w w2 := keep1 hb1 hb2
    have z2 := hb2'.size
    have h4 := (h1.below hb2')
    have f4 := h4.one
    clear f1 f2
    obtain ⟨row, hrow⟩ : ∃ row, rowAdd ps q c = row := ⟨_, rfl⟩
    have HR := Lib.hid hrow
    rw [hrow] at HE HD HP hlen2 HW HH ⊢
    obtain ⟨k, hk⟩ : ∃ k, row.length = k + 1 := ⟨row.length - 1, by have := List.length_pos_iff.2 HE.out; omega⟩
    obtain ⟨g, o, rfl, hg2, c1, _⟩ := HW.rd.at 0 (by omega)
    obtain ⟨g', o', ee, _, c3, _⟩ := HW.rd.at k (by omega)
    simp only [Option.some.injEq, Addr.mk.injEq, and_true] at ee
    obtain ⟨rfl, rfl⟩ := ee
    have hb4 := (HW.base_le _ rfl).1
    have d1 := HP.out.at 0 (by omega)
    have d3 := HP.out.at k (by omega)
    have hsp := HD.out.le (i := 0) (j := k) (by omega) (by omega)
    have HS : Hid (span row = (row.getD k (0, 0)).1 - (row.getD 0 (0, 0)).1) := by
      show _ = _
      unfold span
      rw [hk]; rfl
    rw [List.getD_eq_getElem?_getD, List.getD_eq_getElem?_getD, List.getElem?_eq_getElem (by omega), List.getElem?_eq_getElem (by omega), Option.getD_some, Option.getD_some] at HS hsp
    generalize (row[0]'(by omega)).1 = x at *
    generalize (row[k]'(by omega)).1 = y at *
    obtain ⟨D, hD⟩ : ∃ D, y - x = D := ⟨_, rfl⟩
    obtain ⟨X, hX⟩ : ∃ X, IntKind.u64.wrap x = X := ⟨_, rfl⟩
    obtain ⟨Y, hY⟩ : ∃ Y, IntKind.u64.wrap y = Y := ⟨_, rfl⟩
    have hXY : IntKind.u64.wrap (Y - X) = D := by subst hX hY hD; simp only [IntKind.wrap_u64]; omega
    rw [hD] at HS
    rw [HS.out] at HH
    rw [hk]
    have hl1 : IntKind.i64.wrap ((k + 1 : Nat) - 1) = k := by simp only [IntKind.wrap_i64]; omega
    have hk0 : (0 : Int) ≤ k := by omega
    have hk1 : (k : Int) < (k + 1 : Nat) := by omega
    have hk2 : (0 : Int) < (k + 1 : Nat) := by omega
    rw [Nat.zero_mul, Nat.add_zero] at c1
    clear hD hsp
    go_wp2
    go_quiet (fail)
    have HB := Lib.hid hb2'
    by_cases h9 : 4095 < D
    · go_wp2
      go_ret
      have h9' : 4095 < D := by assumption
      exact .inl ⟨by rw [HH.out]; rintro ⟨_, h⟩; omega, rfl, hb2'.drewN _⟩
    · have h9' := Lib.hid h9
      go_wp2
      go_ret
      have hF : Frame [m] w2 ((w2.drewN nq).setCell ⟨m, 0, none⟩ (.slice (some ⟨g, o, none⟩) (k + 1) cap')) := ((Frame.refl [m] w2).drewN _).setc (by simp) _ _
      refine .inr ⟨by rw [HH.out]; exact ⟨by have := hp'.out; omega, by have := h9'.out; omega⟩, rfl, .inr ⟨g, by omega, (by omega), ⟨_, cap', ?_, hF.rd HW.rd (fun a ha => ?_), fun a ha => by rw [← Option.some.inj ha]⟩, (Frame.of_below hb2').trans hF⟩⟩
      · rw [hk]; exact (h4.drewN _).set_any 0 _ rfl
      · rw [← Option.some.inj ha]
        simp only [List.mem_singleton]
        omega
end Go.Proofs.Ytogidoohgfmbfaa

