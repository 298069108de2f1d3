/- Contract of package strip: Find. -/
import Derived.Test.YtooojpicbbpaaaaProg
import Derived.Test.YtooojpicbbpaaaaStripOut
import Derived.WalkMore
import Derived.ScopeJumps
namespace Go.Proofs.Ytooojpicbbpaaaa
open Go.RowKit

theorem snil_find (t : Int) (w : World) : Calls Try.prog 40 #[.pointer none, .int .u64 t] w fun e w' => e = .returned (.tuple #[.int .i64 0, .bool false]) ∧ w = w' := by
  go_enter Try.func40, Try.ntmps40
  go_wp2
  go_step3
  go_wp2
  simp only [Exit.noGoto]
  go_ret2
  exact ⟨rfl, rfl⟩

/-- What is still to be found. -/
def FndI (ps : List (Int × Int)) (t : Int) (i : Nat) (r : Int) : Prop := 0 < r ∧ r ≤ sumP (ps.drop i) ∧ ∃ s, 0 ≤ s ∧ t = s + r ∧ s + sumP (ps.drop i) ≤ 9223372036854775807 ∧ findP t 0 ps = findP t s (ps.drop i)
theorem FndI.lt {ps : List (Int × Int)} {t r : Int} {i : Nat} (h : FndI ps t i r) : i < ps.length := by
  rcases Nat.lt_or_ge i ps.length with h1 | h1
  · exact h1
  · have := h.2.1
    rw [List.drop_of_length_le h1, sumP_nil] at this
    have := h.1
    omega
theorem FndI.here {ps : List (Int × Int)} {t r : Int} {i : Nat} (hg : Gd ps) (h : FndI ps t i r) (hv : r ≤ (ps.getD i (0, 0)).2) : findP t 0 ps = some (ps.getD i (0, 0)).1 := by
  have hl := h.lt
  obtain ⟨h1, h2, s, h3, h4, h5, h6⟩ := h
  have hp := hg.pos _ (getD_mem' hl)
  have hd := sumP_nonneg (ps := ps.drop (i + 1)) (fun x hx => hg.pos x (List.mem_of_mem_drop hx))
  rw [drop_cons hl, sumP_cons] at h5
  rw [h6, drop_cons hl, findP, Int.emod_eq_of_lt (by omega) (by omega), if_pos (by omega)]
theorem FndI.next {ps : List (Int × Int)} {t r : Int} {i : Nat} (hg : Gd ps) (h : FndI ps t i r) (hv : ¬ r ≤ (ps.getD i (0, 0)).2) : FndI ps t (i + 1) (r - (ps.getD i (0, 0)).2) := by
  have hl := h.lt
  obtain ⟨h1, h2, s, h3, h4, h5, h6⟩ := h
  have hp := hg.pos _ (getD_mem' hl)
  have hd := sumP_nonneg (ps := ps.drop (i + 1)) (fun x hx => hg.pos x (List.mem_of_mem_drop hx))
  rw [drop_cons hl, sumP_cons] at h5 h2
  refine ⟨by omega, by omega, s + (ps.getD i (0, 0)).2, by omega, by omega, by omega, ?_⟩
  rw [h6, drop_cons hl, findP, Int.emod_eq_of_lt (by omega) (by omega), if_neg (by omega)]
theorem FndI.zero {ps : List (Int × Int)} {t : Int} (h0 : 0 < t) (h1 : t ≤ sumP ps) (h2 : sumP ps ≤ 9223372036854775807) : FndI ps t 0 t := ⟨h0, h1, 0, by omega, by omega, by simpa using h2, rfl⟩
theorem findP_over : ∀ {ps : List (Int × Int)} {t s : Int}, Gd ps → 0 ≤ s → s + sumP ps < t → s + sumP ps < 18446744073709551616 → findP t s ps = none
  | [], t, s, _, _, _, _ => rfl
  | x :: ps, t, s, hg, h0, h1, h2 => by
    have hx := hg.pos x (by simp)
    have hd := sumP_nonneg hg.tail.pos
    rw [sumP_cons] at h1 h2
    rw [findP, Int.emod_eq_of_lt (by omega) (by omega), if_neg (by omega)]
    exact findP_over hg.tail (by omega) (by omega) (by omega)

set_option maxRecDepth 100000 in
set_option maxHeartbeats 2000000 in
theorem sfind_any (b : Nat) (S : List Nat) (most : Int) (ps : List (Int × Int)) (t : Int) (w : World) (h : Strip w b S most ps) (ht : 0 ≤ t ∧ t < 18446744073709551616) :
    Calls Try.prog 40 #[.pointer (some ⟨b, 0, none⟩), .int .u64 t] w fun e w' => e = .returned (optI (findP t 0 ps)) ∧ w = w' := by
  have hl := h.len.2
  have hg := Lib.hid h.gd
  have hsm := h.sum
  obtain ⟨A, c, _, h⟩ := h
  have s1 := h.at'
  have f1 := s1.three
  have HO := Lib.hid h.own.rd
  obtain ⟨n, hn⟩ : ∃ n, ps.length = n := ⟨_, rfl⟩
  obtain ⟨T, hT⟩ : ∃ T, sumP ps = T := ⟨_, rfl⟩
  have HN := Lib.hid hn
  have HT := Lib.hid hT
  rw [hn, hT] at f1
  rw [hT] at hsm
  obtain ⟨ht0, ht1⟩ := ht
  clear hT h s1
  by_cases h0 : t = 0
  · subst h0
    have HZ := Lib.hid (findP_zero ps 0)
    clear hn hl ht0 ht1 hsm
    go_enter Try.func40, Try.ntmps40
    go_wp2
    go_step3
    go_wp2
    simp only [Exit.noGoto]
    go_ret2
    exact ⟨by rw [HZ.out]; rfl, rfl⟩
  by_cases h1 : T < t
  · have h0' : (t == 0) = false := beq_eq_false_iff_ne.2 h0
    have HZ := Lib.hid (findP_over (t := t) (s := 0) hg.out (by omega) (by rw [HT.out]; omega) (by rw [HT.out]; omega))
    clear hn hl ht0 ht1 hsm h0
    go_enter Try.func40, Try.ntmps40
    go_wp2
    go_step3
    go_wp2
    simp only [Exit.noGoto]
    go_ret2
    exact ⟨by rw [HZ.out]; rfl, rfl⟩
  have h0' : (t == 0) = false := beq_eq_false_iff_ne.2 h0
  have HI := Lib.hid (FndI.zero (ps := ps) (t := t) (by omega) (by rw [HT.out]; omega) (by rw [HT.out]; exact hsm))
  have hlt0 : 0 < n := by have := HI.out.lt; omega
  obtain ⟨g, rfl⟩ : ∃ g, A = some g := by
    obtain ⟨g, o, e, _⟩ := HO.out.at' 0 (by omega)
    exact ⟨⟨g, o, none⟩, e⟩
  have hbnd : Hid (t ≤ 9223372036854775807) := show t ≤ _ by omega
  clear hn h0 ht0 ht1 hsm
  go_enter Try.func40, Try.ntmps40
  go_wp2
  refine wp_scope_jumps 0 (fun a' w' => ∃ (i : Nat) (r : Int) (u2 u3 u4 u5 u7 u8 u9 u10 u11 u12 u13 u14 u15 u16 u17 u18 u19 u20 u21 u22 u23 u24 u25 u26 u27 u28 u29 u30 u31 u32 u33 u34 u35 u36 u37 u38 u39 u40 u41 u42 u43 u44 u45 u46 u47 u48 u49 u50 : Value), a' = { tmps := #[.pointer (some ⟨b, 0, none⟩), .int .u64 r, u2, u3, u4, u5, .int .i64 i, u7, u8, u9, u10, u11, u12, u13, u14, u15, u16, u17, u18, u19, u20, u21, u22, u23, u24, u25, u26, u27, u28, u29, u30, u31, u32, u33, u34, u35, u36, u37, u38, u39, u40, u41, u42, u43, u44, u45, u46, u47, u48, u49, u50], defers := [] } ∧ Hid (FndI ps t i r) ∧ w = w') (fun a' _ => n - (intOf (a'.tmps.getD 6 undef)).toNat) rfl ?_ ?_
  · have hlt := hlt0
    obtain ⟨g', o, e, hg', c1, c2⟩ := HO.out.at' 0 (by have := HN.out; omega)
    cases e
    obtain ⟨x, hx⟩ : ∃ x, (ps.getD 0 (0, 0)).1 = x := ⟨_, rfl⟩
    obtain ⟨v, hv⟩ : ∃ v, (ps.getD 0 (0, 0)).2 = v := ⟨_, rfl⟩
    have HX := Lib.hid (And.intro hx hv)
    rw [hx] at c1
    rw [hv] at c2
    rw [Nat.zero_mul, Nat.add_zero] at c1 c2
    have k1 : (0 : Int) < n := by omega
    clear hx hv
    by_cases hle : v < t
    · have HV := Lib.hid (FndI.next hg.out HI.out (by rw [HX.out.2]; omega))
      have hw : IntKind.u64.wrap (t - v) = t - v := by simp only [IntKind.wrap_u64]; have := hbnd.out; have := hg.out.pos _ (getD_mem' (show 0 < ps.length by rw [HN.out]; exact hlt)); rw [HX.out.2] at this; omega
      clear hlt0 hlt
      go_wp2
      go_step3
      go_wp2
      go_step3
      refine ⟨rfl, ?_⟩
      exact ⟨1, t - v, _, _, _, _, _, _, _, _, _, _, _, _, _, _, _, _, _, _, _, _, _, _, _, _, _, _, _, _, _, _, _, _, _, _, _, _, _, _, _, _, _, _, _, _, _, _, _, _, rfl, by rw [HX.out.2] at HV; exact HV, rfl⟩
    · have HV := Lib.hid (FndI.here hg.out HI.out (by rw [HX.out.2]; omega))
      clear hlt0 hlt
      go_wp2
      go_step3
      go_wp2
      simp only [Exit.jump]
      go_ret2
      exact ⟨by rw [HV.out, HX.out.1]; rfl, rfl⟩
  · rintro a' w' ⟨i, r, u2, u3, u4, u5, u7, u8, u9, u10, u11, u12, u13, u14, u15, u16, u17, u18, u19, u20, u21, u22, u23, u24, u25, u26, u27, u28, u29, u30, u31, u32, u33, u34, u35, u36, u37, u38, u39, u40, u41, u42, u43, u44, u45, u46, u47, u48, u49, u50, rfl, HJ, rfl⟩
    have hi : i < n := by have := HJ.out.lt; have := HN.out; omega
    obtain ⟨g', o, e, hg', c1, c2⟩ := HO.out.at' i (by have := HN.out; omega)
    cases e
    obtain ⟨x, hx⟩ : ∃ x, (ps.getD i (0, 0)).1 = x := ⟨_, rfl⟩
    obtain ⟨v, hv⟩ : ∃ v, (ps.getD i (0, 0)).2 = v := ⟨_, rfl⟩
    have HX := Lib.hid (And.intro hx hv)
    rw [hx] at c1
    rw [hv] at c2
    have k0 : (0 : Int) ≤ i := by omega
    have k1 : (i : Int) < n := by omega
    clear hx hv
    by_cases hle : v < r
    · have HV := Lib.hid (FndI.next hg.out HJ.out (by rw [HX.out.2]; omega))
      have hw : IntKind.u64.wrap (r - v) = r - v := by
        simp only [IntKind.wrap_u64]
        have h1 := hbnd.out
        have h2 := hg.out.pos _ (getD_mem' (show i < ps.length by rw [HN.out]; exact hi))
        rw [HX.out.2] at h2
        obtain ⟨_, _, s, hs, h3, _⟩ := HJ.out
        omega
      have hw2 : IntKind.i64.wrap ((i : Int) + 1) = ((i + 1 : Nat) : Int) := by simp only [IntKind.wrap_i64]; have := HN.out; omega
      clear hlt0
      go_wp2
      go_step3
      refine ⟨rfl, ?_, ?_⟩
      · exact ⟨i + 1, r - v, _, _, _, _, _, _, _, _, _, _, _, _, _, _, _, _, _, _, _, _, _, _, _, _, _, _, _, _, _, _, _, _, _, _, _, _, _, _, _, _, _, _, _, _, _, _, _, _, rfl, by rw [HX.out.2] at HV; exact HV, rfl⟩
      · simp [intOf]; omega
    · have HV := Lib.hid (FndI.here hg.out HJ.out (by rw [HX.out.2]; omega))
      clear hlt0
      go_wp2
      simp only [Exit.jump]
      go_ret2
      exact ⟨by rw [HV.out, HX.out.1]; rfl, rfl⟩
end Go.Proofs.Ytooojpicbbpaaaa

