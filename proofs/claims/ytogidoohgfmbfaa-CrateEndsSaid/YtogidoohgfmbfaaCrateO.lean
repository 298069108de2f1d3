/- A crate, and the document's crate, as things that own blocks: contracts in terms of their rows. -/
import Derived.Test.YtogidoohgfmbfaaProg
import Derived.Test.YtogidoohgfmbfaaRangeP
import Derived.Test.YtogidoohgfmbfaaRef07
namespace Go.Proofs.Ytogidoohgfmbfaa
open Go.RowKit

/-! Sets of blocks. -/
def Apart (S T : List Nat) : Prop := ∀ k ∈ S, k ∉ T
def GrownS (S S' : List Nat) (n : Nat) : Prop := ∀ k ∈ S', k ∈ S ∨ n ≤ k
def Within (S : List Nat) (lo hi : Nat) : Prop := ∀ k ∈ S, lo ≤ k ∧ k < hi
theorem Apart.symm {S T : List Nat} (h : Apart S T) : Apart T S := fun k hk hn => h k hn hk
theorem Apart.grown {S S' T : List Nat} {n lo : Nat} (h : Apart S T) (hg : GrownS S S' n) (hw : Within T lo n) : Apart S' T := fun k hk hn => by
  rcases hg k hk with h1 | h1
  · exact h k h1 hn
  · have := (hw k hn).2; omega
theorem Within.mono {S : List Nat} {lo hi hi' : Nat} (h : Within S lo hi) (hh : hi ≤ hi') : Within S lo hi' := fun k hk => ⟨(h k hk).1, Nat.lt_of_lt_of_le (h k hk).2 hh⟩
theorem Within.grown {S S' : List Nat} {lo hi n : Nat} (h : Within S lo n) (hg : GrownS S S' n) (hl : lo ≤ n) (hs : ∀ k ∈ S', k < hi) : Within S' lo hi := fun k hk => ⟨by
  rcases hg k hk with h1 | h1
  · exact (h k h1).1
  · omega, hs k hk⟩
theorem GrownS.refl (S : List Nat) (n : Nat) : GrownS S S n := fun _ hk => .inl hk
theorem Frame.below' {S : List Nat} {lo : Nat} {w0 w w' : World} (h : Frame S w w') (hB : Below lo w0 w) (hz : lo ≤ w.heap.size) (hS : Within S lo w.heap.size) : Below lo w0 w' := h.below hB hz fun k hk => (hS k hk).1
theorem Frame.mono {S T : List Nat} {w w' : World} (h : Frame S w w') (hs : ∀ k ∈ S, k ∈ T) : Frame T w w' := ⟨h.os, h.tape, h.output, h.size, fun k hk hn => h.block k hk fun hm => hn (hs k hm)⟩

/-- Block b is a crate's, that owns the blocks S: these pairs. -/
def Crate (w : World) (b : Nat) (S : List Nat) (ps : List (Int × Int)) : Prop :=
  ∃ g f cs, CrB w b g f cs (sumP ps) ∧ CrInv f cs (sumP ps) ∧ ps = pairsC f cs ∧ b ≠ g ∧ S = if cs = [] then [b] else [b, g]

theorem Crate.lt {w : World} {b : Nat} {S : List Nat} {ps : List (Int × Int)} (h : Crate w b S ps) : ∀ k ∈ S, k < w.heap.size := by
  obtain ⟨g, f, cs, h1, _, _, _, rfl⟩ := h
  intro k hk
  have l1 := h1.1.lt
  split at hk
  · simp only [List.mem_singleton] at hk; omega
  · have l2 := (h1.2 (by assumption)).lt
    simp only [List.mem_cons, List.not_mem_nil, or_false] at hk
    omega
theorem Crate.frame {w w' : World} {b : Nat} {S T : List Nat} {ps : List (Int × Int)} (h : Crate w b S ps) (hf : Frame T w w') (ha : Apart S T) : Crate w' b S ps := by
  obtain ⟨g, f, cs, h1, h2, h3, h4, rfl⟩ := h
  refine ⟨g, f, cs, ?_, h2, h3, h4, rfl⟩
  by_cases hn : cs = []
  · rw [if_pos hn] at ha
    exact ⟨hf.at h1.1 (ha b (by simp)), fun h => absurd hn h⟩
  · rw [if_neg hn] at ha
    exact h1.frame hf (ha b (by simp)) (ha g (by simp))
theorem Crate.below {w w' : World} {b : Nat} {S : List Nat} {ps : List (Int × Int)} (h : Crate w b S ps) (hb : Below w.heap.size w w') : Crate w' b S ps := h.frame (Frame.of_below (S := []) hb) (fun k _ hn => by simp at hn)
theorem Crate.gd {w : World} {b : Nat} {S : List Nat} {ps : List (Int × Int)} (h : Crate w b S ps) : Gd ps := by
  obtain ⟨g, f, cs, h1, h2, rfl, _⟩ := h
  exact gd_pairsC _ _
theorem Crate.okP {w : World} {b : Nat} {S : List Nat} {ps : List (Int × Int)} (h : Crate w b S ps) : okP ps := by
  obtain ⟨g, f, cs, h1, h2, h3, _⟩ := h
  have := h2.okP
  rwa [← h3] at this
theorem Crate.sum {w : World} {b : Nat} {S : List Nat} {ps : List (Int × Int)} (h : Crate w b S ps) : sumP ps ≤ 9223372036854775807 := by
  obtain ⟨g, f, cs, h1, h2, h3, _⟩ := h
  exact h2.ok.tot1
theorem Crate.len {w : World} {b : Nat} {S : List Nat} {ps : List (Int × Int)} (h : Crate w b S ps) : ps.length ≤ 4096 := by
  obtain ⟨g, f, cs, h1, h2, h3, _⟩ := h
  have := pairsC_length cs f
  have := h2.ok.len
  rw [h3]; omega
theorem Crate.src {w : World} {b : Nat} {S : List Nat} {ps : List (Int × Int)} (h : Crate w b S ps) : CrS w.heap.size w (some ⟨b, 0, none⟩) ps := by
  obtain ⟨g, f, cs, h1, h2, h3, h4, _⟩ := h
  by_cases hn : cs = []
  · subst hn
    exact .inr ⟨b, 0, f, _, [], rfl, ⟨h1.1, fun e => absurd rfl e⟩, h2.ok, h1.1.lt, Nat.lt_of_le_of_lt (Nat.zero_le _) h1.1.lt, h3⟩
  · exact .inr ⟨b, g, f, _, cs, rfl, h1, h2.ok, h1.1.lt, (h1.2 hn).lt, h3⟩

theorem cnew (w : World) : Calls Try.prog 9 #[] w fun e w' => ∃ b, e = .returned (.pointer (some ⟨b, 0, none⟩)) ∧ b = w.heap.size ∧ Crate w' b [b] [] ∧ Below w.heap.size w w' := by
  refine (crnew_any w).mono ?_
  rintro e w' ⟨b, rfl, rfl, h1, h2⟩
  exact ⟨_, rfl, rfl, ⟨w.heap.size + 1, 0, [], ⟨h1.1, fun e => absurd rfl e⟩, CrInv.nil, rfl, by omega, rfl⟩, h2⟩
theorem ctotal (w : World) {b : Nat} {S : List Nat} {ps : List (Int × Int)} (h : Crate w b S ps) :
    Calls Try.prog 13 #[.pointer (some ⟨b, 0, none⟩)] w fun e w' => e = .returned (.int .u64 (sumP ps)) ∧ w = w' := by
  obtain ⟨g, f, cs, h1, h2, h3, _⟩ := h
  exact crtotal_any w b g f _ cs h1
theorem cat (w : World) {b : Nat} {S : List Nat} {ps : List (Int × Int)} (q : Int) (h : Crate w b S ps) (hq0 : -9223372036854775808 ≤ q) (hq1 : q ≤ 9223372036854775807) :
    Calls Try.prog 20 #[.pointer (some ⟨b, 0, none⟩), .int .i64 q] w fun e w' => e = .returned (.int .u64 (cnt ps q)) ∧ Below w.heap.size w w' := by
  obtain ⟨g, f, cs, h1, h2, h3, _⟩ := h
  have := h2.cnt q
  rw [← h3] at this
  rw [this]
  exact crat_any w b g f _ q cs h1 h2.ok hq0 hq1
theorem cadd_zero (w : World) (b : Nat) (q : Int) :
    Calls Try.prog 10 #[.pointer (some ⟨b, 0, none⟩), .int .i64 q, .int .u64 0] w fun e w' => e = .returned (.int .i64 1) ∧ w = w' := cradd_zero w b q
theorem cadd (w : World) {b : Nat} {S : List Nat} {ps : List (Int × Int)} (q c : Int) (h : Crate w b S ps) (hc0 : 0 < c) (hc1 : c < 18446744073709551616) (hq0 : -9223372036854775808 ≤ q) (hq1 : q ≤ 9223372036854775807) :
    Calls Try.prog 10 #[.pointer (some ⟨b, 0, none⟩), .int .i64 q, .int .u64 c] w fun e w' =>
      (¬ rowRoom ps q c ∧ e = .returned (.int .i64 6) ∧ Below w.heap.size w w') ∨
      (rowRoom ps q c ∧ e = .returned (.int .i64 0) ∧ ∃ S', GrownS S S' w.heap.size ∧ Crate w' b S' (rowAdd ps q c) ∧ Frame S w w') := by
  obtain ⟨g, f, cs, h1, h2, h3, h4, rfl⟩ := h
  have hlt := h1.1.lt
  obtain ⟨g0, h1', h4', hg0⟩ : ∃ g0, CrB w b g0 f cs (sumP ps) ∧ b ≠ g0 ∧ g0 = if cs = [] then w.heap.size else g := by
    by_cases hn : cs = []
    · exact ⟨w.heap.size, ⟨h1.1.trans (by subst hn; rfl), fun h => absurd hn h⟩, by omega, by rw [if_pos hn]⟩
    · exact ⟨g, h1, h4, by rw [if_neg hn]⟩
  refine (cradd_any w b g0 f _ q c cs h1' h2.ok h4' hc0 hc1 hq0 hq1).mono ?_
  have hiff := crRoom_iff (q := q) h2 hc0
  rw [← h3] at hiff
  rintro e w' (⟨hr, he, hb⟩ | ⟨hr, he, g', hg', hbg', hC, hF⟩)
  · exact .inl ⟨fun h => hr (hiff.2 h), he, hb⟩
  · have hp := h2.pairs hc0 hr
    have hI := h2.add hc0 hr hq0 hq1
    have hs : sumP ps + c = sumP (rowAdd ps q c) := by
      have := hI.sumP
      rw [hp, ← h3] at this
      exact this.symm
    rw [hs] at hC hI
    rw [← h3] at hp
    have hne : crAdd f q c cs ≠ [] := by
      intro e
      have h5 := crAdd_length f q c cs
      rw [e] at h5
      exact crRow_ne f q cs (List.eq_nil_of_length_eq_zero h5.symm)
    refine .inr ⟨hiff.1 hr, he, [b, g'], ?_, ⟨g', _, _, hC, hI, hp.symm, hbg', by rw [if_neg hne]⟩, ?_⟩
    · intro k hk
      simp only [List.mem_cons, List.not_mem_nil, or_false] at hk
      by_cases hn : cs = []
      · rw [if_pos hn] at hg0 ⊢
        simp only [List.mem_singleton]
        omega
      · rw [if_neg hn] at hg0 ⊢
        simp only [List.mem_cons, List.not_mem_nil, or_false]
        omega
    · by_cases hn : cs = []
      · rw [if_pos hn] at hg0 ⊢
        refine ⟨hF.os, hF.tape, hF.output, hF.size, fun k hk hm => hF.block k hk ?_⟩
        simp only [List.mem_cons, List.not_mem_nil, or_false] at hm ⊢
        omega
      · rw [if_neg hn] at hg0 ⊢
        rw [hg0] at hF
        exact hF

/-- Block m is the document's crate's. -/
def Doc (w : World) (m : Nat) (S : List Nat) (ps : List (Int × Int)) : Prop :=
  ∃ A cap, At w m #[.slice A ps.length cap] 40 ∧ RdP w A ps ∧ (∀ a, A = some a → a.block < w.heap.size ∧ a.block ≠ m) ∧ S = m :: (A.map Addr.block).toList

theorem Doc.lt {w : World} {m : Nat} {S : List Nat} {ps : List (Int × Int)} (h : Doc w m S ps) : ∀ k ∈ S, k < w.heap.size := by
  obtain ⟨A, cap, h1, h2, h3, rfl⟩ := h
  intro k hk
  cases A with
  | none => simp only [Option.map_none, Option.toList_none, List.mem_singleton] at hk; rw [hk]; exact h1.lt
  | some a =>
    simp only [Option.map_some, Option.toList_some, List.mem_cons, List.not_mem_nil, or_false] at hk
    rcases hk with rfl | rfl
    · exact h1.lt
    · exact (h3 a rfl).1
theorem Doc.frame {w w' : World} {m : Nat} {S T : List Nat} {ps : List (Int × Int)} (h : Doc w m S ps) (hf : Frame T w w') (ha : Apart S T) : Doc w' m S ps := by
  obtain ⟨A, cap, h1, h2, h3, rfl⟩ := h
  refine ⟨A, cap, hf.at h1 (ha m (by simp)), hf.rd h2 (fun a e => ha a.block (by subst e; simp)), fun a e => ⟨Nat.lt_of_lt_of_le (h3 a e).1 hf.size, (h3 a e).2⟩, rfl⟩
theorem Doc.below {w w' : World} {m : Nat} {S : List Nat} {ps : List (Int × Int)} (h : Doc w m S ps) (hb : Below w.heap.size w w') : Doc w' m S ps := h.frame (Frame.of_below (S := []) hb) (fun k _ hn => by simp at hn)
theorem Doc.at {w : World} {m : Nat} {S : List Nat} {ps : List (Int × Int)} (h : Doc w m S ps) : ∃ A cap, w.cell? ⟨m, 0, none⟩ = some (.slice A ps.length cap) ∧ RdP w A ps := by
  obtain ⟨A, cap, h1, h2, _⟩ := h
  exact ⟨A, cap, h1.one.1, h2⟩
theorem Doc.new (w : World) : Doc (w.alloc (.cells #[.slice none 0 0] 40)) w.heap.size [w.heap.size] [] :=
  ⟨none, 0, At.new _ _ _, RdP.nil _ _, by simp, rfl⟩
theorem Doc.new' {w : World} {b : Nat} (hb : b = w.heap.size) : Doc (w.alloc (.cells #[.slice none 0 0] 40)) b [b] [] := hb ▸ Doc.new w

theorem dadd_zero (w : World) (m : Nat) (q : Int) :
    Calls Try.prog 15 #[.pointer (some ⟨m, 0, none⟩), .int .i64 q, .int .u64 0] w fun e w' => e = .returned (.int .i64 1) ∧ w = w' := refadd_zero w m q
theorem dadd (w : World) {m : Nat} {S : List Nat} {ps : List (Int × Int)} (q c : Int) (h : Doc w m S ps) (hok : okP ps) (hg : Gd ps) (hlen : ps.length ≤ 100000) (hs : sumP ps ≤ 9223372036854775807)
    (hc0 : 0 < c) (hc1 : c < 18446744073709551616) (hq0 : -9223372036854775808 ≤ q) (hq1 : q ≤ 9223372036854775807) :
    Calls Try.prog 15 #[.pointer (some ⟨m, 0, none⟩), .int .i64 q, .int .u64 c] w fun e w' =>
      (¬ rowRoom ps q c ∧ e = .returned (.int .i64 6) ∧ Below w.heap.size w w') ∨
      (rowRoom ps q c ∧ e = .returned (.int .i64 0) ∧ ∃ S', GrownS S S' w.heap.size ∧ Doc w' m S' (rowAdd ps q c) ∧ Frame S w w') := by
  obtain ⟨A, cap, h1, h2, h3, rfl⟩ := h
  obtain ⟨r', hr', hm, hd⟩ : ∃ r', (∀ a, A = some a → a.block = r') ∧ m ≠ r' ∧ (A = none → w.heap.size ≤ r') := by
    cases A with
    | none => exact ⟨w.heap.size + m + 1, by simp, by omega, by omega⟩
    | some a => exact ⟨a.block, fun b e => by cases e; rfl, fun e => (h3 a rfl).2 e.symm, by simp⟩
  refine (refadd_any w m r' q c ps ⟨A, cap, h1, h2, hr'⟩ hm hok hg hlen hs hc0 hc1 hq0 hq1).mono ?_
  rintro e w' (h | ⟨hroom, he, r2, hr2, hm2, ⟨A', cap', k1, k2, k3⟩, hF⟩)
  · exact .inl h
  · refine .inr ⟨hroom, he, _, ?_, ⟨A', cap', k1, k2, ?_, rfl⟩, hF.mono (by simp)⟩
    · intro k hk
      cases A' with
      | none =>
        simp only [Option.map_none, Option.toList_none, List.mem_singleton] at hk
        exact .inl (by simp [hk])
      | some a' =>
        simp only [Option.map_some, Option.toList_some, List.mem_cons, List.not_mem_nil, or_false] at hk
        rcases hk with rfl | rfl
        · exact .inl (by simp)
        · rw [k3 a' rfl]
          rcases hr2 with rfl | hr2
          · cases A with
            | none => exact .inr (hd rfl)
            | some a => exact .inl (by simp [hr' a rfl])
          · exact .inr hr2
    · rintro a rfl
      have hcl := cnt_le_sumP hg.pos q
      have hne := rowAdd_ne (q := q) hg hc0 (by have := hroom.1; omega)
      obtain ⟨g, o, e, hl, _⟩ := RdP.at k2 0 (List.length_pos_iff.2 hne)
      cases e
      exact ⟨hl, by rw [k3 _ rfl]; exact hm2.symm⟩
end Go.Proofs.Ytogidoohgfmbfaa

