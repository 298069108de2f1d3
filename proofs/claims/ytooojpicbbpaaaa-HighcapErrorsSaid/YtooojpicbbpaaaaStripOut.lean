/- Contracts of package strip: First, Last; a nil strip. -/
import Derived.Test.YtooojpicbbpaaaaProg
import Derived.Test.YtooojpicbbpaaaaStripTake
namespace Go.Proofs.Ytooojpicbbpaaaa
open Go.RowKit

/-- What leaves, and what is left. -/
def outV (ps : List (Int × Int)) (i : Nat) : Value := if ps.length = 0 then .tuple #[.agg #[.int .i64 0, .int .u64 0], .bool false] else .tuple #[.agg #[.int .i64 (ps.getD i (0, 0)).1, .int .u64 (ps.getD i (0, 0)).2], .bool true]
def outR (b : Nat) (S : List Nat) (most : Int) (ps : List (Int × Int)) (i : Nat) (w : World) (e : Ending) (w' : World) : Prop :=
  e = .returned (outV ps i) ∧ Strip w' b S most (if ps.length = 0 then ps else outF ps i) ∧ Frame S w w'
theorem outR_some {b : Nat} {S : List Nat} {most : Int} {ps : List (Int × Int)} {i : Nat} {w w' : World} (h : ps.length ≠ 0) (h1 : Strip w' b S most (outF ps i)) (h2 : Frame S w w') :
    outR b S most ps i w (.returned (.tuple #[.agg #[.int .i64 (ps.getD i (0, 0)).1, .int .u64 (ps.getD i (0, 0)).2], .bool true])) w' := ⟨by unfold outV; rw [if_neg h], by rw [if_neg h]; exact h1, h2⟩
theorem outR_none {b : Nat} {S : List Nat} {most : Int} {ps : List (Int × Int)} {i : Nat} {w w' : World} (h : ps.length = 0) (h1 : Strip w' b S most ps) (h2 : Frame S w w') :
    outR b S most ps i w (.returned (.tuple #[.agg #[.int .i64 0, .int .u64 0], .bool false])) w' := ⟨by unfold outV; rw [if_pos h], by rw [if_pos h]; exact h1, h2⟩

set_option maxRecDepth 100000 in
theorem slast_any (b : Nat) (S : List Nat) (most : Int) (ps : List (Int × Int)) (w : World) (h : Strip w b S most ps) :
    Calls Try.prog 50 #[.pointer (some ⟨b, 0, none⟩)] w fun e w' => outR b S most ps (ps.length - 1) w e w' := by
  obtain ⟨n, hn⟩ : ∃ n, ps.length = n := ⟨_, rfl⟩
  have HN := Lib.hid hn
  have H := Lib.hid (h.below ((Below.refl w.heap.size w).alloc (Nat.le_refl _) (.cells #[.int .i64 0, .int .u64 0] 34)))
  have H0 := Lib.hid h
  obtain ⟨A, c, hat⟩ : ∃ A c, At w b #[.int .i64 most, .slice A n c, .int .u64 (sumP ps)] 72 := by
    obtain ⟨A, c, _, hB⟩ := h
    exact ⟨A, c, by rw [← hn]; exact hB.at'⟩
  have f1 := hat.three
  have l1 := hat.lt
  have hln := h.len
  rw [hn] at hln
  have HI : Hid (outR b S most ps (ps.length - 1) w = outR b S most ps (n - 1) w) := by show _ = _; rw [hn]
  simp only [HI.out]
  clear hn h hat
  go_enter Try.func50, Try.ntmps50
  have a1 := At.new w #[.int .i64 0, .int .u64 0] 34
  have a2 := a1.lt
  by_cases h0 : n = 0
  · have hp : ps = [] := List.eq_nil_of_length_eq_zero (by rw [HN.out]; exact h0)
    have h1 := H.out
    rw [hp] at h1
    have HLn := Lib.hid hln
    clear hln
    go_wp2_with fail
    refine (take_empty b S most _ _ h1).mono ?_
    rintro e w1 ⟨rfl, hb⟩
    clear h1
    have a3 := a1.below hb
    have f3 := a3.two
    have HR : Hid (outR b S most ps (n - 1) w (.returned (.tuple #[.agg #[.int .i64 0, .int .u64 0], .bool false])) ((w1.setCell ⟨w.heap.size, 0, none⟩ (.int .i64 0)).setCell ⟨w.heap.size, 1, none⟩ (.int .u64 0))) := by
      have hb2 : Below w.heap.size w ((w1.setCell ⟨w.heap.size, 0, none⟩ (.int .i64 0)).setCell ⟨w.heap.size, 1, none⟩ (.int .u64 0)) := ((keep1 ((Below.refl _ _).alloc (Nat.le_refl _) _) hb).setCell (Nat.le_refl _) _).setCell (Nat.le_refl _) _
      exact outR_none (by rw [HN.out]; exact h0) (H0.out.below hb2) (Frame.of_below hb2)
    clear hb a1
    go_wp2
    have x4 := ((a3.set_any 0 (.int .i64 0) rfl).set_any 1 (.int .u64 0) rfl).two
    exact bodyPost_ret (v := .tuple #[.agg #[.int .i64 0, .int .u64 0], .bool false]) (by simp only [results, Try.f50]; simp [go_sem, x4]) rfl HR.out
  · have hlt : n - 1 < ps.length := by rw [HN.out]; omega
    have hi : IntKind.i64.wrap ((n : Int) - 1) = ((n - 1 : Nat) : Int) := by simp only [IntKind.wrap_i64]; omega
    go_wp2_with fail
    refine (take_some b S most ps (n - 1) _ H.out hlt).mono ?_
    rintro e w1 ⟨rfl, hS, hf⟩
    have a3 := hf.at a1 (fun hm => by have := H0.out.lt _ hm; omega)
    have f3 := a3.two
    obtain ⟨x, hx⟩ : ∃ x, (ps.getD (n - 1) (0, 0)).1 = x := ⟨_, rfl⟩
    obtain ⟨y, hy⟩ : ∃ y, (ps.getD (n - 1) (0, 0)).2 = y := ⟨_, rfl⟩
    have HR : Hid (outR b S most ps (n - 1) w (.returned (.tuple #[.agg #[.int .i64 x, .int .u64 y], .bool true])) ((w1.setCell ⟨w.heap.size, 0, none⟩ (.int .i64 x)).setCell ⟨w.heap.size, 1, none⟩ (.int .u64 y))) := by
      subst hx hy
      refine outR_some (by omega) ((hS.frame (Frame.set [w.heap.size] _ _ 0 _ (by simp)) (fun k hk e => ?_)).frame (Frame.set [w.heap.size] _ _ 1 _ (by simp)) (fun k hk e => ?_)) ?_
      · simp at e; have := H0.out.lt k hk; omega
      · simp at e; have := H0.out.lt k hk; omega
      · exact (((Frame.of_below ((Below.refl _ _).alloc (Nat.le_refl _) _)).trans hf).setc (.inr (Nat.le_refl _)) 0 _).setc (.inr (Nat.le_refl _)) 1 _
    rw [hx, hy]
    clear hS hf hx hy hlt a1
    go_wp2
    have x4 := ((a3.set_any 0 (.int .i64 x) rfl).set_any 1 (.int .u64 y) rfl).two
    exact bodyPost_ret (v := .tuple #[.agg #[.int .i64 x, .int .u64 y], .bool true]) (by simp only [results, Try.f50]; simp [go_sem, x4]) rfl HR.out

/-! A nil strip. -/
theorem slast_nil (w : World) : Calls Try.prog 50 #[.pointer none] w fun e w' => e = .returned (.tuple #[.agg #[.int .i64 0, .int .u64 0], .bool false]) ∧ Below w.heap.size w w' := by
  go_enter Try.func50, Try.ntmps50
  go_wp2
  have a3 := (At.new w #[.int .i64 0, .int .u64 0] 34)
  have x4 := ((a3.set_any 0 (.int .i64 0) rfl).set_any 1 (.int .u64 0) rfl).two
  exact bodyPost_ret (v := .tuple #[.agg #[.int .i64 0, .int .u64 0], .bool false]) (by simp only [results, Try.f50]; simp [go_sem, x4]) rfl ⟨rfl, (by repeat (first | with_reducible assumption | with_reducible exact Below.refl _ _ | with_reducible refine Below.drew ?_ | with_reducible refine Below.drewN ?_ _ | with_reducible refine Below.setCell ?_ (by first | omega | (simp; done) | (simp; omega)) _ | with_reducible refine Below.alloc ?_ (by first | omega | (simp; done) | (simp; omega) | (simp [World.setCell]; omega)) _))⟩
theorem snil_add (q c : Int) (w : World) : Calls Try.prog 45 #[.pointer none, .int .i64 q, .int .u64 c] w fun e w' => e = .returned (.int .i64 2) ∧ w = w' := by
  go_enter Try.func45, Try.ntmps45
  go_wp2
  go_ret
  exact ⟨rfl, rfl⟩
theorem snil_at (q : Int) (w : World) : Calls Try.prog 38 #[.pointer none, .int .i64 q] w fun e w' => e = .returned (.int .u64 0) ∧ w = w' := by
  go_enter Try.func38, Try.ntmps38
  go_wp2
  go_ret
  exact ⟨rfl, rfl⟩
theorem snil_total (w : World) : Calls Try.prog 37 #[.pointer none] w fun e w' => e = .returned (.int .u64 0) ∧ w = w' := by
  go_enter Try.func37, Try.ntmps37
  go_wp2
  go_ret
  exact ⟨rfl, rfl⟩
theorem snil_len (w : World) : Calls Try.prog 54 #[.pointer none] w fun e w' => e = .returned (.int .i64 0) ∧ w = w' := by
  go_enter Try.func54, Try.ntmps54
  go_wp2
  go_ret
  exact ⟨rfl, rfl⟩
theorem snil_pairs (w : World) : Calls Try.prog 36 #[.pointer none] w fun e w' => e = .returned (.slice none 0 0) ∧ w = w' := by
  go_enter Try.func36, Try.ntmps36
  go_wp2
  go_ret
  exact ⟨rfl, rfl⟩
theorem snil_ends (w : World) : Calls Try.prog 49 #[.pointer none] w fun e w' => e = .returned (.tuple #[.int .i64 0, .int .i64 0, .bool false]) ∧ w = w' := by
  go_enter Try.func49, Try.ntmps49
  go_wp2_with fail
  refine (snil_len w).mono ?_
  rintro e w1 ⟨rfl, rfl⟩
  go_wp2
  go_ret3
  exact ⟨rfl, rfl⟩
end Go.Proofs.Ytooojpicbbpaaaa

