/- Contract of slices.Clone at lumps. -/
import Derived.Test.YtbmnebpjjghkpaaProg
import Derived.Test.YtbmnebpjjghkpaaLumpDelete
import Derived.Lib.SliceRun
namespace Go.Proofs.Ytbmnebpjjghkpaa
open Go.RowKit

/-- What Clone answers. -/
def CloR (ps : List Lu) (w : World) (e : Ending) (w' : World) : Prop := ∃ A' c', e = .returned (.slice A' ps.length c') ∧ Own3 w.heap.size w' A' c' ps ∧ Below w.heap.size w w'

set_option maxRecDepth 100000 in
set_option maxHeartbeats 2000000 in
theorem clone_any (base : Nat) (A : Option Addr) (c : Nat) (ps : List Lu) (w : World) (hown : Own3 base w A c ps) (hlen : ps.length ≤ 1048576) :
    Calls Try.prog 34 #[.slice A ps.length c] w fun e w' => CloR ps w e w' := by
  have q22 : ∀ (w : World) (a : Option Addr) (n c n' c' : Nat), (binOp .eql 23 (.slice a n c) (.slice none n' c')).run Try.prog w = .ok (.bool a.isNone) w := fun w a n c n' c' => Lib.run_eql_slice_nil w _ _ a n c n' c' Try.underlyingRow
  cases A with
  | none =>
    have h0 : ps = [] ∧ c = 0 := by
      rcases hown.2 with ⟨h, h0⟩ | ⟨g, cp, cur, h, _⟩
      · simp only [Value.slice.injEq] at h; exact ⟨List.eq_nil_of_length_eq_zero h0, h.2.2⟩
      · simp at h
    obtain ⟨rfl, rfl⟩ := h0
    clear hown
    go_enter Try.func34, Try.ntmps34
    go_wp2
    go_ret
    exact ⟨none, 0, rfl, Own3.nil _ _, Below.refl _ _⟩
  | some a =>
    obtain ⟨g, rfl⟩ : ∃ g, a = ⟨g, 0, none⟩ := by
      rcases hown.2 with ⟨h, _⟩ | ⟨g, cp, cur, h, _⟩
      · simp at h
      · simp only [Value.slice.injEq, Option.some.injEq] at h; exact ⟨g, h.1⟩
    obtain ⟨n, hn⟩ : ∃ n, ps.length = n := ⟨_, rfl⟩
    have hown1 : Own3 w.heap.size (w.alloc (.cells #[] 71)) (some ⟨w.heap.size, 0, none⟩) 0 [] := World.ownsRow_made w #[] 0 (Nat.le_refl _) (Nat.zero_le _) rfl
    have hsrc : ∀ j u, (flatL ps)[j]? = some u → (w.alloc (.cells #[] 71)).cell? ((⟨g, 0, none⟩ : Addr).add j) = some u := fun j u hj => World.ownsRow.cells (hown.alloc (.cells #[] 71)) (g := g) rfl j u hj
    obtain ⟨A', c', w', hr, ho, hf, hk⟩ := run_app w.heap.size (some ⟨w.heap.size, 0, none⟩) 0 [] ps _ hown1 ⟨g, 0, none⟩ c hsrc (by simp; omega) (by simp)
    simp only [List.length_nil, Nat.zero_add] at hr
    have HR : Hid (CloR ps w (.returned (.slice A' ps.length c')) w') := ⟨A', c', rfl, ho, hf.below ((Below.refl _ w).alloc (Nat.le_refl _) _) (by simp) (fun k hk => by simp [blk] at hk; omega)⟩
    replace hr := Lib.hid hr
    clear ho hf hk hown hown1 hsrc
    rw [hn] at hr HR ⊢
    clear hn
    go_enter Try.func34, Try.ntmps34
    go_wp2_with (at_builtin; refine Lib.wpList_append_run _ rfl _ _ _ _ rfl _ _ rfl rfl _ _ hr.out ?_)
    go_ret
    exact HR.out
end Go.Proofs.Ytbmnebpjjghkpaa

