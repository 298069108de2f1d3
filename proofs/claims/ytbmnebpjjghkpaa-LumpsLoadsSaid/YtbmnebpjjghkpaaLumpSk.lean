/- Contracts of package lumps: New, Total, Most, Lumps, lay. -/
import Derived.Test.YtbmnebpjjghkpaaProg
import Derived.Test.YtbmnebpjjghkpaaLumpClone
import Derived.Test.YtbmnebpjjghkpaaLumpFind
import Derived.Test.YtbmnebpjjghkpaaHeld
import Derived.Test.YtbmnebpjjghkpaaUntil
import Derived.BigQuiet
import Derived.Deep.QuietTactic
namespace Go.Proofs.Ytbmnebpjjghkpaa
open Go.RowKit

theorem Own3.frame {base c : Nat} {A : Option Addr} {w w' : World} {T : List Nat} {ls : List Lu} (h : Own3 base w A c ls) (hf : Frame T w w') (hn : ∀ k ∈ blk A, k ∉ T) : Own3 base w' A c ls := by
  obtain ⟨h1, h2⟩ := h
  refine ⟨h1, ?_⟩
  rcases h2 with h2 | ⟨g, cp, cur, e, hg, hc, r⟩
  · exact .inl h2
  · refine .inr ⟨g, cp, cur, e, hg, (hf.block g (Array.getElem?_eq_some_iff.1 hc).1 (hn g ?_)).trans hc, r⟩
    simp only [Value.slice.injEq] at e
    rw [e.1]
    simp [blk]
/-- A block of three cells, and a row of lumps of its own. -/
structure SkB (w : World) (b : Nat) (A : Option Addr) (c : Nat) (most : Int) (ls : List Lu) (tot : Int) : Prop where
  at' : At w b #[.int .i64 most, .slice A ls.length c, .int .u64 tot] 75
  own : Own3 0 w A c ls
  ne : b ∉ blk A
def SkR (w : World) (b : Nat) (S : List Nat) (most : Int) (ls : List Lu) (tot : Int) : Prop := ∃ A c, S = b :: blk A ∧ SkB w b A c most ls tot
section
variable {w w' : World} {b : Nat} {S T : List Nat} {most tot : Int} {ls : List Lu}
theorem SkR.frame (h : SkR w b S most ls tot) (hf : Frame T w w') (hn : Apart S T) : SkR w' b S most ls tot := by
  obtain ⟨A, c, rfl, h⟩ := h
  exact ⟨A, c, rfl, hf.at h.at' (hn b (by simp)), h.own.frame hf (fun k hk => hn k (by simp [hk])), h.ne⟩
theorem SkR.below (h : SkR w b S most ls tot) (hb : Below w.heap.size w w') : SkR w' b S most ls tot := h.frame (T := []) (Frame.of_below hb) (fun _ _ => by simp)
theorem SkR.lt (h : SkR w b S most ls tot) : ∀ k ∈ S, k < w.heap.size := by
  obtain ⟨A, c, rfl, h⟩ := h
  intro k hk
  rcases List.mem_cons.1 hk with rfl | hk
  · exact h.at'.lt
  · cases A with
    | none => simp [blk] at hk
    | some a => simp only [blk, List.mem_singleton] at hk; subst hk; exact (h.own.base_le a rfl).2
theorem SkR.mem (h : SkR w b S most ls tot) : b ∈ S := by obtain ⟨A, c, rfl, _⟩ := h; simp
end
/-- A sketch. -/
structure Sk (w : World) (b : Nat) (S : List Nat) (most : Int) (ls : List Lu) : Prop where
  r : SkR w b S most ls (sumN ls)
  gd : GdL ls
  ok : okL ls
  sm : sumN ls ≤ 9223372036854775807
section
variable {w w' : World} {b : Nat} {S T : List Nat} {most : Int} {ls : List Lu}
theorem Sk.frame (h : Sk w b S most ls) (hf : Frame T w w') (hn : Apart S T) : Sk w' b S most ls := ⟨h.r.frame hf hn, h.gd, h.ok, h.sm⟩
theorem Sk.below (h : Sk w b S most ls) (hb : Below w.heap.size w w') : Sk w' b S most ls := ⟨h.r.below hb, h.gd, h.ok, h.sm⟩
theorem Sk.lt (h : Sk w b S most ls) : ∀ k ∈ S, k < w.heap.size := h.r.lt
theorem Sk.sum0 (h : Sk w b S most ls) : 0 ≤ sumN ls := sumN_nonneg h.gd.pos
end

theorem knew_any (most : Int) (w : World) (h1 : 2 ≤ most) (h2 : most ≤ 64) :
    Calls Try.prog 31 #[.int .i64 most] w fun e w' => (∃ b, e = .returned (.tuple #[.pointer (some ⟨b, 0, none⟩), .int .i64 0]) ∧ b = w.heap.size ∧ Sk w' b [b] most []) ∧ Below w.heap.size w w' := by
  have hs : At (w.alloc (.cells #[.int .i64 most, .slice none 0 0, .int .u64 0] 75)) w.heap.size #[.int .i64 most, .slice none 0 0, .int .u64 0] 75 := At.new w _ _
  have HS : Hid (Sk (w.alloc (.cells #[.int .i64 most, .slice none 0 0, .int .u64 0] 75)) w.heap.size [w.heap.size] most []) := ⟨⟨none, 0, rfl, hs, Own3.nil _ _, by simp [blk]⟩, GdL.nil, fun x hx => by simp at hx, by rw [sumN_nil]; omega⟩
  clear hs
  have n1 : ¬ most < 2 := by omega
  have n2 : ¬ 64 < most := by omega
  clear h1 h2
  go_enter Try.func31, Try.ntmps31
  go_wp2
  go_ret2
  exact ⟨⟨_, rfl, rfl, HS.out⟩, (by repeat (first | with_reducible assumption | with_reducible exact Below.refl _ _ | with_reducible refine Below.drew ?_ | with_reducible refine Below.drewN ?_ _ | with_reducible refine Below.setCell ?_ (by first | omega | (simp; done) | (simp; omega)) _ | with_reducible refine Below.alloc ?_ (by first | omega | (simp; done) | (simp; omega) | (simp [World.setCell]; omega)) _))⟩
theorem knew_bad (most : Int) (w : World) (h : most < 2 ∨ 64 < most) :
    Calls Try.prog 31 #[.int .i64 most] w fun e w' => e = .returned (.tuple #[.pointer none, .int .i64 1]) ∧ w = w' := by
  by_cases h1 : most < 2
  · clear h
    go_enter Try.func31, Try.ntmps31
    go_wp2
    go_ret2
    exact ⟨rfl, rfl⟩
  · have h2 : 64 < most := by omega
    clear h
    go_enter Try.func31, Try.ntmps31
    go_wp2
    go_ret2
    exact ⟨rfl, rfl⟩
theorem ktotal_any (b : Nat) (S : List Nat) (most tot : Int) (ls : List Lu) (w : World) (h : SkR w b S most ls tot) :
    Calls Try.prog 18 #[.pointer (some ⟨b, 0, none⟩)] w fun e w' => e = .returned (.int .u64 tot) ∧ w = w' := by
  obtain ⟨A, c, _, h⟩ := h
  have f1 := h.at'.three
  clear h
  go_enter Try.func18, Try.ntmps18
  go_wp2
  go_ret
  exact ⟨rfl, rfl⟩
theorem knil_total (w : World) : Calls Try.prog 18 #[.pointer none] w fun e w' => e = .returned (.int .u64 0) ∧ w = w' := by
  go_enter Try.func18, Try.ntmps18
  go_wp2
  go_ret
  exact ⟨rfl, rfl⟩
theorem kmost_any (b : Nat) (S : List Nat) (most tot : Int) (ls : List Lu) (w : World) (h : SkR w b S most ls tot) :
    Calls Try.prog 20 #[.pointer (some ⟨b, 0, none⟩)] w fun e w' => e = .returned (.int .i64 most) ∧ w = w' := by
  obtain ⟨A, c, _, h⟩ := h
  have f1 := h.at'.three
  clear h
  go_enter Try.func20, Try.ntmps20
  go_wp2
  go_ret
  exact ⟨rfl, rfl⟩
theorem knil_most (w : World) : Calls Try.prog 20 #[.pointer none] w fun e w' => e = .returned (.int .i64 0) ∧ w = w' := by
  go_enter Try.func20, Try.ntmps20
  go_wp2
  go_ret
  exact ⟨rfl, rfl⟩
theorem klumps_any (b : Nat) (S : List Nat) (most tot : Int) (ls : List Lu) (w : World) (h : SkR w b S most ls tot) (hl : ls.length ≤ 1048576) :
    Calls Try.prog 12 #[.pointer (some ⟨b, 0, none⟩)] w fun e w' => CloR ls w e w' := by
  obtain ⟨A, c, _, h⟩ := h
  have f1 := h.at'.three
  have HC := Lib.hid (clone_any 0 A c ls w h.own (by omega))
  clear h
  go_enter Try.func12, Try.ntmps12
  go_wp2_with fail
  refine HC.out.mono ?_
  rintro e w' ⟨A', c', rfl, ho, hb⟩
  have HR : Hid (CloR ls w (.returned (.slice A' ls.length c')) w') := ⟨A', c', rfl, ho, hb⟩
  clear ho hb
  go_wp2
  go_ret
  exact HR.out
theorem knil_lumps (w : World) : Calls Try.prog 12 #[.pointer none] w fun e w' => e = .returned (.slice none 0 0) ∧ w = w' := by
  go_enter Try.func12, Try.ntmps12
  go_wp2
  go_ret
  exact ⟨rfl, rfl⟩

/-! Where a lump stands: what is laid there. -/
section
variable {ls : List Lu} {q : Lu} {k : Nat}
theorem lget_eq (h : k < ls.length) : lget ls k = ls[k]'h := by unfold lget; rw [List.getD_eq_getElem?_getD, List.getElem?_eq_getElem h]; rfl
theorem ldrop_cons (h : k < ls.length) : ls.drop k = lget ls k :: ls.drop (k + 1) := by rw [List.drop_eq_getElem_cons h, lget_eq h]
theorem posl_lt (hp : PosL ls q k) : ls.filter (fun x => decide (lless x q)) = ls.take k := by
  conv => lhs; rw [← List.take_append_drop k ls]
  rw [List.filter_append, List.filter_eq_self.2, List.filter_eq_nil_iff.2, List.append_nil]
  · intro x hx
    obtain ⟨j, hj, rfl⟩ := List.getElem_of_mem hx
    rw [List.length_drop] at hj
    have := hp.over (k + j) (by omega) (by omega)
    rw [lget_eq (by omega)] at this
    rw [List.getElem_drop, decide_eq_true_eq]
    exact this
  · intro x hx
    obtain ⟨j, hj, rfl⟩ := List.getElem_of_mem hx
    rw [List.length_take] at hj
    have := hp.under j (by omega)
    rw [lget_eq (by omega)] at this
    rw [List.getElem_take, decide_eq_true_eq]
    exact this
theorem posl_found (hg : GdL ls) (hp : PosL ls q k) (hk : k < ls.length) (hs : lsame (lget ls k) q) : ls.filter (fun x => decide (lless q x)) = ls.drop (k + 1) ∧ sumI (fun x => decide (lsame x q)) ls = (lget ls k).1 := by
  have hd := ldrop_cons hk
  have h1 : ∀ x ∈ ls.take k, lless x q := fun x hx => by rw [← posl_lt hp] at hx; exact of_decide_eq_true (List.mem_filter.1 hx).2
  have h2 : ∀ x ∈ ls.drop (k + 1), lless q x := fun x hx => by
    have := hg.srt
    rw [← List.take_append_drop k ls, hd] at this
    have h2 := (List.pairwise_append.1 this).2.1
    rw [List.pairwise_cons] at h2
    exact same_lless (lsame_symm hs) (h2.1 x hx)
  have e : ls = ls.take k ++ lget ls k :: ls.drop (k + 1) := by rw [← hd, List.take_append_drop]
  have hz : ∀ l : List Lu, (∀ x ∈ l, ¬ lsame x q) → sumI (fun x => decide (lsame x q)) l = 0 := fun l hl => by
    unfold sumI
    rw [List.filter_eq_nil_iff.2 (fun x hx => by rw [decide_eq_true_eq]; exact hl x hx)]
    rfl
  constructor
  · conv => lhs; rw [e]
    rw [List.filter_append, List.filter_cons_of_neg (by rw [decide_eq_true_eq]; exact fun k => lless_not_same k (lsame_symm hs)), List.filter_eq_nil_iff.2 (fun x hx => by rw [decide_eq_true_eq]; exact lless_asymm (h1 x hx)), List.nil_append, List.filter_eq_self.2 (fun x hx => decide_eq_true (h2 x hx))]
  · conv => lhs; rw [e]
    rw [sumI_append, sumI_cons, if_pos (decide_eq_true hs), hz _ (fun x hx => lless_not_same (h1 x hx)), hz _ (fun x hx k => lless_not_same (h2 x hx) (lsame_symm k))]
    omega
theorem posl_none (hg : GdL ls) (hp : PosL ls q k) (hn : ¬ (k < ls.length ∧ lsame (lget ls k) q)) : ls.filter (fun x => decide (lless q x)) = ls.drop k ∧ sumI (fun x => decide (lsame x q)) ls = 0 := by
  have h1 : ∀ x ∈ ls.take k, lless x q := fun x hx => by rw [← posl_lt hp] at hx; exact of_decide_eq_true (List.mem_filter.1 hx).2
  have h2 : ∀ x ∈ ls.drop k, lless q x := fun x hx => by
    by_cases hk : k < ls.length
    · have hd := ldrop_cons hk
      have h0 := hp.over k (Nat.le_refl _) hk
      have h3 : lless q (lget ls k) := by
        rcases lless_tri (lget ls k) q with h | h | h
        · exact absurd h h0
        · exact absurd ⟨hk, h⟩ hn
        · exact h
      rw [hd] at hx
      rcases List.mem_cons.1 hx with rfl | hx
      · exact h3
      · have := hg.srt
        rw [← List.take_append_drop k ls, hd] at this
        have h2 := (List.pairwise_append.1 this).2.1
        rw [List.pairwise_cons] at h2
        exact lless_trans h3 (h2.1 x hx)
    · rw [List.drop_of_length_le (by omega)] at hx; simp at hx
  have hz : ∀ l : List Lu, (∀ x ∈ l, ¬ lsame x q) → sumI (fun x => decide (lsame x q)) l = 0 := fun l hl => by
    unfold sumI
    rw [List.filter_eq_nil_iff.2 (fun x hx => by rw [decide_eq_true_eq]; exact hl x hx)]
    rfl
  constructor
  · conv => lhs; rw [← List.take_append_drop k ls]
    rw [List.filter_append, List.filter_eq_nil_iff.2 (fun x hx => by rw [decide_eq_true_eq]; exact lless_asymm (h1 x hx)), List.nil_append, List.filter_eq_self.2 (fun x hx => decide_eq_true (h2 x hx))]
  · conv => lhs; rw [← List.take_append_drop k ls]
    rw [sumI_append, hz _ (fun x hx => lless_not_same (h1 x hx)), hz _ (fun x hx k => lless_not_same (h2 x hx) (lsame_symm k))]
    rfl
theorem laid_found (hg : GdL ls) (hp : PosL ls q k) (hk : k < ls.length) (hs : lsame (lget ls k) q) : laid ls q = ls.set k ((lget ls k).1 + q.1, (lget ls k).2.1, (lget ls k).2.2) := by
  obtain ⟨h1, h2⟩ := posl_found hg hp hk hs
  unfold laid
  rw [posl_lt hp, h1, h2, List.set_eq_take_append_cons_drop, if_pos hk, hs.1, hs.2, Int.add_comm]
  simp
theorem laid_none (hg : GdL ls) (hp : PosL ls q k) (hn : ¬ (k < ls.length ∧ lsame (lget ls k) q)) : laid ls q = ls.take k ++ q :: ls.drop k := by
  obtain ⟨h1, h2⟩ := posl_none hg hp hn
  unfold laid
  rw [posl_lt hp, h1, h2, Int.add_zero]
  simp
end
end Go.Proofs.Ytbmnebpjjghkpaa

