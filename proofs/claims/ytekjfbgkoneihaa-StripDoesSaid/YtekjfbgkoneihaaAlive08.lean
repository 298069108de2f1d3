/- What the document tells of strips; a script's calls. -/
import Derived.Test.YtekjfbgkoneihaaProg
import Derived.Test.YtekjfbgkoneihaaRef08c
namespace Go.Proofs.Ytekjfbgkoneihaa
open Go.RowKit

theorem stCode_0 {most : Int} {ps : List (Int × Int)} {q cc : Int} (h : 0 < cc) (hr : stRoom most ps q cc) : stCode most ps q cc = 0 := by unfold stCode; rw [if_pos h, if_pos hr]
theorem stCode_6 {most : Int} {ps : List (Int × Int)} {q cc : Int} (h : 0 < cc) (hr : ¬ stRoom most ps q cc) : stCode most ps q cc = 6 := by unfold stCode; rw [if_pos h, if_neg hr]
theorem stStep_0 {most : Int} {ps : List (Int × Int)} {q cc : Int} (h : 0 < cc) (hr : stRoom most ps q cc) : stStep most ps q cc = rowAdd ps q cc := by unfold stStep; rw [if_pos ⟨h, hr⟩]
theorem stStep_6 {most : Int} {ps : List (Int × Int)} {q cc : Int} (hr : ¬ stRoom most ps q cc) : stStep most ps q cc = ps := by unfold stStep; rw [if_neg (fun h => hr h.2)]

theorem room_52 : stRoom 1 [] 5 2 := ⟨by decide, by decide⟩
theorem room_31 : ¬ stRoom 1 [(5, 2)] 3 1 := fun h => absurd h.2 (by decide)

theorem alive_any (w : World) : Calls Try.prog 8 #[] w fun e w' => e = .returned (.bool true) ∧ Below w.heap.size w w' := by
  go_enter Try.func8, Try.ntmps8
  go_wp2_with fail
  refine (snew_any 1 w (by omega) (by omega)).mono ?_
  rintro e w1 ⟨⟨b, rfl, rfl, hC⟩, hb⟩
  have hz1 := hb.size
  have hW1 : Within [w.heap.size] w.heap.size w1.heap.size := fun k hk => ⟨by simp at hk; omega, hC.lt k hk⟩
  go_wp2_with fail
  refine (sadd_any _ _ _ _ 5 2 w1 hC (by omega) (by omega) (by omega)).mono ?_
  rintro e w2 ⟨rfl, S2, hg2, hC2, hF2⟩
  rw [stCode_0 (by omega) room_52]
  rw [stStep_0 (by omega) room_52, show rowAdd [] 5 2 = [(5, 2)] by decide] at hC2
  have hb2 : Below w.heap.size w w2 := hF2.below' hb hz1 hW1
  have hW2 := (hW1.grown hg2 hz1 hC2.lt)
  clear hF2 hg2 hW1
  go_wp2_with fail
  refine (sadd_any _ _ _ _ 3 1 w2 hC2 (by omega) (by omega) (by omega)).mono ?_
  rintro e w3 ⟨rfl, S3, hg3, hC3, hF3⟩
  rw [stCode_6 (by omega) room_31]
  rw [stStep_6 room_31] at hC3
  have hb3 : Below w.heap.size w w3 := hF3.below' hb2 hb2.size hW2
  clear hF3 hg3
  go_wp2_with fail
  refine (sat_any _ _ _ _ 5 w3 hC3).mono ?_
  rintro e w4 ⟨rfl, hb4⟩
  rw [show cnt [(5, 2)] 5 = 2 by decide]
  go_wp2
  go_ret
  exact ⟨rfl, keep1 hb3 hb4⟩

/-- A row of calls. -/
def RdC (w : World) (A : Option Addr) (l : List (Int × Int × Int)) : Prop := Rd w A (l.flatMap fun x => [.int .i64 x.1, .int .i64 x.2.1, .int .u64 x.2.2])
def okC (l : List (Int × Int × Int)) : Prop := ∀ x ∈ l, (-9223372036854775808 ≤ x.1 ∧ x.1 ≤ 9223372036854775807) ∧ (-9223372036854775808 ≤ x.2.1 ∧ x.2.1 ≤ 9223372036854775807) ∧ (0 ≤ x.2.2 ∧ x.2.2 < 18446744073709551616)
theorem okC.at {l : List (Int × Int × Int)} (h : okC l) (j : Nat) (hj : j < l.length) : (-9223372036854775808 ≤ (l[j]'hj).1 ∧ (l[j]'hj).1 ≤ 9223372036854775807) ∧ (-9223372036854775808 ≤ (l[j]'hj).2.1 ∧ (l[j]'hj).2.1 ≤ 9223372036854775807) ∧ (0 ≤ (l[j]'hj).2.2 ∧ (l[j]'hj).2.2 < 18446744073709551616) := h _ (List.getElem_mem hj)
theorem RdC.below {w w' : World} {A : Option Addr} {l : List (Int × Int × Int)} (h : RdC w A l) (hb : Below w.heap.size w w') : RdC w' A l := Rd.below h hb
theorem RdC.at {w : World} {A : Option Addr} {l : List (Int × Int × Int)} (h : RdC w A l) (j : Nat) (hj : j < l.length) :
    ∃ g o, A = some ⟨g, o, none⟩ ∧ g < w.heap.size ∧ w.cell? ⟨g, o + j * 3, none⟩ = some (.int .i64 (l[j]'hj).1) ∧ w.cell? ⟨g, o + j * 3 + 1, none⟩ = some (.int .i64 (l[j]'hj).2.1) ∧ w.cell? ⟨g, o + j * 3 + 2, none⟩ = some (.int .u64 (l[j]'hj).2.2) := by
  obtain ⟨q0, q1, q2⟩ := flat3 (f := fun x : Int × Int × Int => Value.int .i64 x.1) (g := fun x => Value.int .i64 x.2.1) (k := fun x => Value.int .u64 x.2.2) l j hj
  obtain ⟨g, o, rfl, hg, h0⟩ := h _ _ q0
  obtain ⟨g', o', e, _, h1⟩ := h _ _ q1
  simp only [Option.some.injEq, Addr.mk.injEq, and_true] at e
  obtain ⟨rfl, rfl⟩ := e
  obtain ⟨g', o', e, _, h2⟩ := h _ _ q2
  simp only [Option.some.injEq, Addr.mk.injEq, and_true] at e
  obtain ⟨rfl, rfl⟩ := e
  exact ⟨g, o, rfl, hg, h0, by rw [Nat.add_assoc]; exact h1, by rw [Nat.add_assoc]; exact h2⟩

/-- The row behind these calls' additions. -/
def rowsS (most : Int) (l : List (Int × Int × Int)) : List (Int × Int) := l.foldl (fun ps x => stStep most ps x.2.1 x.2.2) []
theorem rowsS_take (most : Int) (l : List (Int × Int × Int)) (k : Nat) (hk : k < l.length) : rowsS most (l.take (k + 1)) = stStep most (rowsS most (l.take k)) (l[k]'hk).2.1 (l[k]'hk).2.2 := by
  unfold rowsS
  rw [List.take_succ_eq_append_getElem hk, List.foldl_append]
  rfl
end Go.Proofs.Ytekjfbgkoneihaa

