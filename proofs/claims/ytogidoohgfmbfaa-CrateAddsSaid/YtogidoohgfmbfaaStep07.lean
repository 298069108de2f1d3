/- One addition, of a crate and of the document's crate, in one word each; two things side by side. -/
import Derived.Test.YtogidoohgfmbfaaProg
import Derived.Test.YtogidoohgfmbfaaFind
namespace Go.Proofs.Ytogidoohgfmbfaa
open Go.RowKit

instance (ps : List (Int × Int)) (q c : Int) : Decidable (rowRoom ps q c) := by unfold rowRoom; infer_instance
def rowStep (ps : List (Int × Int)) (q c : Int) : List (Int × Int) := if 0 < c ∧ rowRoom ps q c then rowAdd ps q c else ps
def rowCode (ps : List (Int × Int)) (q c : Int) : Int := if c = 0 then 1 else if rowRoom ps q c then 0 else 6
/-- The row behind these additions. -/
def rowsOf (l : List (Int × Int)) : List (Int × Int) := l.foldl (fun ps x => rowStep ps x.1 x.2) []
theorem rowsOf_nil : rowsOf [] = [] := rfl
theorem rowsOf_take (l : List (Int × Int)) (k : Nat) (hk : k < l.length) : rowsOf (l.take (k + 1)) = rowStep (rowsOf (l.take k)) (l[k]'hk).1 (l[k]'hk).2 := by
  unfold rowsOf
  rw [List.take_succ_eq_append_getElem hk, List.foldl_append]
  rfl

theorem cstep (w : World) {b : Nat} {S : List Nat} {ps : List (Int × Int)} (q c : Int) (h : Crate w b S ps) (hc0 : 0 ≤ c) (hc1 : c < 18446744073709551616) (hq0 : -9223372036854775808 ≤ q) (hq1 : q ≤ 9223372036854775807) :
    Calls Try.prog 10 #[.pointer (some ⟨b, 0, none⟩), .int .i64 q, .int .u64 c] w fun e w' =>
      e = .returned (.int .i64 (rowCode ps q c)) ∧ ∃ S', GrownS S S' w.heap.size ∧ Crate w' b S' (rowStep ps q c) ∧ Frame S w w' := by
  by_cases h0 : c = 0
  · subst h0
    refine (cadd_zero w b q).mono ?_
    rintro e w' ⟨rfl, rfl⟩
    exact ⟨by rw [rowCode, if_pos rfl], S, GrownS.refl _ _, by rw [rowStep, if_neg (by omega)]; exact h, Frame.refl _ _⟩
  · refine (cadd w q c h (by omega) hc1 hq0 hq1).mono ?_
    rintro e w' (⟨hr, rfl, hb⟩ | ⟨hr, rfl, S', hg, hC, hF⟩)
    · exact ⟨by rw [rowCode, if_neg h0, if_neg hr], S, GrownS.refl _ _, by rw [rowStep, if_neg (fun h => hr h.2)]; exact h.below hb, Frame.of_below hb⟩
    · exact ⟨by rw [rowCode, if_neg h0, if_pos hr], S', hg, by rw [rowStep, if_pos ⟨by omega, hr⟩]; exact hC, hF⟩

theorem dstep (w : World) {m : Nat} {S : List Nat} {ps : List (Int × Int)} (q c : Int) (h : Doc w m S ps) (hok : okP ps) (hg : Gd ps) (hlen : ps.length ≤ 100000) (hs : sumP ps ≤ 9223372036854775807)
    (hc0 : 0 ≤ c) (hc1 : c < 18446744073709551616) (hq0 : -9223372036854775808 ≤ q) (hq1 : q ≤ 9223372036854775807) :
    Calls Try.prog 15 #[.pointer (some ⟨m, 0, none⟩), .int .i64 q, .int .u64 c] w fun e w' =>
      e = .returned (.int .i64 (rowCode ps q c)) ∧ ∃ S', GrownS S S' w.heap.size ∧ Doc w' m S' (rowStep ps q c) ∧ Frame S w w' := by
  by_cases h0 : c = 0
  · subst h0
    refine (dadd_zero w m q).mono ?_
    rintro e w' ⟨rfl, rfl⟩
    exact ⟨by rw [rowCode, if_pos rfl], S, GrownS.refl _ _, by rw [rowStep, if_neg (by omega)]; exact h, Frame.refl _ _⟩
  · refine (dadd w q c h hok hg hlen hs (by omega) hc1 hq0 hq1).mono ?_
    rintro e w' (⟨hr, rfl, hb⟩ | ⟨hr, rfl, S', hg, hC, hF⟩)
    · exact ⟨by rw [rowCode, if_neg h0, if_neg hr], S, GrownS.refl _ _, by rw [rowStep, if_neg (fun h => hr h.2)]; exact h.below hb, Frame.of_below hb⟩
    · exact ⟨by rw [rowCode, if_neg h0, if_pos hr], S', hg, by rw [rowStep, if_pos ⟨by omega, hr⟩]; exact hC, hF⟩

/-- Two things that own blocks apart from one another, all laid since the world w. -/
structure Two (B : Nat) (w wr : World) (S T : List Nat) (X Y : Prop) : Prop where
  x : X
  y : Y
  ws : Within S B wr.heap.size
  wt : Within T B wr.heap.size
  ap : Apart S T
  below : Below B w wr
  size : B ≤ wr.heap.size
theorem Two.stepX {B : Nat} {w wr w' : World} {S S' T : List Nat} {X X' Y Y' : Prop} (h : Two B w wr S T X Y) (hg : GrownS S S' wr.heap.size) (hX : X') (hlt : ∀ k ∈ S', k < w'.heap.size) (hF : Frame S wr w') (hY : Y') : Two B w w' S' T X' Y' :=
  ⟨hX, hY, h.ws.grown hg h.size hlt, h.wt.mono hF.size, h.ap.grown hg h.wt, hF.below' h.below h.size h.ws, Nat.le_trans h.size hF.size⟩
theorem Two.stepY {B : Nat} {w wr w' : World} {S T T' : List Nat} {X X' Y Y' : Prop} (h : Two B w wr S T X Y) (hg : GrownS T T' wr.heap.size) (hY : Y') (hlt : ∀ k ∈ T', k < w'.heap.size) (hF : Frame T wr w') (hX : X') : Two B w w' S T' X' Y' :=
  ⟨hX, hY, h.ws.mono hF.size, h.wt.grown hg h.size hlt, (h.ap.symm.grown hg h.ws).symm, hF.below' h.below h.size h.wt, Nat.le_trans h.size hF.size⟩
theorem Two.belowW {B : Nat} {w wr w' : World} {S T : List Nat} {X X' Y Y' : Prop} (h : Two B w wr S T X Y) (hb : Below wr.heap.size wr w') (hX : X → X') (hY : Y → Y') : Two B w w' S T X' Y' :=
  ⟨hX h.x, hY h.y, h.ws.mono hb.size, h.wt.mono hb.size, h.ap, h.below.trans (hb.mono h.size), Nat.le_trans h.size hb.size⟩

theorem Two.fin {B : Nat} {w wr w' : World} {S T : List Nat} {X Y : Prop} (h : Two B w wr S T X Y) (hb : Below wr.heap.size wr w') : Below B w w' := h.below.trans (hb.mono h.size)
end Go.Proofs.Ytogidoohgfmbfaa

