/- What is played: empty bins, alive. -/
import Derived.Test.YtondkkhagbcadaaGreatProg
import Derived.Test.YtondkkhagbcadaaGreatDoc13
import Derived.Test.YtondkkhagbcadaaGreatLoops
namespace Go.Proofs.YtondkkhagbcadaaGreat
open Go.RowKit

theorem pat_tab {n0 : Nat} {W : World} {b u v : Nat} {L : List Nat} (ht : TabOk u v L) (h : TabN n0 W b u v L (L.map (repN u v))) : ∃ PB, PAt W false b (partT L) (repT u v L) PB ∧ ∀ j ∈ PB, n0 ≤ j := by
  obtain ⟨hb, A, c, A2, c2, h1, h2, h3, o1, o2⟩ := h
  rw [List.length_map] at h1
  refine ⟨b :: (blk A ++ blk A2), ⟨u, v, L, ht, rfl, rfl, A, c, A2, c2, h1, h2, h3, rfl⟩, fun j hj => ?_⟩
  simp only [List.mem_cons, List.mem_append] at hj
  rcases hj with rfl | hj | hj
  · exact hb
  · cases A with
    | none => simp [blk] at hj
    | some g => simp only [blk, List.mem_singleton] at hj; subst hj; exact o1 g rfl
  · cases A2 with
    | none => simp [blk] at hj
    | some g => simp only [blk, List.mem_singleton] at hj; subst hj; exact o2 g rfl
theorem bn_within {n0 : Nat} {w2 w3 : World} {b : Nat} {PB S : List Nat} {k s : Bool} {part : Nat → Int} {rep : Int → Int} {most : Int} (hz : n0 ≤ w2.heap.size) (hP : ∀ j ∈ PB, n0 ≤ j) (hW : Within S w2.heap.size w3.heap.size) (h : Bn w3 b (PB ++ S) k part rep s most [] [] 0 0 0) :
    Within (PB ++ S) n0 w3.heap.size := fun j hj => ⟨by
  rcases List.mem_append.1 hj with h1 | h1
  · exact hP j h1
  · exact Nat.le_trans hz (hW j h1).1, h.lt j hj⟩
theorem kinB {B : Nat} {w wr w' : World} {S : List Nat} {b : Nat} {k s : Bool} {part : Nat → Int} {rep : Int → Int} {most : Int} {l l' : List (Int × Int)} (h : Two B w wr S [] (BnV wr b S k part rep s most l) True) (hp : BpvR b S k part rep s most l' wr w') : ∃ S', Two B w w' S' [] (BnV w' b S' k part rep s most l') True := by
  obtain ⟨S', hg, hX, hF⟩ := hp
  exact ⟨S', h.stepX hg hX hX.lt hF trivial⟩
theorem two_new {n0 : Nat} {w w3 : World} {S : List Nat} {X : Prop} (hW : Within S n0 w3.heap.size) (hX : X) (hB : Below n0 w w3) (hz : n0 ≤ w3.heap.size) : Two n0 w w3 S [] X True :=
  ⟨hX, trivial, hW, fun k hk => by simp at hk, fun k _ => by simp, hB, hz⟩
end Go.Proofs.YtondkkhagbcadaaGreat
