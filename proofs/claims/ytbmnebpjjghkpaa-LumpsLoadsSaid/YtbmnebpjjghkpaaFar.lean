/- A region that draws its order, walked once in the order of the text, where callees may make new memory above. -/
import Derived.Test.YtbmnebpjjghkpaaProg
import Derived.Test.YtbmnebpjjghkpaaBase
import Derived.BigQuiet
namespace Go.Proofs.Ytbmnebpjjghkpaa
open Go.RowKit

/-- A world that reads as w does below w's height. -/
structure Far (w : World) where
  far : World
  below : Below w.heap.size w far

instance Far.some (w : World) : Nonempty (Far w) := ⟨⟨w, Below.refl _ _⟩⟩

theorem Far.cell {w : World} (x : Far w) {b o : Nat} {v : Option Value} (hb : b < w.heap.size) (h : w.cell? ⟨b, o, none⟩ = v) : x.far.cell? ⟨b, o, none⟩ = v := cellB x.below hb h
theorem Far.at {w : World} (x : Far w) {b : Nat} {cs : Array Value} {T : TypeId} (h : At w b cs T) : At x.far b cs T := h.below x.below

theorem wp_region_far {P : Program} {id : Nat} {Q : Exit → Act → World → Prop} {a : Act} {w : World} {l : List Oper} (hm : P.follows .mixedOrders = true) (hB : Region.lexB .any l.toArray = true)
    (h : wpQuiet P l.toArray (fun w' => ∃ x : Far w, w' = x.far) (fun a' => ∀ w', (∃ x : Far w, w' = x.far) → Q .normal a' w') l a) : (Code.region id l.toArray true).wp P Q a w :=
  wp_region_quiet (C := fun w' => ∃ x : Far w, w' = x.far) hm hB ⟨⟨w.drewN 1, (Below.refl _ _).drewN 1⟩, rfl⟩ (by simpa using h)

theorem far_of {P : Program} {f : FuncId} {args : Array Value} {w : World} {x : Far w} {v : Value}
    (h : Calls P f args x.far fun e w' => e = .returned v ∧ Below x.far.heap.size x.far w') : Calls P f args x.far fun e w'' => e = .returned v ∧ ∃ y : Far w, w'' = y.far :=
  h.mono fun _ w' ⟨he, hB⟩ => ⟨he, ⟨w', keep1 x.below hB⟩, rfl⟩
theorem far_of_same {P : Program} {f : FuncId} {args : Array Value} {w : World} {x : Far w} {v : Value}
    (h : Calls P f args x.far fun e w' => e = .returned v ∧ w' = x.far) : Calls P f args x.far fun e w'' => e = .returned v ∧ ∃ y : Far w, w'' = y.far :=
  h.mono fun _ _ ⟨he, hB⟩ => ⟨he, x, hB⟩
end Go.Proofs.Ytbmnebpjjghkpaa

