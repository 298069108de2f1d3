/-
  No cell of these rows narrows 'for every input' (looked for: loops, veiled, ifaces, maps, wideKeys, modest, calm, conditions, laid).
  DERIVED. THE GIVEN ROWS OF THIS SEAT. 5 by the template 'for every input the law returns true; each argument reads behind the call as it read before'; 0 by the template 'total and deterministic' (their statements: YtogidoohgfmbfaaTotals.lean).
  GIVEN WITH THE SEED: the statements are not yours to turn. If you find one false, say at which input.
  Laid BY PROGRAM, IN A SANDBOX (cutbox-rows.mjs): the forced cells as the released guide's own fill.sh prints them over the translation 6a21852cd3a1fb3f… (all of the seat's roots in one cut). By AI agents, Wed Nov 11 2026. No macro, syntax, notation, axiom, sorry.
-/
import Derived.Test.YtogidoohgfmbfaaChecked
import GoSem.Claim
import GoSem.ClaimJoined
import GoSem.ClaimMapViews
import Derived.JoinedTies
import Derived.KernelRfl
namespace Go.Proofs.Ytogidoohgfmbfaa
/- THE CELL 'sum', in the pinned program and in every row, IS THE sha256 OF THE DUMP (.gsa) THAT YtogidoohgfmbfaaProg.lean LOADS. Nothing in Lean hashes anything: it is a label: what it is worth is what the hold of that sum in a sandbox is worth. -/
noncomputable def Try.pinned : Pinned := { name := "ytogidoohgfmbfaa", sum := "6a21852cd3a1fb3f33823f5609b0d158114fdaef7cf64936b88645d49fa8479c", checked := Try.checked }
namespace Rows
def none {H : Type} : Left H := { results := [], args := [] }

/-- 'ogivelaw07.CrateTurned': WHATEVER THE INPUT: true; the input reads as it did. -/
def crateTurnedSpec : ChangeSpec := { name := "crateTurned", fn := fun _ => fun
  | [d1, d2] => { results := [.lit (.bool true)], args := [d1, d2] }
  | _ => none }
def crateTurnedRow : OpenClaim := { program := "ytogidoohgfmbfaa", sum := "6a21852cd3a1fb3f33823f5609b0d158114fdaef7cf64936b88645d49fa8479c", func := "ogive/ogivelaw07.CrateTurned", spec := "crateTurned", unfollowed := true, recurses := true, apart := false }
def CrateTurnedSaid : Prop := crateTurnedRow.holds Try.pinned (OpenSpec.ofChange crateTurnedSpec)

/-- ITS FALSE NEIGHBOUR: 'it returns false'. Refute it at one input. -/
def crateTurnedWrong : ChangeSpec := { name := "crateTurned", fn := fun _ => fun
  | [d1, d2] => { results := [.lit (.bool false)], args := [d1, d2] }
  | _ => none }
def CrateTurnedWrongFalsely : Prop := crateTurnedRow.holds Try.pinned (OpenSpec.ofChange crateTurnedWrong)

/-- 'ogivelaw07.CrateStops': WHATEVER THE INPUT: true; the input reads as it did. -/
def crateStopsSpec : ChangeSpec := { name := "crateStops", fn := fun _ => fun
  | [d1, d2] => { results := [.lit (.bool true)], args := [d1, d2] }
  | _ => none }
def crateStopsRow : OpenClaim := { program := "ytogidoohgfmbfaa", sum := "6a21852cd3a1fb3f33823f5609b0d158114fdaef7cf64936b88645d49fa8479c", func := "ogive/ogivelaw07.CrateStops", spec := "crateStops", unfollowed := true, recurses := true, apart := false }
def CrateStopsSaid : Prop := crateStopsRow.holds Try.pinned (OpenSpec.ofChange crateStopsSpec)

/-- ITS FALSE NEIGHBOUR: 'it returns false'. Refute it at one input. -/
def crateStopsWrong : ChangeSpec := { name := "crateStops", fn := fun _ => fun
  | [d1, d2] => { results := [.lit (.bool false)], args := [d1, d2] }
  | _ => none }
def CrateStopsWrongFalsely : Prop := crateStopsRow.holds Try.pinned (OpenSpec.ofChange crateStopsWrong)

/-- 'ogivelaw07.CrateFinds': WHATEVER THE INPUT: true; the input reads as it did. -/
def crateFindsSpec : ChangeSpec := { name := "crateFinds", fn := fun _ => fun
  | [d1, d2, d3] => { results := [.lit (.bool true)], args := [d1, d2, d3] }
  | _ => none }
def crateFindsRow : OpenClaim := { program := "ytogidoohgfmbfaa", sum := "6a21852cd3a1fb3f33823f5609b0d158114fdaef7cf64936b88645d49fa8479c", func := "ogive/ogivelaw07.CrateFinds", spec := "crateFinds", unfollowed := true, recurses := true, apart := false }
def CrateFindsSaid : Prop := crateFindsRow.holds Try.pinned (OpenSpec.ofChange crateFindsSpec)

/-- ITS FALSE NEIGHBOUR: 'it returns false'. Refute it at one input. -/
def crateFindsWrong : ChangeSpec := { name := "crateFinds", fn := fun _ => fun
  | [d1, d2, d3] => { results := [.lit (.bool false)], args := [d1, d2, d3] }
  | _ => none }
def CrateFindsWrongFalsely : Prop := crateFindsRow.holds Try.pinned (OpenSpec.ofChange crateFindsWrong)

/-- 'ogivelaw07.CrateAdds': WHATEVER THE INPUT: true; the input reads as it did. -/
def crateAddsSpec : ChangeSpec := { name := "crateAdds", fn := fun _ => fun
  | [d1, d2] => { results := [.lit (.bool true)], args := [d1, d2] }
  | _ => none }
def crateAddsRow : OpenClaim := { program := "ytogidoohgfmbfaa", sum := "6a21852cd3a1fb3f33823f5609b0d158114fdaef7cf64936b88645d49fa8479c", func := "ogive/ogivelaw07.CrateAdds", spec := "crateAdds", unfollowed := true, recurses := true, apart := false }
def CrateAddsSaid : Prop := crateAddsRow.holds Try.pinned (OpenSpec.ofChange crateAddsSpec)

/-- ITS FALSE NEIGHBOUR: 'it returns false'. Refute it at one input. -/
def crateAddsWrong : ChangeSpec := { name := "crateAdds", fn := fun _ => fun
  | [d1, d2] => { results := [.lit (.bool false)], args := [d1, d2] }
  | _ => none }
def CrateAddsWrongFalsely : Prop := crateAddsRow.holds Try.pinned (OpenSpec.ofChange crateAddsWrong)

/-- 'ogivelaw07.CrateEnds': WHATEVER THE INPUT: true; the input reads as it did. -/
def crateEndsSpec : ChangeSpec := { name := "crateEnds", fn := fun _ => fun
  | [d1, d2, d3] => { results := [.lit (.bool true)], args := [d1, d2, d3] }
  | _ => none }
def crateEndsRow : OpenClaim := { program := "ytogidoohgfmbfaa", sum := "6a21852cd3a1fb3f33823f5609b0d158114fdaef7cf64936b88645d49fa8479c", func := "ogive/ogivelaw07.CrateEnds", spec := "crateEnds", unfollowed := true, recurses := true, apart := false }
def CrateEndsSaid : Prop := crateEndsRow.holds Try.pinned (OpenSpec.ofChange crateEndsSpec)

/-- ITS FALSE NEIGHBOUR: 'it returns false'. Refute it at one input. -/
def crateEndsWrong : ChangeSpec := { name := "crateEnds", fn := fun _ => fun
  | [d1, d2, d3] => { results := [.lit (.bool false)], args := [d1, d2, d3] }
  | _ => none }
def CrateEndsWrongFalsely : Prop := crateEndsRow.holds Try.pinned (OpenSpec.ofChange crateEndsWrong)

/- THE SECOND FORM. 'bulk': how many values and letters a reading holds, each counted each time it is reached (what is shared counts as often as it is met; a slice's spare places count too). A statement '..UptoSaid' is the law's where the arguments, and the package variables that the reading takes, are together of bulk at most 1048576: NARROWER than '..Said'. Prove '..Said' where nothing that the law and all that it calls make is longer than what came in: it says more and counts as full. Else prove '..UptoSaid'. A law counts once. -/
mutual
def uptoBulk {H : Type} : DataW H → Nat
  | .lit (.string bytes) => bytes.length + 1
  | .lit _ => 1
  | .nil => 1
  | .ptr d => uptoBulk d + 1
  | .slice elems spare => uptoBulkAll elems + uptoBulkAll spare + 1
  | .agg parts => uptoBulkAll parts + 1
  | .iface _ d => uptoBulk d + 1
  | .map entries => uptoBulkEntries entries + 1
  | .held _ => 1
def uptoBulkAll {H : Type} : List (DataW H) → Nat
  | [] => 0
  | d :: r => uptoBulk d + uptoBulkAll r
def uptoBulkEntries {H : Type} : List (Lit × DataW H) → Nat
  | [] => 0
  | x :: r => uptoBulkEntry x + uptoBulkEntries r
def uptoBulkEntry {H : Type} : Lit × DataW H → Nat
  | (.string bytes, d) => bytes.length + uptoBulk d + 1
  | (_, d) => uptoBulk d + 1
 end
def uptoSmall : (H : Type) → List (DataW H) → Bool := fun _ ds => decide (uptoBulkAll ds ≤ 1048576)
def OpenSpec.upto (s : _root_.Go.ChangeSpec) : _root_.Go.OpenSpec := { _root_.Go.OpenSpec.ofChange s with cond := some uptoSmall }

/-- 'ogivelaw07.CrateTurned', WHERE WHAT IT READS IS OF BULK AT MOST 1048576: true; the input reads as it did. -/
def crateTurnedUptoRow : OpenClaim := { program := "ytogidoohgfmbfaa", sum := "6a21852cd3a1fb3f33823f5609b0d158114fdaef7cf64936b88645d49fa8479c", func := "ogive/ogivelaw07.CrateTurned", spec := "crateTurned", unfollowed := true, recurses := true, apart := false, narrowed := true }
def CrateTurnedUptoSaid : Prop := crateTurnedUptoRow.holds Try.pinned (OpenSpec.upto crateTurnedSpec)

/-- 'ogivelaw07.CrateStops', WHERE WHAT IT READS IS OF BULK AT MOST 1048576: true; the input reads as it did. -/
def crateStopsUptoRow : OpenClaim := { program := "ytogidoohgfmbfaa", sum := "6a21852cd3a1fb3f33823f5609b0d158114fdaef7cf64936b88645d49fa8479c", func := "ogive/ogivelaw07.CrateStops", spec := "crateStops", unfollowed := true, recurses := true, apart := false, narrowed := true }
def CrateStopsUptoSaid : Prop := crateStopsUptoRow.holds Try.pinned (OpenSpec.upto crateStopsSpec)

/-- 'ogivelaw07.CrateFinds', WHERE WHAT IT READS IS OF BULK AT MOST 1048576: true; the input reads as it did. -/
def crateFindsUptoRow : OpenClaim := { program := "ytogidoohgfmbfaa", sum := "6a21852cd3a1fb3f33823f5609b0d158114fdaef7cf64936b88645d49fa8479c", func := "ogive/ogivelaw07.CrateFinds", spec := "crateFinds", unfollowed := true, recurses := true, apart := false, narrowed := true }
def CrateFindsUptoSaid : Prop := crateFindsUptoRow.holds Try.pinned (OpenSpec.upto crateFindsSpec)

/-- 'ogivelaw07.CrateAdds', WHERE WHAT IT READS IS OF BULK AT MOST 1048576: true; the input reads as it did. -/
def crateAddsUptoRow : OpenClaim := { program := "ytogidoohgfmbfaa", sum := "6a21852cd3a1fb3f33823f5609b0d158114fdaef7cf64936b88645d49fa8479c", func := "ogive/ogivelaw07.CrateAdds", spec := "crateAdds", unfollowed := true, recurses := true, apart := false, narrowed := true }
def CrateAddsUptoSaid : Prop := crateAddsUptoRow.holds Try.pinned (OpenSpec.upto crateAddsSpec)

/-- 'ogivelaw07.CrateEnds', WHERE WHAT IT READS IS OF BULK AT MOST 1048576: true; the input reads as it did. -/
def crateEndsUptoRow : OpenClaim := { program := "ytogidoohgfmbfaa", sum := "6a21852cd3a1fb3f33823f5609b0d158114fdaef7cf64936b88645d49fa8479c", func := "ogive/ogivelaw07.CrateEnds", spec := "crateEnds", unfollowed := true, recurses := true, apart := false, narrowed := true }
def CrateEndsUptoSaid : Prop := crateEndsUptoRow.holds Try.pinned (OpenSpec.upto crateEndsSpec)

end Rows
end Go.Proofs.Ytogidoohgfmbfaa
