/-
  No cell of these rows narrows 'for every input' (looked for: loops, veiled, ifaces, maps, wideKeys, modest, calm, conditions, laid).
  DERIVED. THE GIVEN ROWS OF THIS SEAT. 6 by the template 'for every input the law returns true; each argument reads behind the call as it read before'; 0 by the template 'total and deterministic' (their statements: YtbmnebpjjghkpaaTotals.lean).
  GIVEN WITH THE SEED: the statements are not yours to turn. If you find one false, say at which input.
  Laid BY PROGRAM, IN A SANDBOX (cutbox-rows.mjs): the forced cells as the released guide's own fill.sh prints them over the translation 6b6ab0f1cb42b5c7… (all of the seat's roots in one cut). By AI agents, Wed Nov 11 2026. No macro, syntax, notation, axiom, sorry.
-/
import Derived.Test.YtbmnebpjjghkpaaChecked
import GoSem.Claim
import GoSem.ClaimJoined
import GoSem.ClaimMapViews
import Derived.JoinedTies
import Derived.KernelRfl
namespace Go.Proofs.Ytbmnebpjjghkpaa
/- THE CELL 'sum', in the pinned program and in every row, IS THE sha256 OF THE DUMP (.gsa) THAT YtbmnebpjjghkpaaProg.lean LOADS. Nothing in Lean hashes anything: it is a label: what it is worth is what the hold of that sum in a sandbox is worth. -/
noncomputable def Try.pinned : Pinned := { name := "ytbmnebpjjghkpaa", sum := "6b6ab0f1cb42b5c718d4d1fe4acebbd5d9f8e387e2e31a5b3e190fa6746913da", checked := Try.checked }
namespace Rows
def none {H : Type} : Left H := { results := [], args := [] }

/-- 'ogivelaw22.LumpsLoads': WHATEVER THE INPUT: true; the input reads as it did. -/
def lumpsLoadsSpec : ChangeSpec := { name := "lumpsLoads", fn := fun _ => fun
  | [d1, d2, d3, d4] => { results := [.lit (.bool true)], args := [d1, d2, d3, d4] }
  | _ => none }
def lumpsLoadsRow : OpenClaim := { program := "ytbmnebpjjghkpaa", sum := "6b6ab0f1cb42b5c718d4d1fe4acebbd5d9f8e387e2e31a5b3e190fa6746913da", func := "ogive/ogivelaw22.LumpsLoads", spec := "lumpsLoads", inPlace := ["slices.overlaps[ogive/lumps.Lump]"], unfollowed := true, recurses := true, apart := false }
def LumpsLoadsSaid : Prop := lumpsLoadsRow.holds Try.pinned (OpenSpec.ofChange lumpsLoadsSpec)

/-- ITS FALSE NEIGHBOUR: 'it returns false'. Refute it at one input. -/
def lumpsLoadsWrong : ChangeSpec := { name := "lumpsLoads", fn := fun _ => fun
  | [d1, d2, d3, d4] => { results := [.lit (.bool false)], args := [d1, d2, d3, d4] }
  | _ => none }
def LumpsLoadsWrongFalsely : Prop := lumpsLoadsRow.holds Try.pinned (OpenSpec.ofChange lumpsLoadsWrong)

/-- 'ogivelaw22.LumpsFew': WHATEVER THE INPUT: true; the input reads as it did. -/
def lumpsFewSpec : ChangeSpec := { name := "lumpsFew", fn := fun _ => fun
  | [d1, d2, d3] => { results := [.lit (.bool true)], args := [d1, d2, d3] }
  | _ => none }
def lumpsFewRow : OpenClaim := { program := "ytbmnebpjjghkpaa", sum := "6b6ab0f1cb42b5c718d4d1fe4acebbd5d9f8e387e2e31a5b3e190fa6746913da", func := "ogive/ogivelaw22.LumpsFew", spec := "lumpsFew", inPlace := ["slices.overlaps[ogive/lumps.Lump]"], unfollowed := true, recurses := true, apart := false }
def LumpsFewSaid : Prop := lumpsFewRow.holds Try.pinned (OpenSpec.ofChange lumpsFewSpec)

/-- ITS FALSE NEIGHBOUR: 'it returns false'. Refute it at one input. -/
def lumpsFewWrong : ChangeSpec := { name := "lumpsFew", fn := fun _ => fun
  | [d1, d2, d3] => { results := [.lit (.bool false)], args := [d1, d2, d3] }
  | _ => none }
def LumpsFewWrongFalsely : Prop := lumpsFewRow.holds Try.pinned (OpenSpec.ofChange lumpsFewWrong)

/-- 'ogivelaw22.LumpsJoins': WHATEVER THE INPUT: true; the input reads as it did. -/
def lumpsJoinsSpec : ChangeSpec := { name := "lumpsJoins", fn := fun _ => fun
  | [d1, d2, d3, d4] => { results := [.lit (.bool true)], args := [d1, d2, d3, d4] }
  | _ => none }
def lumpsJoinsRow : OpenClaim := { program := "ytbmnebpjjghkpaa", sum := "6b6ab0f1cb42b5c718d4d1fe4acebbd5d9f8e387e2e31a5b3e190fa6746913da", func := "ogive/ogivelaw22.LumpsJoins", spec := "lumpsJoins", inPlace := ["slices.overlaps[ogive/lumps.Lump]"], unfollowed := true, recurses := true, apart := false }
def LumpsJoinsSaid : Prop := lumpsJoinsRow.holds Try.pinned (OpenSpec.ofChange lumpsJoinsSpec)

/-- ITS FALSE NEIGHBOUR: 'it returns false'. Refute it at one input. -/
def lumpsJoinsWrong : ChangeSpec := { name := "lumpsJoins", fn := fun _ => fun
  | [d1, d2, d3, d4] => { results := [.lit (.bool false)], args := [d1, d2, d3, d4] }
  | _ => none }
def LumpsJoinsWrongFalsely : Prop := lumpsJoinsRow.holds Try.pinned (OpenSpec.ofChange lumpsJoinsWrong)

/-- 'ogivelaw22.LumpsDoes': WHATEVER THE INPUT: true; the input reads as it did. -/
def lumpsDoesSpec : ChangeSpec := { name := "lumpsDoes", fn := fun _ => fun
  | [d1, d2, d3, d4] => { results := [.lit (.bool true)], args := [d1, d2, d3, d4] }
  | _ => none }
def lumpsDoesRow : OpenClaim := { program := "ytbmnebpjjghkpaa", sum := "6b6ab0f1cb42b5c718d4d1fe4acebbd5d9f8e387e2e31a5b3e190fa6746913da", func := "ogive/ogivelaw22.LumpsDoes", spec := "lumpsDoes", inPlace := ["slices.overlaps[ogive/lumps.Lump]", "math/bits.Add64"], unfollowed := true, recurses := true, named := ["math/bits.divideError", "math/bits.overflowError"], apart := false }
def LumpsDoesSaid : Prop := lumpsDoesRow.holds Try.pinned (OpenSpec.ofChange lumpsDoesSpec)

/-- ITS FALSE NEIGHBOUR: 'it returns false'. Refute it at one input. -/
def lumpsDoesWrong : ChangeSpec := { name := "lumpsDoes", fn := fun _ => fun
  | [d1, d2, d3, d4] => { results := [.lit (.bool false)], args := [d1, d2, d3, d4] }
  | _ => none }
def LumpsDoesWrongFalsely : Prop := lumpsDoesRow.holds Try.pinned (OpenSpec.ofChange lumpsDoesWrong)

/-- 'ogivelaw22.LumpsRanks': WHATEVER THE INPUT: true; the input reads as it did. -/
def lumpsRanksSpec : ChangeSpec := { name := "lumpsRanks", fn := fun _ => fun
  | [d1, d2, d3, d4, d5] => { results := [.lit (.bool true)], args := [d1, d2, d3, d4, d5] }
  | _ => none }
def lumpsRanksRow : OpenClaim := { program := "ytbmnebpjjghkpaa", sum := "6b6ab0f1cb42b5c718d4d1fe4acebbd5d9f8e387e2e31a5b3e190fa6746913da", func := "ogive/ogivelaw22.LumpsRanks", spec := "lumpsRanks", inPlace := ["slices.overlaps[ogive/lumps.Lump]", "math/bits.Add64"], unfollowed := true, recurses := true, named := ["math/bits.divideError", "math/bits.overflowError"], apart := false }
def LumpsRanksSaid : Prop := lumpsRanksRow.holds Try.pinned (OpenSpec.ofChange lumpsRanksSpec)

/-- ITS FALSE NEIGHBOUR: 'it returns false'. Refute it at one input. -/
def lumpsRanksWrong : ChangeSpec := { name := "lumpsRanks", fn := fun _ => fun
  | [d1, d2, d3, d4, d5] => { results := [.lit (.bool false)], args := [d1, d2, d3, d4, d5] }
  | _ => none }
def LumpsRanksWrongFalsely : Prop := lumpsRanksRow.holds Try.pinned (OpenSpec.ofChange lumpsRanksWrong)

/-- 'ogivelaw22.LumpsErrors': WHATEVER THE INPUT: true; the input reads as it did. -/
def lumpsErrorsSpec : ChangeSpec := { name := "lumpsErrors", fn := fun _ => fun
  | [d1, d2, d3, d4] => { results := [.lit (.bool true)], args := [d1, d2, d3, d4] }
  | _ => none }
def lumpsErrorsRow : OpenClaim := { program := "ytbmnebpjjghkpaa", sum := "6b6ab0f1cb42b5c718d4d1fe4acebbd5d9f8e387e2e31a5b3e190fa6746913da", func := "ogive/ogivelaw22.LumpsErrors", spec := "lumpsErrors", inPlace := ["slices.overlaps[ogive/lumps.Lump]", "math/bits.Add64"], unfollowed := true, recurses := true, named := ["math/bits.divideError", "math/bits.overflowError"], apart := false }
def LumpsErrorsSaid : Prop := lumpsErrorsRow.holds Try.pinned (OpenSpec.ofChange lumpsErrorsSpec)

/-- ITS FALSE NEIGHBOUR: 'it returns false'. Refute it at one input. -/
def lumpsErrorsWrong : ChangeSpec := { name := "lumpsErrors", fn := fun _ => fun
  | [d1, d2, d3, d4] => { results := [.lit (.bool false)], args := [d1, d2, d3, d4] }
  | _ => none }
def LumpsErrorsWrongFalsely : Prop := lumpsErrorsRow.holds Try.pinned (OpenSpec.ofChange lumpsErrorsWrong)

/- THE SECOND FORM. 'bulk': how many values and letters a reading holds, each counted each time it is reached (what is shared counts as often as it is met; a slice's spare places count too). A statement '..UptoSaid' is the law's where the arguments, and the package variables that the reading takes, are together of bulk at most 1048576: NARROWER than '..Said'. Prove '..Said' where nothing that the law and all that it calls make is longer than what came in: it says more and counts as full. Else prove '..UptoSaid'. A law counts once. -/
mutual
def uptoBulk {H : Type} : DataW H → Nat
  | .lit (.string bytes) => bytes.length + 1
  | .lit _ => 1
  | .nil => 1
  | .ptr d => uptoBulk d + 1
  | .slice elems spare => uptoBulkAll elems + uptoBulkAll spare + 1
  | .agg parts => uptoBulkAll parts + 1
  | .iface _ d => uptoBulk d + 1
  | .map entries => uptoBulkEntries entries + 1
  | .held _ => 1
def uptoBulkAll {H : Type} : List (DataW H) → Nat
  | [] => 0
  | d :: r => uptoBulk d + uptoBulkAll r
def uptoBulkEntries {H : Type} : List (Lit × DataW H) → Nat
  | [] => 0
  | x :: r => uptoBulkEntry x + uptoBulkEntries r
def uptoBulkEntry {H : Type} : Lit × DataW H → Nat
  | (.string bytes, d) => bytes.length + uptoBulk d + 1
  | (_, d) => uptoBulk d + 1
 end
def uptoSmall : (H : Type) → List (DataW H) → Bool := fun _ ds => decide (uptoBulkAll ds ≤ 1048576)
def OpenSpec.upto (s : _root_.Go.ChangeSpec) : _root_.Go.OpenSpec := { _root_.Go.OpenSpec.ofChange s with cond := some uptoSmall }

/-- 'ogivelaw22.LumpsLoads', WHERE WHAT IT READS IS OF BULK AT MOST 1048576: true; the input reads as it did. -/
def lumpsLoadsUptoRow : OpenClaim := { program := "ytbmnebpjjghkpaa", sum := "6b6ab0f1cb42b5c718d4d1fe4acebbd5d9f8e387e2e31a5b3e190fa6746913da", func := "ogive/ogivelaw22.LumpsLoads", spec := "lumpsLoads", inPlace := ["slices.overlaps[ogive/lumps.Lump]"], unfollowed := true, recurses := true, apart := false, narrowed := true }
def LumpsLoadsUptoSaid : Prop := lumpsLoadsUptoRow.holds Try.pinned (OpenSpec.upto lumpsLoadsSpec)

/-- 'ogivelaw22.LumpsFew', WHERE WHAT IT READS IS OF BULK AT MOST 1048576: true; the input reads as it did. -/
def lumpsFewUptoRow : OpenClaim := { program := "ytbmnebpjjghkpaa", sum := "6b6ab0f1cb42b5c718d4d1fe4acebbd5d9f8e387e2e31a5b3e190fa6746913da", func := "ogive/ogivelaw22.LumpsFew", spec := "lumpsFew", inPlace := ["slices.overlaps[ogive/lumps.Lump]"], unfollowed := true, recurses := true, apart := false, narrowed := true }
def LumpsFewUptoSaid : Prop := lumpsFewUptoRow.holds Try.pinned (OpenSpec.upto lumpsFewSpec)

/-- 'ogivelaw22.LumpsJoins', WHERE WHAT IT READS IS OF BULK AT MOST 1048576: true; the input reads as it did. -/
def lumpsJoinsUptoRow : OpenClaim := { program := "ytbmnebpjjghkpaa", sum := "6b6ab0f1cb42b5c718d4d1fe4acebbd5d9f8e387e2e31a5b3e190fa6746913da", func := "ogive/ogivelaw22.LumpsJoins", spec := "lumpsJoins", inPlace := ["slices.overlaps[ogive/lumps.Lump]"], unfollowed := true, recurses := true, apart := false, narrowed := true }
def LumpsJoinsUptoSaid : Prop := lumpsJoinsUptoRow.holds Try.pinned (OpenSpec.upto lumpsJoinsSpec)

/-- 'ogivelaw22.LumpsDoes', WHERE WHAT IT READS IS OF BULK AT MOST 1048576: true; the input reads as it did. -/
def lumpsDoesUptoRow : OpenClaim := { program := "ytbmnebpjjghkpaa", sum := "6b6ab0f1cb42b5c718d4d1fe4acebbd5d9f8e387e2e31a5b3e190fa6746913da", func := "ogive/ogivelaw22.LumpsDoes", spec := "lumpsDoes", inPlace := ["slices.overlaps[ogive/lumps.Lump]", "math/bits.Add64"], unfollowed := true, recurses := true, named := ["math/bits.divideError", "math/bits.overflowError"], apart := false, narrowed := true }
def LumpsDoesUptoSaid : Prop := lumpsDoesUptoRow.holds Try.pinned (OpenSpec.upto lumpsDoesSpec)

/-- 'ogivelaw22.LumpsRanks', WHERE WHAT IT READS IS OF BULK AT MOST 1048576: true; the input reads as it did. -/
def lumpsRanksUptoRow : OpenClaim := { program := "ytbmnebpjjghkpaa", sum := "6b6ab0f1cb42b5c718d4d1fe4acebbd5d9f8e387e2e31a5b3e190fa6746913da", func := "ogive/ogivelaw22.LumpsRanks", spec := "lumpsRanks", inPlace := ["slices.overlaps[ogive/lumps.Lump]", "math/bits.Add64"], unfollowed := true, recurses := true, named := ["math/bits.divideError", "math/bits.overflowError"], apart := false, narrowed := true }
def LumpsRanksUptoSaid : Prop := lumpsRanksUptoRow.holds Try.pinned (OpenSpec.upto lumpsRanksSpec)

/-- 'ogivelaw22.LumpsErrors', WHERE WHAT IT READS IS OF BULK AT MOST 1048576: true; the input reads as it did. -/
def lumpsErrorsUptoRow : OpenClaim := { program := "ytbmnebpjjghkpaa", sum := "6b6ab0f1cb42b5c718d4d1fe4acebbd5d9f8e387e2e31a5b3e190fa6746913da", func := "ogive/ogivelaw22.LumpsErrors", spec := "lumpsErrors", inPlace := ["slices.overlaps[ogive/lumps.Lump]", "math/bits.Add64"], unfollowed := true, recurses := true, named := ["math/bits.divideError", "math/bits.overflowError"], apart := false, narrowed := true }
def LumpsErrorsUptoSaid : Prop := lumpsErrorsUptoRow.holds Try.pinned (OpenSpec.upto lumpsErrorsSpec)

end Rows
end Go.Proofs.Ytbmnebpjjghkpaa
