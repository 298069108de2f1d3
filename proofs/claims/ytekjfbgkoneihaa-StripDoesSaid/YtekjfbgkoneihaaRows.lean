/-
  No cell of these rows narrows 'for every input' (looked for: loops, veiled, ifaces, maps, wideKeys, modest, calm, conditions, laid).
  DERIVED. THE GIVEN ROWS OF THIS SEAT. 5 by the template 'for every input the law returns true; each argument reads behind the call as it read before'; 0 by the template 'total and deterministic' (their statements: YtekjfbgkoneihaaTotals.lean).
  GIVEN WITH THE SEED: the statements are not yours to turn. If you find one false, say at which input.
  Laid BY PROGRAM, IN A SANDBOX (cutbox-rows.mjs): the forced cells as the released guide's own fill.sh prints them over the translation c41e904b20f4828f… (all of the seat's roots in one cut). By AI agents, Wed Nov 11 2026. No macro, syntax, notation, axiom, sorry.
-/
import Derived.Test.YtekjfbgkoneihaaChecked
import GoSem.Claim
import GoSem.ClaimJoined
import GoSem.ClaimMapViews
import Derived.JoinedTies
import Derived.KernelRfl
namespace Go.Proofs.Ytekjfbgkoneihaa
/- THE CELL 'sum', in the pinned program and in every row, IS THE sha256 OF THE DUMP (.gsa) THAT YtekjfbgkoneihaaProg.lean LOADS. Nothing in Lean hashes anything: it is a label: what it is worth is what the hold of that sum in a sandbox is worth. -/
noncomputable def Try.pinned : Pinned := { name := "ytekjfbgkoneihaa", sum := "c41e904b20f4828f5c08082e9be4f2ff2c83531ad843641062bbfcc435ad7024", checked := Try.checked }
namespace Rows
def none {H : Type} : Left H := { results := [], args := [] }

/-- 'ogivelaw08.StripOwn': WHATEVER THE INPUT: true; the input reads as it did. -/
def stripOwnSpec : ChangeSpec := { name := "stripOwn", fn := fun _ => fun
  | [d1, d2, d3] => { results := [.lit (.bool true)], args := [d1, d2, d3] }
  | _ => none }
def stripOwnRow : OpenClaim := { program := "ytekjfbgkoneihaa", sum := "c41e904b20f4828f5c08082e9be4f2ff2c83531ad843641062bbfcc435ad7024", func := "ogive/ogivelaw08.StripOwn", spec := "stripOwn", inPlace := ["slices.overlaps[ogive/api.Pair]"], unfollowed := true, recurses := true, apart := false }
def StripOwnSaid : Prop := stripOwnRow.holds Try.pinned (OpenSpec.ofChange stripOwnSpec)

/-- ITS FALSE NEIGHBOUR: 'it returns false'. Refute it at one input. -/
def stripOwnWrong : ChangeSpec := { name := "stripOwn", fn := fun _ => fun
  | [d1, d2, d3] => { results := [.lit (.bool false)], args := [d1, d2, d3] }
  | _ => none }
def StripOwnWrongFalsely : Prop := stripOwnRow.holds Try.pinned (OpenSpec.ofChange stripOwnWrong)

/-- 'ogivelaw08.StripFinds': WHATEVER THE INPUT: true; the input reads as it did. -/
def stripFindsSpec : ChangeSpec := { name := "stripFinds", fn := fun _ => fun
  | [d1, d2, d3, d4] => { results := [.lit (.bool true)], args := [d1, d2, d3, d4] }
  | _ => none }
def stripFindsRow : OpenClaim := { program := "ytekjfbgkoneihaa", sum := "c41e904b20f4828f5c08082e9be4f2ff2c83531ad843641062bbfcc435ad7024", func := "ogive/ogivelaw08.StripFinds", spec := "stripFinds", inPlace := ["slices.overlaps[ogive/api.Pair]"], unfollowed := true, recurses := true, apart := false }
def StripFindsSaid : Prop := stripFindsRow.holds Try.pinned (OpenSpec.ofChange stripFindsSpec)

/-- ITS FALSE NEIGHBOUR: 'it returns false'. Refute it at one input. -/
def stripFindsWrong : ChangeSpec := { name := "stripFinds", fn := fun _ => fun
  | [d1, d2, d3, d4] => { results := [.lit (.bool false)], args := [d1, d2, d3, d4] }
  | _ => none }
def StripFindsWrongFalsely : Prop := stripFindsRow.holds Try.pinned (OpenSpec.ofChange stripFindsWrong)

/-- 'ogivelaw08.StripEmpties': WHATEVER THE INPUT: true; the input reads as it did. -/
def stripEmptiesSpec : ChangeSpec := { name := "stripEmpties", fn := fun _ => fun
  | [d1, d2] => { results := [.lit (.bool true)], args := [d1, d2] }
  | _ => none }
def stripEmptiesRow : OpenClaim := { program := "ytekjfbgkoneihaa", sum := "c41e904b20f4828f5c08082e9be4f2ff2c83531ad843641062bbfcc435ad7024", func := "ogive/ogivelaw08.StripEmpties", spec := "stripEmpties", inPlace := ["slices.overlaps[ogive/api.Pair]"], unfollowed := true, recurses := true, apart := false }
def StripEmptiesSaid : Prop := stripEmptiesRow.holds Try.pinned (OpenSpec.ofChange stripEmptiesSpec)

/-- ITS FALSE NEIGHBOUR: 'it returns false'. Refute it at one input. -/
def stripEmptiesWrong : ChangeSpec := { name := "stripEmpties", fn := fun _ => fun
  | [d1, d2] => { results := [.lit (.bool false)], args := [d1, d2] }
  | _ => none }
def StripEmptiesWrongFalsely : Prop := stripEmptiesRow.holds Try.pinned (OpenSpec.ofChange stripEmptiesWrong)

/-- 'ogivelaw08.StripEnds': WHATEVER THE INPUT: true; the input reads as it did. -/
def stripEndsSpec : ChangeSpec := { name := "stripEnds", fn := fun _ => fun
  | [d1, d2] => { results := [.lit (.bool true)], args := [d1, d2] }
  | _ => none }
def stripEndsRow : OpenClaim := { program := "ytekjfbgkoneihaa", sum := "c41e904b20f4828f5c08082e9be4f2ff2c83531ad843641062bbfcc435ad7024", func := "ogive/ogivelaw08.StripEnds", spec := "stripEnds", inPlace := ["slices.overlaps[ogive/api.Pair]"], unfollowed := true, recurses := true, apart := false }
def StripEndsSaid : Prop := stripEndsRow.holds Try.pinned (OpenSpec.ofChange stripEndsSpec)

/-- ITS FALSE NEIGHBOUR: 'it returns false'. Refute it at one input. -/
def stripEndsWrong : ChangeSpec := { name := "stripEnds", fn := fun _ => fun
  | [d1, d2] => { results := [.lit (.bool false)], args := [d1, d2] }
  | _ => none }
def StripEndsWrongFalsely : Prop := stripEndsRow.holds Try.pinned (OpenSpec.ofChange stripEndsWrong)

/-- 'ogivelaw08.StripDoes': WHATEVER THE INPUT: true; the input reads as it did. -/
def stripDoesSpec : ChangeSpec := { name := "stripDoes", fn := fun _ => fun
  | [d1, d2, d3] => { results := [.lit (.bool true)], args := [d1, d2, d3] }
  | _ => none }
def stripDoesRow : OpenClaim := { program := "ytekjfbgkoneihaa", sum := "c41e904b20f4828f5c08082e9be4f2ff2c83531ad843641062bbfcc435ad7024", func := "ogive/ogivelaw08.StripDoes", spec := "stripDoes", inPlace := ["slices.overlaps[ogive/api.Pair]"], unfollowed := true, recurses := true, apart := false }
def StripDoesSaid : Prop := stripDoesRow.holds Try.pinned (OpenSpec.ofChange stripDoesSpec)

/-- ITS FALSE NEIGHBOUR: 'it returns false'. Refute it at one input. -/
def stripDoesWrong : ChangeSpec := { name := "stripDoes", fn := fun _ => fun
  | [d1, d2, d3] => { results := [.lit (.bool false)], args := [d1, d2, d3] }
  | _ => none }
def StripDoesWrongFalsely : Prop := stripDoesRow.holds Try.pinned (OpenSpec.ofChange stripDoesWrong)

/- THE SECOND FORM. 'bulk': how many values and letters a reading holds, each counted each time it is reached (what is shared counts as often as it is met; a slice's spare places count too). A statement '..UptoSaid' is the law's where the arguments, and the package variables that the reading takes, are together of bulk at most 1048576: NARROWER than '..Said'. Prove '..Said' where nothing that the law and all that it calls make is longer than what came in: it says more and counts as full. Else prove '..UptoSaid'. A law counts once. -/
mutual
def uptoBulk {H : Type} : DataW H → Nat
  | .lit (.string bytes) => bytes.length + 1
  | .lit _ => 1
  | .nil => 1
  | .ptr d => uptoBulk d + 1
  | .slice elems spare => uptoBulkAll elems + uptoBulkAll spare + 1
  | .agg parts => uptoBulkAll parts + 1
  | .iface _ d => uptoBulk d + 1
  | .map entries => uptoBulkEntries entries + 1
  | .held _ => 1
def uptoBulkAll {H : Type} : List (DataW H) → Nat
  | [] => 0
  | d :: r => uptoBulk d + uptoBulkAll r
def uptoBulkEntries {H : Type} : List (Lit × DataW H) → Nat
  | [] => 0
  | x :: r => uptoBulkEntry x + uptoBulkEntries r
def uptoBulkEntry {H : Type} : Lit × DataW H → Nat
  | (.string bytes, d) => bytes.length + uptoBulk d + 1
  | (_, d) => uptoBulk d + 1
 end
def uptoSmall : (H : Type) → List (DataW H) → Bool := fun _ ds => decide (uptoBulkAll ds ≤ 1048576)
def OpenSpec.upto (s : _root_.Go.ChangeSpec) : _root_.Go.OpenSpec := { _root_.Go.OpenSpec.ofChange s with cond := some uptoSmall }

/-- 'ogivelaw08.StripOwn', WHERE WHAT IT READS IS OF BULK AT MOST 1048576: true; the input reads as it did. -/
def stripOwnUptoRow : OpenClaim := { program := "ytekjfbgkoneihaa", sum := "c41e904b20f4828f5c08082e9be4f2ff2c83531ad843641062bbfcc435ad7024", func := "ogive/ogivelaw08.StripOwn", spec := "stripOwn", inPlace := ["slices.overlaps[ogive/api.Pair]"], unfollowed := true, recurses := true, apart := false, narrowed := true }
def StripOwnUptoSaid : Prop := stripOwnUptoRow.holds Try.pinned (OpenSpec.upto stripOwnSpec)

/-- 'ogivelaw08.StripFinds', WHERE WHAT IT READS IS OF BULK AT MOST 1048576: true; the input reads as it did. -/
def stripFindsUptoRow : OpenClaim := { program := "ytekjfbgkoneihaa", sum := "c41e904b20f4828f5c08082e9be4f2ff2c83531ad843641062bbfcc435ad7024", func := "ogive/ogivelaw08.StripFinds", spec := "stripFinds", inPlace := ["slices.overlaps[ogive/api.Pair]"], unfollowed := true, recurses := true, apart := false, narrowed := true }
def StripFindsUptoSaid : Prop := stripFindsUptoRow.holds Try.pinned (OpenSpec.upto stripFindsSpec)

/-- 'ogivelaw08.StripEmpties', WHERE WHAT IT READS IS OF BULK AT MOST 1048576: true; the input reads as it did. -/
def stripEmptiesUptoRow : OpenClaim := { program := "ytekjfbgkoneihaa", sum := "c41e904b20f4828f5c08082e9be4f2ff2c83531ad843641062bbfcc435ad7024", func := "ogive/ogivelaw08.StripEmpties", spec := "stripEmpties", inPlace := ["slices.overlaps[ogive/api.Pair]"], unfollowed := true, recurses := true, apart := false, narrowed := true }
def StripEmptiesUptoSaid : Prop := stripEmptiesUptoRow.holds Try.pinned (OpenSpec.upto stripEmptiesSpec)

/-- 'ogivelaw08.StripEnds', WHERE WHAT IT READS IS OF BULK AT MOST 1048576: true; the input reads as it did. -/
def stripEndsUptoRow : OpenClaim := { program := "ytekjfbgkoneihaa", sum := "c41e904b20f4828f5c08082e9be4f2ff2c83531ad843641062bbfcc435ad7024", func := "ogive/ogivelaw08.StripEnds", spec := "stripEnds", inPlace := ["slices.overlaps[ogive/api.Pair]"], unfollowed := true, recurses := true, apart := false, narrowed := true }
def StripEndsUptoSaid : Prop := stripEndsUptoRow.holds Try.pinned (OpenSpec.upto stripEndsSpec)

/-- 'ogivelaw08.StripDoes', WHERE WHAT IT READS IS OF BULK AT MOST 1048576: true; the input reads as it did. -/
def stripDoesUptoRow : OpenClaim := { program := "ytekjfbgkoneihaa", sum := "c41e904b20f4828f5c08082e9be4f2ff2c83531ad843641062bbfcc435ad7024", func := "ogive/ogivelaw08.StripDoes", spec := "stripDoes", inPlace := ["slices.overlaps[ogive/api.Pair]"], unfollowed := true, recurses := true, apart := false, narrowed := true }
def StripDoesUptoSaid : Prop := stripDoesUptoRow.holds Try.pinned (OpenSpec.upto stripDoesSpec)

end Rows
end Go.Proofs.Ytekjfbgkoneihaa
