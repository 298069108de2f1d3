/-
  No cell of these rows narrows 'for every input' (looked for: loops, veiled, ifaces, maps, wideKeys, modest, calm, conditions, laid).
  DERIVED. THE GIVEN ROWS OF THIS SEAT. 5 by the template 'for every input the law returns true; each argument reads behind the call as it read before'; 0 by the template 'total and deterministic' (their statements: YthbkgahflmgmnaaTotals.lean).
  GIVEN WITH THE SEED: the statements are not yours to turn. If you find one false, say at which input.
  Laid BY PROGRAM, IN A SANDBOX (cutbox-rows.mjs): the forced cells as the released guide's own fill.sh prints them over the translation 8d240ec39bc53a6f… (all of the seat's roots in one cut). By AI agents, Wed Nov 11 2026. No macro, syntax, notation, axiom, sorry.
-/
import Derived.Test.YthbkgahflmgmnaaChecked
import GoSem.Claim
import GoSem.ClaimJoined
import GoSem.ClaimMapViews
import Derived.JoinedTies
import Derived.KernelRfl
namespace Go.Proofs.Ythbkgahflmgmnaa
/- THE CELL 'sum', in the pinned program and in every row, IS THE sha256 OF THE DUMP (.gsa) THAT YthbkgahflmgmnaaProg.lean LOADS. Nothing in Lean hashes anything: it is a label: what it is worth is what the hold of that sum in a sandbox is worth. -/
noncomputable def Try.pinned : Pinned := { name := "ythbkgahflmgmnaa", sum := "8d240ec39bc53a6f2aefdc9f5965b655f52a9d41ebbe886fddc640df04837760", checked := Try.checked }
namespace Rows
def none {H : Type} : Left H := { results := [], args := [] }

/-- 'ogivelaw01.WideQuotients': WHATEVER THE INPUT: true; the input reads as it did. -/
def wideQuotientsSpec : ChangeSpec := { name := "wideQuotients", fn := fun _ => fun
  | [d1, d2] => { results := [.lit (.bool true)], args := [d1, d2] }
  | _ => none }
def wideQuotientsRow : OpenClaim := { program := "ythbkgahflmgmnaa", sum := "8d240ec39bc53a6f2aefdc9f5965b655f52a9d41ebbe886fddc640df04837760", func := "ogive/ogivelaw01.WideQuotients", spec := "wideQuotients", inPlace := ["math/bits.Add64"], named := ["math/bits.divideError", "math/bits.overflowError"], apart := false }
def WideQuotientsSaid : Prop := wideQuotientsRow.holds Try.pinned (OpenSpec.ofChange wideQuotientsSpec)

/-- ITS FALSE NEIGHBOUR: 'it returns false'. Refute it at one input. -/
def wideQuotientsWrong : ChangeSpec := { name := "wideQuotients", fn := fun _ => fun
  | [d1, d2] => { results := [.lit (.bool false)], args := [d1, d2] }
  | _ => none }
def WideQuotientsWrongFalsely : Prop := wideQuotientsRow.holds Try.pinned (OpenSpec.ofChange wideQuotientsWrong)

/-- 'ogivelaw01.WideRounds': WHATEVER THE INPUT: true; the input reads as it did. -/
def wideRoundsSpec : ChangeSpec := { name := "wideRounds", fn := fun _ => fun
  | [d1, d2, d3] => { results := [.lit (.bool true)], args := [d1, d2, d3] }
  | _ => none }
def wideRoundsRow : OpenClaim := { program := "ythbkgahflmgmnaa", sum := "8d240ec39bc53a6f2aefdc9f5965b655f52a9d41ebbe886fddc640df04837760", func := "ogive/ogivelaw01.WideRounds", spec := "wideRounds", inPlace := ["math/bits.Add64"], named := ["math/bits.divideError", "math/bits.overflowError"], apart := false }
def WideRoundsSaid : Prop := wideRoundsRow.holds Try.pinned (OpenSpec.ofChange wideRoundsSpec)

/-- ITS FALSE NEIGHBOUR: 'it returns false'. Refute it at one input. -/
def wideRoundsWrong : ChangeSpec := { name := "wideRounds", fn := fun _ => fun
  | [d1, d2, d3] => { results := [.lit (.bool false)], args := [d1, d2, d3] }
  | _ => none }
def WideRoundsWrongFalsely : Prop := wideRoundsRow.holds Try.pinned (OpenSpec.ofChange wideRoundsWrong)

/-- 'ogivelaw01.WideCounts': WHATEVER THE INPUT: true; the input reads as it did. -/
def wideCountsSpec : ChangeSpec := { name := "wideCounts", fn := fun _ => fun
  | [d1, d2] => { results := [.lit (.bool true)], args := [d1, d2] }
  | _ => none }
def wideCountsRow : OpenClaim := { program := "ythbkgahflmgmnaa", sum := "8d240ec39bc53a6f2aefdc9f5965b655f52a9d41ebbe886fddc640df04837760", func := "ogive/ogivelaw01.WideCounts", spec := "wideCounts", inPlace := ["math/bits.Add64"], named := ["math/bits.divideError", "math/bits.overflowError"], apart := false }
def WideCountsSaid : Prop := wideCountsRow.holds Try.pinned (OpenSpec.ofChange wideCountsSpec)

/-- ITS FALSE NEIGHBOUR: 'it returns false'. Refute it at one input. -/
def wideCountsWrong : ChangeSpec := { name := "wideCounts", fn := fun _ => fun
  | [d1, d2] => { results := [.lit (.bool false)], args := [d1, d2] }
  | _ => none }
def WideCountsWrongFalsely : Prop := wideCountsRow.holds Try.pinned (OpenSpec.ofChange wideCountsWrong)

/-- 'ogivelaw01.WideFractions': WHATEVER THE INPUT: true; the input reads as it did. -/
def wideFractionsSpec : ChangeSpec := { name := "wideFractions", fn := fun _ => fun
  | [d1, d2, d3] => { results := [.lit (.bool true)], args := [d1, d2, d3] }
  | _ => none }
def wideFractionsRow : OpenClaim := { program := "ythbkgahflmgmnaa", sum := "8d240ec39bc53a6f2aefdc9f5965b655f52a9d41ebbe886fddc640df04837760", func := "ogive/ogivelaw01.WideFractions", spec := "wideFractions", inPlace := ["math/bits.Add64"], named := ["math/bits.divideError", "math/bits.overflowError"], apart := false }
def WideFractionsSaid : Prop := wideFractionsRow.holds Try.pinned (OpenSpec.ofChange wideFractionsSpec)

/-- ITS FALSE NEIGHBOUR: 'it returns false'. Refute it at one input. -/
def wideFractionsWrong : ChangeSpec := { name := "wideFractions", fn := fun _ => fun
  | [d1, d2, d3] => { results := [.lit (.bool false)], args := [d1, d2, d3] }
  | _ => none }
def WideFractionsWrongFalsely : Prop := wideFractionsRow.holds Try.pinned (OpenSpec.ofChange wideFractionsWrong)

/-- 'ogivelaw01.WideSums': WHATEVER THE INPUT: true; the input reads as it did. -/
def wideSumsSpec : ChangeSpec := { name := "wideSums", fn := fun _ => fun
  | [d1, d2, d3] => { results := [.lit (.bool true)], args := [d1, d2, d3] }
  | _ => none }
def wideSumsRow : OpenClaim := { program := "ythbkgahflmgmnaa", sum := "8d240ec39bc53a6f2aefdc9f5965b655f52a9d41ebbe886fddc640df04837760", func := "ogive/ogivelaw01.WideSums", spec := "wideSums", inPlace := ["math/bits.Add64", "math/bits.Sub64"], named := ["math/bits.divideError", "math/bits.overflowError"], apart := false }
def WideSumsSaid : Prop := wideSumsRow.holds Try.pinned (OpenSpec.ofChange wideSumsSpec)

/-- ITS FALSE NEIGHBOUR: 'it returns false'. Refute it at one input. -/
def wideSumsWrong : ChangeSpec := { name := "wideSums", fn := fun _ => fun
  | [d1, d2, d3] => { results := [.lit (.bool false)], args := [d1, d2, d3] }
  | _ => none }
def WideSumsWrongFalsely : Prop := wideSumsRow.holds Try.pinned (OpenSpec.ofChange wideSumsWrong)

/- THE SECOND FORM. 'bulk': how many values and letters a reading holds, each counted each time it is reached (what is shared counts as often as it is met; a slice's spare places count too). A statement '..UptoSaid' is the law's where the arguments, and the package variables that the reading takes, are together of bulk at most 1048576: NARROWER than '..Said'. Prove '..Said' where nothing that the law and all that it calls make is longer than what came in: it says more and counts as full. Else prove '..UptoSaid'. A law counts once. -/
mutual
def uptoBulk {H : Type} : DataW H → Nat
  | .lit (.string bytes) => bytes.length + 1
  | .lit _ => 1
  | .nil => 1
  | .ptr d => uptoBulk d + 1
  | .slice elems spare => uptoBulkAll elems + uptoBulkAll spare + 1
  | .agg parts => uptoBulkAll parts + 1
  | .iface _ d => uptoBulk d + 1
  | .map entries => uptoBulkEntries entries + 1
  | .held _ => 1
def uptoBulkAll {H : Type} : List (DataW H) → Nat
  | [] => 0
  | d :: r => uptoBulk d + uptoBulkAll r
def uptoBulkEntries {H : Type} : List (Lit × DataW H) → Nat
  | [] => 0
  | x :: r => uptoBulkEntry x + uptoBulkEntries r
def uptoBulkEntry {H : Type} : Lit × DataW H → Nat
  | (.string bytes, d) => bytes.length + uptoBulk d + 1
  | (_, d) => uptoBulk d + 1
 end
def uptoSmall : (H : Type) → List (DataW H) → Bool := fun _ ds => decide (uptoBulkAll ds ≤ 1048576)
def OpenSpec.upto (s : _root_.Go.ChangeSpec) : _root_.Go.OpenSpec := { _root_.Go.OpenSpec.ofChange s with cond := some uptoSmall }

/-- 'ogivelaw01.WideQuotients', WHERE WHAT IT READS IS OF BULK AT MOST 1048576: true; the input reads as it did. -/
def wideQuotientsUptoRow : OpenClaim := { program := "ythbkgahflmgmnaa", sum := "8d240ec39bc53a6f2aefdc9f5965b655f52a9d41ebbe886fddc640df04837760", func := "ogive/ogivelaw01.WideQuotients", spec := "wideQuotients", inPlace := ["math/bits.Add64"], named := ["math/bits.divideError", "math/bits.overflowError"], apart := false, narrowed := true }
def WideQuotientsUptoSaid : Prop := wideQuotientsUptoRow.holds Try.pinned (OpenSpec.upto wideQuotientsSpec)

/-- 'ogivelaw01.WideRounds', WHERE WHAT IT READS IS OF BULK AT MOST 1048576: true; the input reads as it did. -/
def wideRoundsUptoRow : OpenClaim := { program := "ythbkgahflmgmnaa", sum := "8d240ec39bc53a6f2aefdc9f5965b655f52a9d41ebbe886fddc640df04837760", func := "ogive/ogivelaw01.WideRounds", spec := "wideRounds", inPlace := ["math/bits.Add64"], named := ["math/bits.divideError", "math/bits.overflowError"], apart := false, narrowed := true }
def WideRoundsUptoSaid : Prop := wideRoundsUptoRow.holds Try.pinned (OpenSpec.upto wideRoundsSpec)

/-- 'ogivelaw01.WideCounts', WHERE WHAT IT READS IS OF BULK AT MOST 1048576: true; the input reads as it did. -/
def wideCountsUptoRow : OpenClaim := { program := "ythbkgahflmgmnaa", sum := "8d240ec39bc53a6f2aefdc9f5965b655f52a9d41ebbe886fddc640df04837760", func := "ogive/ogivelaw01.WideCounts", spec := "wideCounts", inPlace := ["math/bits.Add64"], named := ["math/bits.divideError", "math/bits.overflowError"], apart := false, narrowed := true }
def WideCountsUptoSaid : Prop := wideCountsUptoRow.holds Try.pinned (OpenSpec.upto wideCountsSpec)

/-- 'ogivelaw01.WideFractions', WHERE WHAT IT READS IS OF BULK AT MOST 1048576: true; the input reads as it did. -/
def wideFractionsUptoRow : OpenClaim := { program := "ythbkgahflmgmnaa", sum := "8d240ec39bc53a6f2aefdc9f5965b655f52a9d41ebbe886fddc640df04837760", func := "ogive/ogivelaw01.WideFractions", spec := "wideFractions", inPlace := ["math/bits.Add64"], named := ["math/bits.divideError", "math/bits.overflowError"], apart := false, narrowed := true }
def WideFractionsUptoSaid : Prop := wideFractionsUptoRow.holds Try.pinned (OpenSpec.upto wideFractionsSpec)

/-- 'ogivelaw01.WideSums', WHERE WHAT IT READS IS OF BULK AT MOST 1048576: true; the input reads as it did. -/
def wideSumsUptoRow : OpenClaim := { program := "ythbkgahflmgmnaa", sum := "8d240ec39bc53a6f2aefdc9f5965b655f52a9d41ebbe886fddc640df04837760", func := "ogive/ogivelaw01.WideSums", spec := "wideSums", inPlace := ["math/bits.Add64", "math/bits.Sub64"], named := ["math/bits.divideError", "math/bits.overflowError"], apart := false, narrowed := true }
def WideSumsUptoSaid : Prop := wideSumsUptoRow.holds Try.pinned (OpenSpec.upto wideSumsSpec)

end Rows
end Go.Proofs.Ythbkgahflmgmnaa
