/-
  No cell of these rows narrows 'for every input' (looked for: loops, veiled, ifaces, maps, wideKeys, modest, calm, conditions, laid).
  DERIVED. THE GIVEN ROWS OF THIS SEAT. 5 by the template 'for every input the law returns true; each argument reads behind the call as it read before'; 0 by the template 'total and deterministic' (their statements: YtpgfnpcdajnpbaaTotals.lean).
  GIVEN WITH THE SEED: the statements are not yours to turn. If you find one false, say at which input.
  Laid BY PROGRAM, IN A SANDBOX (cutbox-rows.mjs): the forced cells as the released guide's own fill.sh prints them over the translation cec28fc43be54b65… (all of the seat's roots in one cut). By AI agents, Wed Nov 11 2026. No macro, syntax, notation, axiom, sorry.
-/
import Derived.Test.YtpgfnpcdajnpbaaChecked
import GoSem.Claim
import GoSem.ClaimJoined
import GoSem.ClaimMapViews
import Derived.JoinedTies
import Derived.KernelRfl
namespace Go.Proofs.Ytpgfnpcdajnpbaa
/- THE CELL 'sum', in the pinned program and in every row, IS THE sha256 OF THE DUMP (.gsa) THAT YtpgfnpcdajnpbaaProg.lean LOADS. Nothing in Lean hashes anything: it is a label: what it is worth is what the hold of that sum in a sandbox is worth. -/
noncomputable def Try.pinned : Pinned := { name := "ytpgfnpcdajnpbaa", sum := "cec28fc43be54b65770e0ac4f1630db862a49b92a237407643968c2be42f8635", checked := Try.checked }
namespace Rows
def none {H : Type} : Left H := { results := [], args := [] }

/-- 'ogivelaw09.LowcapKeeps': WHATEVER THE INPUT: true; the input reads as it did. -/
def lowcapKeepsSpec : ChangeSpec := { name := "lowcapKeeps", fn := fun _ => fun
  | [d1, d2, d3] => { results := [.lit (.bool true)], args := [d1, d2, d3] }
  | _ => none }
def lowcapKeepsRow : OpenClaim := { program := "ytpgfnpcdajnpbaa", sum := "cec28fc43be54b65770e0ac4f1630db862a49b92a237407643968c2be42f8635", func := "ogive/ogivelaw09.LowcapKeeps", spec := "lowcapKeeps", inPlace := ["slices.overlaps[ogive/api.Pair]"], unfollowed := true, recurses := true, apart := false }
def LowcapKeepsSaid : Prop := lowcapKeepsRow.holds Try.pinned (OpenSpec.ofChange lowcapKeepsSpec)

/-- ITS FALSE NEIGHBOUR: 'it returns false'. Refute it at one input. -/
def lowcapKeepsWrong : ChangeSpec := { name := "lowcapKeeps", fn := fun _ => fun
  | [d1, d2, d3] => { results := [.lit (.bool false)], args := [d1, d2, d3] }
  | _ => none }
def LowcapKeepsWrongFalsely : Prop := lowcapKeepsRow.holds Try.pinned (OpenSpec.ofChange lowcapKeepsWrong)

/-- 'ogivelaw09.LowcapMerges': WHATEVER THE INPUT: true; the input reads as it did. -/
def lowcapMergesSpec : ChangeSpec := { name := "lowcapMerges", fn := fun _ => fun
  | [d1, d2, d3, d4] => { results := [.lit (.bool true)], args := [d1, d2, d3, d4] }
  | _ => none }
def lowcapMergesRow : OpenClaim := { program := "ytpgfnpcdajnpbaa", sum := "cec28fc43be54b65770e0ac4f1630db862a49b92a237407643968c2be42f8635", func := "ogive/ogivelaw09.LowcapMerges", spec := "lowcapMerges", inPlace := ["slices.overlaps[ogive/api.Pair]"], unfollowed := true, recurses := true, apart := false }
def LowcapMergesSaid : Prop := lowcapMergesRow.holds Try.pinned (OpenSpec.ofChange lowcapMergesSpec)

/-- ITS FALSE NEIGHBOUR: 'it returns false'. Refute it at one input. -/
def lowcapMergesWrong : ChangeSpec := { name := "lowcapMerges", fn := fun _ => fun
  | [d1, d2, d3, d4] => { results := [.lit (.bool false)], args := [d1, d2, d3, d4] }
  | _ => none }
def LowcapMergesWrongFalsely : Prop := lowcapMergesRow.holds Try.pinned (OpenSpec.ofChange lowcapMergesWrong)

/-- 'ogivelaw09.LowcapLoads': WHATEVER THE INPUT: true; the input reads as it did. -/
def lowcapLoadsSpec : ChangeSpec := { name := "lowcapLoads", fn := fun _ => fun
  | [d1, d2, d3, d4, d5] => { results := [.lit (.bool true)], args := [d1, d2, d3, d4, d5] }
  | _ => none }
def lowcapLoadsRow : OpenClaim := { program := "ytpgfnpcdajnpbaa", sum := "cec28fc43be54b65770e0ac4f1630db862a49b92a237407643968c2be42f8635", func := "ogive/ogivelaw09.LowcapLoads", spec := "lowcapLoads", inPlace := ["slices.overlaps[ogive/api.Pair]"], unfollowed := true, recurses := true, apart := false }
def LowcapLoadsSaid : Prop := lowcapLoadsRow.holds Try.pinned (OpenSpec.ofChange lowcapLoadsSpec)

/-- ITS FALSE NEIGHBOUR: 'it returns false'. Refute it at one input. -/
def lowcapLoadsWrong : ChangeSpec := { name := "lowcapLoads", fn := fun _ => fun
  | [d1, d2, d3, d4, d5] => { results := [.lit (.bool false)], args := [d1, d2, d3, d4, d5] }
  | _ => none }
def LowcapLoadsWrongFalsely : Prop := lowcapLoadsRow.holds Try.pinned (OpenSpec.ofChange lowcapLoadsWrong)

/-- 'ogivelaw09.LowcapFinds': WHATEVER THE INPUT: true; the input reads as it did. -/
def lowcapFindsSpec : ChangeSpec := { name := "lowcapFinds", fn := fun _ => fun
  | [d1, d2, d3, d4] => { results := [.lit (.bool true)], args := [d1, d2, d3, d4] }
  | _ => none }
def lowcapFindsRow : OpenClaim := { program := "ytpgfnpcdajnpbaa", sum := "cec28fc43be54b65770e0ac4f1630db862a49b92a237407643968c2be42f8635", func := "ogive/ogivelaw09.LowcapFinds", spec := "lowcapFinds", inPlace := ["slices.overlaps[ogive/api.Pair]"], unfollowed := true, recurses := true, apart := false }
def LowcapFindsSaid : Prop := lowcapFindsRow.holds Try.pinned (OpenSpec.ofChange lowcapFindsSpec)

/-- ITS FALSE NEIGHBOUR: 'it returns false'. Refute it at one input. -/
def lowcapFindsWrong : ChangeSpec := { name := "lowcapFinds", fn := fun _ => fun
  | [d1, d2, d3, d4] => { results := [.lit (.bool false)], args := [d1, d2, d3, d4] }
  | _ => none }
def LowcapFindsWrongFalsely : Prop := lowcapFindsRow.holds Try.pinned (OpenSpec.ofChange lowcapFindsWrong)

/-- 'ogivelaw09.LowcapErrors': WHATEVER THE INPUT: true; the input reads as it did. -/
def lowcapErrorsSpec : ChangeSpec := { name := "lowcapErrors", fn := fun _ => fun
  | [d1, d2, d3] => { results := [.lit (.bool true)], args := [d1, d2, d3] }
  | _ => none }
def lowcapErrorsRow : OpenClaim := { program := "ytpgfnpcdajnpbaa", sum := "cec28fc43be54b65770e0ac4f1630db862a49b92a237407643968c2be42f8635", func := "ogive/ogivelaw09.LowcapErrors", spec := "lowcapErrors", inPlace := ["slices.overlaps[ogive/api.Pair]"], unfollowed := true, recurses := true, apart := false }
def LowcapErrorsSaid : Prop := lowcapErrorsRow.holds Try.pinned (OpenSpec.ofChange lowcapErrorsSpec)

/-- ITS FALSE NEIGHBOUR: 'it returns false'. Refute it at one input. -/
def lowcapErrorsWrong : ChangeSpec := { name := "lowcapErrors", fn := fun _ => fun
  | [d1, d2, d3] => { results := [.lit (.bool false)], args := [d1, d2, d3] }
  | _ => none }
def LowcapErrorsWrongFalsely : Prop := lowcapErrorsRow.holds Try.pinned (OpenSpec.ofChange lowcapErrorsWrong)

/- THE SECOND FORM. 'bulk': how many values and letters a reading holds, each counted each time it is reached (what is shared counts as often as it is met; a slice's spare places count too). A statement '..UptoSaid' is the law's where the arguments, and the package variables that the reading takes, are together of bulk at most 1048576: NARROWER than '..Said'. Prove '..Said' where nothing that the law and all that it calls make is longer than what came in: it says more and counts as full. Else prove '..UptoSaid'. A law counts once. -/
mutual
def uptoBulk {H : Type} : DataW H → Nat
  | .lit (.string bytes) => bytes.length + 1
  | .lit _ => 1
  | .nil => 1
  | .ptr d => uptoBulk d + 1
  | .slice elems spare => uptoBulkAll elems + uptoBulkAll spare + 1
  | .agg parts => uptoBulkAll parts + 1
  | .iface _ d => uptoBulk d + 1
  | .map entries => uptoBulkEntries entries + 1
  | .held _ => 1
def uptoBulkAll {H : Type} : List (DataW H) → Nat
  | [] => 0
  | d :: r => uptoBulk d + uptoBulkAll r
def uptoBulkEntries {H : Type} : List (Lit × DataW H) → Nat
  | [] => 0
  | x :: r => uptoBulkEntry x + uptoBulkEntries r
def uptoBulkEntry {H : Type} : Lit × DataW H → Nat
  | (.string bytes, d) => bytes.length + uptoBulk d + 1
  | (_, d) => uptoBulk d + 1
 end
def uptoSmall : (H : Type) → List (DataW H) → Bool := fun _ ds => decide (uptoBulkAll ds ≤ 1048576)
def OpenSpec.upto (s : _root_.Go.ChangeSpec) : _root_.Go.OpenSpec := { _root_.Go.OpenSpec.ofChange s with cond := some uptoSmall }

/-- 'ogivelaw09.LowcapKeeps', WHERE WHAT IT READS IS OF BULK AT MOST 1048576: true; the input reads as it did. -/
def lowcapKeepsUptoRow : OpenClaim := { program := "ytpgfnpcdajnpbaa", sum := "cec28fc43be54b65770e0ac4f1630db862a49b92a237407643968c2be42f8635", func := "ogive/ogivelaw09.LowcapKeeps", spec := "lowcapKeeps", inPlace := ["slices.overlaps[ogive/api.Pair]"], unfollowed := true, recurses := true, apart := false, narrowed := true }
def LowcapKeepsUptoSaid : Prop := lowcapKeepsUptoRow.holds Try.pinned (OpenSpec.upto lowcapKeepsSpec)

/-- 'ogivelaw09.LowcapMerges', WHERE WHAT IT READS IS OF BULK AT MOST 1048576: true; the input reads as it did. -/
def lowcapMergesUptoRow : OpenClaim := { program := "ytpgfnpcdajnpbaa", sum := "cec28fc43be54b65770e0ac4f1630db862a49b92a237407643968c2be42f8635", func := "ogive/ogivelaw09.LowcapMerges", spec := "lowcapMerges", inPlace := ["slices.overlaps[ogive/api.Pair]"], unfollowed := true, recurses := true, apart := false, narrowed := true }
def LowcapMergesUptoSaid : Prop := lowcapMergesUptoRow.holds Try.pinned (OpenSpec.upto lowcapMergesSpec)

/-- 'ogivelaw09.LowcapLoads', WHERE WHAT IT READS IS OF BULK AT MOST 1048576: true; the input reads as it did. -/
def lowcapLoadsUptoRow : OpenClaim := { program := "ytpgfnpcdajnpbaa", sum := "cec28fc43be54b65770e0ac4f1630db862a49b92a237407643968c2be42f8635", func := "ogive/ogivelaw09.LowcapLoads", spec := "lowcapLoads", inPlace := ["slices.overlaps[ogive/api.Pair]"], unfollowed := true, recurses := true, apart := false, narrowed := true }
def LowcapLoadsUptoSaid : Prop := lowcapLoadsUptoRow.holds Try.pinned (OpenSpec.upto lowcapLoadsSpec)

/-- 'ogivelaw09.LowcapFinds', WHERE WHAT IT READS IS OF BULK AT MOST 1048576: true; the input reads as it did. -/
def lowcapFindsUptoRow : OpenClaim := { program := "ytpgfnpcdajnpbaa", sum := "cec28fc43be54b65770e0ac4f1630db862a49b92a237407643968c2be42f8635", func := "ogive/ogivelaw09.LowcapFinds", spec := "lowcapFinds", inPlace := ["slices.overlaps[ogive/api.Pair]"], unfollowed := true, recurses := true, apart := false, narrowed := true }
def LowcapFindsUptoSaid : Prop := lowcapFindsUptoRow.holds Try.pinned (OpenSpec.upto lowcapFindsSpec)

/-- 'ogivelaw09.LowcapErrors', WHERE WHAT IT READS IS OF BULK AT MOST 1048576: true; the input reads as it did. -/
def lowcapErrorsUptoRow : OpenClaim := { program := "ytpgfnpcdajnpbaa", sum := "cec28fc43be54b65770e0ac4f1630db862a49b92a237407643968c2be42f8635", func := "ogive/ogivelaw09.LowcapErrors", spec := "lowcapErrors", inPlace := ["slices.overlaps[ogive/api.Pair]"], unfollowed := true, recurses := true, apart := false, narrowed := true }
def LowcapErrorsUptoSaid : Prop := lowcapErrorsUptoRow.holds Try.pinned (OpenSpec.upto lowcapErrorsSpec)

end Rows
end Go.Proofs.Ytpgfnpcdajnpbaa
