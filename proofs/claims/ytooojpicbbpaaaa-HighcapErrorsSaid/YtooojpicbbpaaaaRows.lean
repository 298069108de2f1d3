/-
  No cell of these rows narrows 'for every input' (looked for: loops, veiled, ifaces, maps, wideKeys, modest, calm, conditions, laid).
  DERIVED. THE GIVEN ROWS OF THIS SEAT. 5 by the template 'for every input the law returns true; each argument reads behind the call as it read before'; 0 by the template 'total and deterministic' (their statements: YtooojpicbbpaaaaTotals.lean).
  GIVEN WITH THE SEED: the statements are not yours to turn. If you find one false, say at which input.
  Laid BY PROGRAM, IN A SANDBOX (cutbox-rows.mjs): the forced cells as the released guide's own fill.sh prints them over the translation 340174c18044bb57… (all of the seat's roots in one cut). By AI agents, Wed Nov 11 2026. No macro, syntax, notation, axiom, sorry.
-/
import Derived.Test.YtooojpicbbpaaaaChecked
import GoSem.Claim
import GoSem.ClaimJoined
import GoSem.ClaimMapViews
import Derived.JoinedTies
import Derived.KernelRfl
namespace Go.Proofs.Ytooojpicbbpaaaa
/- THE CELL 'sum', in the pinned program and in every row, IS THE sha256 OF THE DUMP (.gsa) THAT YtooojpicbbpaaaaProg.lean LOADS. Nothing in Lean hashes anything: it is a label: what it is worth is what the hold of that sum in a sandbox is worth. -/
noncomputable def Try.pinned : Pinned := { name := "ytooojpicbbpaaaa", sum := "340174c18044bb573185520c3d8b00d4296b19dbd6b50c7fe668b0942ad4f51b", checked := Try.checked }
namespace Rows
def none {H : Type} : Left H := { results := [], args := [] }

/-- 'ogivelaw10.HighcapKeeps': WHATEVER THE INPUT: true; the input reads as it did. -/
def highcapKeepsSpec : ChangeSpec := { name := "highcapKeeps", fn := fun _ => fun
  | [d1, d2, d3] => { results := [.lit (.bool true)], args := [d1, d2, d3] }
  | _ => none }
def highcapKeepsRow : OpenClaim := { program := "ytooojpicbbpaaaa", sum := "340174c18044bb573185520c3d8b00d4296b19dbd6b50c7fe668b0942ad4f51b", func := "ogive/ogivelaw10.HighcapKeeps", spec := "highcapKeeps", inPlace := ["slices.overlaps[ogive/api.Pair]"], unfollowed := true, recurses := true, apart := false }
def HighcapKeepsSaid : Prop := highcapKeepsRow.holds Try.pinned (OpenSpec.ofChange highcapKeepsSpec)

/-- ITS FALSE NEIGHBOUR: 'it returns false'. Refute it at one input. -/
def highcapKeepsWrong : ChangeSpec := { name := "highcapKeeps", fn := fun _ => fun
  | [d1, d2, d3] => { results := [.lit (.bool false)], args := [d1, d2, d3] }
  | _ => none }
def HighcapKeepsWrongFalsely : Prop := highcapKeepsRow.holds Try.pinned (OpenSpec.ofChange highcapKeepsWrong)

/-- 'ogivelaw10.HighcapMerges': WHATEVER THE INPUT: true; the input reads as it did. -/
def highcapMergesSpec : ChangeSpec := { name := "highcapMerges", fn := fun _ => fun
  | [d1, d2, d3, d4] => { results := [.lit (.bool true)], args := [d1, d2, d3, d4] }
  | _ => none }
def highcapMergesRow : OpenClaim := { program := "ytooojpicbbpaaaa", sum := "340174c18044bb573185520c3d8b00d4296b19dbd6b50c7fe668b0942ad4f51b", func := "ogive/ogivelaw10.HighcapMerges", spec := "highcapMerges", inPlace := ["slices.overlaps[ogive/api.Pair]"], unfollowed := true, recurses := true, apart := false }
def HighcapMergesSaid : Prop := highcapMergesRow.holds Try.pinned (OpenSpec.ofChange highcapMergesSpec)

/-- ITS FALSE NEIGHBOUR: 'it returns false'. Refute it at one input. -/
def highcapMergesWrong : ChangeSpec := { name := "highcapMerges", fn := fun _ => fun
  | [d1, d2, d3, d4] => { results := [.lit (.bool false)], args := [d1, d2, d3, d4] }
  | _ => none }
def HighcapMergesWrongFalsely : Prop := highcapMergesRow.holds Try.pinned (OpenSpec.ofChange highcapMergesWrong)

/-- 'ogivelaw10.HighcapLoads': WHATEVER THE INPUT: true; the input reads as it did. -/
def highcapLoadsSpec : ChangeSpec := { name := "highcapLoads", fn := fun _ => fun
  | [d1, d2, d3, d4, d5] => { results := [.lit (.bool true)], args := [d1, d2, d3, d4, d5] }
  | _ => none }
def highcapLoadsRow : OpenClaim := { program := "ytooojpicbbpaaaa", sum := "340174c18044bb573185520c3d8b00d4296b19dbd6b50c7fe668b0942ad4f51b", func := "ogive/ogivelaw10.HighcapLoads", spec := "highcapLoads", inPlace := ["slices.overlaps[ogive/api.Pair]"], unfollowed := true, recurses := true, apart := false }
def HighcapLoadsSaid : Prop := highcapLoadsRow.holds Try.pinned (OpenSpec.ofChange highcapLoadsSpec)

/-- ITS FALSE NEIGHBOUR: 'it returns false'. Refute it at one input. -/
def highcapLoadsWrong : ChangeSpec := { name := "highcapLoads", fn := fun _ => fun
  | [d1, d2, d3, d4, d5] => { results := [.lit (.bool false)], args := [d1, d2, d3, d4, d5] }
  | _ => none }
def HighcapLoadsWrongFalsely : Prop := highcapLoadsRow.holds Try.pinned (OpenSpec.ofChange highcapLoadsWrong)

/-- 'ogivelaw10.HighcapFinds': WHATEVER THE INPUT: true; the input reads as it did. -/
def highcapFindsSpec : ChangeSpec := { name := "highcapFinds", fn := fun _ => fun
  | [d1, d2, d3, d4] => { results := [.lit (.bool true)], args := [d1, d2, d3, d4] }
  | _ => none }
def highcapFindsRow : OpenClaim := { program := "ytooojpicbbpaaaa", sum := "340174c18044bb573185520c3d8b00d4296b19dbd6b50c7fe668b0942ad4f51b", func := "ogive/ogivelaw10.HighcapFinds", spec := "highcapFinds", inPlace := ["slices.overlaps[ogive/api.Pair]"], unfollowed := true, recurses := true, apart := false }
def HighcapFindsSaid : Prop := highcapFindsRow.holds Try.pinned (OpenSpec.ofChange highcapFindsSpec)

/-- ITS FALSE NEIGHBOUR: 'it returns false'. Refute it at one input. -/
def highcapFindsWrong : ChangeSpec := { name := "highcapFinds", fn := fun _ => fun
  | [d1, d2, d3, d4] => { results := [.lit (.bool false)], args := [d1, d2, d3, d4] }
  | _ => none }
def HighcapFindsWrongFalsely : Prop := highcapFindsRow.holds Try.pinned (OpenSpec.ofChange highcapFindsWrong)

/-- 'ogivelaw10.HighcapErrors': WHATEVER THE INPUT: true; the input reads as it did. -/
def highcapErrorsSpec : ChangeSpec := { name := "highcapErrors", fn := fun _ => fun
  | [d1, d2, d3] => { results := [.lit (.bool true)], args := [d1, d2, d3] }
  | _ => none }
def highcapErrorsRow : OpenClaim := { program := "ytooojpicbbpaaaa", sum := "340174c18044bb573185520c3d8b00d4296b19dbd6b50c7fe668b0942ad4f51b", func := "ogive/ogivelaw10.HighcapErrors", spec := "highcapErrors", inPlace := ["slices.overlaps[ogive/api.Pair]"], unfollowed := true, recurses := true, apart := false }
def HighcapErrorsSaid : Prop := highcapErrorsRow.holds Try.pinned (OpenSpec.ofChange highcapErrorsSpec)

/-- ITS FALSE NEIGHBOUR: 'it returns false'. Refute it at one input. -/
def highcapErrorsWrong : ChangeSpec := { name := "highcapErrors", fn := fun _ => fun
  | [d1, d2, d3] => { results := [.lit (.bool false)], args := [d1, d2, d3] }
  | _ => none }
def HighcapErrorsWrongFalsely : Prop := highcapErrorsRow.holds Try.pinned (OpenSpec.ofChange highcapErrorsWrong)

/- THE SECOND FORM. 'bulk': how many values and letters a reading holds, each counted each time it is reached (what is shared counts as often as it is met; a slice's spare places count too). A statement '..UptoSaid' is the law's where the arguments, and the package variables that the reading takes, are together of bulk at most 1048576: NARROWER than '..Said'. Prove '..Said' where nothing that the law and all that it calls make is longer than what came in: it says more and counts as full. Else prove '..UptoSaid'. A law counts once. -/
mutual
def uptoBulk {H : Type} : DataW H → Nat
  | .lit (.string bytes) => bytes.length + 1
  | .lit _ => 1
  | .nil => 1
  | .ptr d => uptoBulk d + 1
  | .slice elems spare => uptoBulkAll elems + uptoBulkAll spare + 1
  | .agg parts => uptoBulkAll parts + 1
  | .iface _ d => uptoBulk d + 1
  | .map entries => uptoBulkEntries entries + 1
  | .held _ => 1
def uptoBulkAll {H : Type} : List (DataW H) → Nat
  | [] => 0
  | d :: r => uptoBulk d + uptoBulkAll r
def uptoBulkEntries {H : Type} : List (Lit × DataW H) → Nat
  | [] => 0
  | x :: r => uptoBulkEntry x + uptoBulkEntries r
def uptoBulkEntry {H : Type} : Lit × DataW H → Nat
  | (.string bytes, d) => bytes.length + uptoBulk d + 1
  | (_, d) => uptoBulk d + 1
 end
def uptoSmall : (H : Type) → List (DataW H) → Bool := fun _ ds => decide (uptoBulkAll ds ≤ 1048576)
def OpenSpec.upto (s : _root_.Go.ChangeSpec) : _root_.Go.OpenSpec := { _root_.Go.OpenSpec.ofChange s with cond := some uptoSmall }

/-- 'ogivelaw10.HighcapKeeps', WHERE WHAT IT READS IS OF BULK AT MOST 1048576: true; the input reads as it did. -/
def highcapKeepsUptoRow : OpenClaim := { program := "ytooojpicbbpaaaa", sum := "340174c18044bb573185520c3d8b00d4296b19dbd6b50c7fe668b0942ad4f51b", func := "ogive/ogivelaw10.HighcapKeeps", spec := "highcapKeeps", inPlace := ["slices.overlaps[ogive/api.Pair]"], unfollowed := true, recurses := true, apart := false, narrowed := true }
def HighcapKeepsUptoSaid : Prop := highcapKeepsUptoRow.holds Try.pinned (OpenSpec.upto highcapKeepsSpec)

/-- 'ogivelaw10.HighcapMerges', WHERE WHAT IT READS IS OF BULK AT MOST 1048576: true; the input reads as it did. -/
def highcapMergesUptoRow : OpenClaim := { program := "ytooojpicbbpaaaa", sum := "340174c18044bb573185520c3d8b00d4296b19dbd6b50c7fe668b0942ad4f51b", func := "ogive/ogivelaw10.HighcapMerges", spec := "highcapMerges", inPlace := ["slices.overlaps[ogive/api.Pair]"], unfollowed := true, recurses := true, apart := false, narrowed := true }
def HighcapMergesUptoSaid : Prop := highcapMergesUptoRow.holds Try.pinned (OpenSpec.upto highcapMergesSpec)

/-- 'ogivelaw10.HighcapLoads', WHERE WHAT IT READS IS OF BULK AT MOST 1048576: true; the input reads as it did. -/
def highcapLoadsUptoRow : OpenClaim := { program := "ytooojpicbbpaaaa", sum := "340174c18044bb573185520c3d8b00d4296b19dbd6b50c7fe668b0942ad4f51b", func := "ogive/ogivelaw10.HighcapLoads", spec := "highcapLoads", inPlace := ["slices.overlaps[ogive/api.Pair]"], unfollowed := true, recurses := true, apart := false, narrowed := true }
def HighcapLoadsUptoSaid : Prop := highcapLoadsUptoRow.holds Try.pinned (OpenSpec.upto highcapLoadsSpec)

/-- 'ogivelaw10.HighcapFinds', WHERE WHAT IT READS IS OF BULK AT MOST 1048576: true; the input reads as it did. -/
def highcapFindsUptoRow : OpenClaim := { program := "ytooojpicbbpaaaa", sum := "340174c18044bb573185520c3d8b00d4296b19dbd6b50c7fe668b0942ad4f51b", func := "ogive/ogivelaw10.HighcapFinds", spec := "highcapFinds", inPlace := ["slices.overlaps[ogive/api.Pair]"], unfollowed := true, recurses := true, apart := false, narrowed := true }
def HighcapFindsUptoSaid : Prop := highcapFindsUptoRow.holds Try.pinned (OpenSpec.upto highcapFindsSpec)

/-- 'ogivelaw10.HighcapErrors', WHERE WHAT IT READS IS OF BULK AT MOST 1048576: true; the input reads as it did. -/
def highcapErrorsUptoRow : OpenClaim := { program := "ytooojpicbbpaaaa", sum := "340174c18044bb573185520c3d8b00d4296b19dbd6b50c7fe668b0942ad4f51b", func := "ogive/ogivelaw10.HighcapErrors", spec := "highcapErrors", inPlace := ["slices.overlaps[ogive/api.Pair]"], unfollowed := true, recurses := true, apart := false, narrowed := true }
def HighcapErrorsUptoSaid : Prop := highcapErrorsUptoRow.holds Try.pinned (OpenSpec.upto highcapErrorsSpec)

end Rows
end Go.Proofs.Ytooojpicbbpaaaa
