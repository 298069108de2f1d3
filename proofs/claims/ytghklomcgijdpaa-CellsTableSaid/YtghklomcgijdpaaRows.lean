/-
  No cell of these rows narrows 'for every input' (looked for: loops, veiled, ifaces, maps, wideKeys, modest, calm, conditions, laid).
  DERIVED. THE GIVEN ROWS OF THIS SEAT. 5 by the template 'for every input the law returns true; each argument reads behind the call as it read before'; 0 by the template 'total and deterministic' (their statements: YtghklomcgijdpaaTotals.lean).
  GIVEN WITH THE SEED: the statements are not yours to turn. If you find one false, say at which input.
  Laid BY PROGRAM, IN A SANDBOX (cutbox-rows.mjs): the forced cells as the released guide's own fill.sh prints them over the translation 4a479338e7f716cb… (all of the seat's roots in one cut). By AI agents, Wed Nov 11 2026. No macro, syntax, notation, axiom, sorry.
-/
import Derived.Test.YtghklomcgijdpaaChecked
import GoSem.Claim
import GoSem.ClaimJoined
import GoSem.ClaimMapViews
import Derived.JoinedTies
import Derived.KernelRfl
namespace Go.Proofs.Ytghklomcgijdpaa
/- THE CELL 'sum', in the pinned program and in every row, IS THE sha256 OF THE DUMP (.gsa) THAT YtghklomcgijdpaaProg.lean LOADS. Nothing in Lean hashes anything: it is a label: what it is worth is what the hold of that sum in a sandbox is worth. -/
noncomputable def Try.pinned : Pinned := { name := "ytghklomcgijdpaa", sum := "4a479338e7f716cb1c5aaaa1cd5d31ce572c7a9f5278047523c1deb1e9d2619b", checked := Try.checked }
namespace Rows
def none {H : Type} : Left H := { results := [], args := [] }

/-- 'ogivelaw11.CellsFewer': WHATEVER THE INPUT: true; the input reads as it did. -/
def cellsFewerSpec : ChangeSpec := { name := "cellsFewer", fn := fun _ => fun
  | [d1, d2, d3, d4] => { results := [.lit (.bool true)], args := [d1, d2, d3, d4] }
  | _ => none }
def cellsFewerRow : OpenClaim := { program := "ytghklomcgijdpaa", sum := "4a479338e7f716cb1c5aaaa1cd5d31ce572c7a9f5278047523c1deb1e9d2619b", func := "ogive/ogivelaw11.CellsFewer", spec := "cellsFewer", named := ["math/bits.divideError", "math/bits.overflowError"], apart := false }
def CellsFewerSaid : Prop := cellsFewerRow.holds Try.pinned (OpenSpec.ofChange cellsFewerSpec)

/-- ITS FALSE NEIGHBOUR: 'it returns false'. Refute it at one input. -/
def cellsFewerWrong : ChangeSpec := { name := "cellsFewer", fn := fun _ => fun
  | [d1, d2, d3, d4] => { results := [.lit (.bool false)], args := [d1, d2, d3, d4] }
  | _ => none }
def CellsFewerWrongFalsely : Prop := cellsFewerRow.holds Try.pinned (OpenSpec.ofChange cellsFewerWrong)

/-- 'ogivelaw11.CellsClose': WHATEVER THE INPUT: true; the input reads as it did. -/
def cellsCloseSpec : ChangeSpec := { name := "cellsClose", fn := fun _ => fun
  | [d1, d2] => { results := [.lit (.bool true)], args := [d1, d2] }
  | _ => none }
def cellsCloseRow : OpenClaim := { program := "ytghklomcgijdpaa", sum := "4a479338e7f716cb1c5aaaa1cd5d31ce572c7a9f5278047523c1deb1e9d2619b", func := "ogive/ogivelaw11.CellsClose", spec := "cellsClose", named := ["math/bits.divideError", "math/bits.overflowError"], apart := false }
def CellsCloseSaid : Prop := cellsCloseRow.holds Try.pinned (OpenSpec.ofChange cellsCloseSpec)

/-- ITS FALSE NEIGHBOUR: 'it returns false'. Refute it at one input. -/
def cellsCloseWrong : ChangeSpec := { name := "cellsClose", fn := fun _ => fun
  | [d1, d2] => { results := [.lit (.bool false)], args := [d1, d2] }
  | _ => none }
def CellsCloseWrongFalsely : Prop := cellsCloseRow.holds Try.pinned (OpenSpec.ofChange cellsCloseWrong)

/-- 'ogivelaw11.CellsEnds': WHATEVER THE INPUT: true; the input reads as it did. -/
def cellsEndsSpec : ChangeSpec := { name := "cellsEnds", fn := fun _ => fun
  | [d1, d2] => { results := [.lit (.bool true)], args := [d1, d2] }
  | _ => none }
def cellsEndsRow : OpenClaim := { program := "ytghklomcgijdpaa", sum := "4a479338e7f716cb1c5aaaa1cd5d31ce572c7a9f5278047523c1deb1e9d2619b", func := "ogive/ogivelaw11.CellsEnds", spec := "cellsEnds", named := ["math/bits.divideError", "math/bits.overflowError"], apart := false }
def CellsEndsSaid : Prop := cellsEndsRow.holds Try.pinned (OpenSpec.ofChange cellsEndsSpec)

/-- ITS FALSE NEIGHBOUR: 'it returns false'. Refute it at one input. -/
def cellsEndsWrong : ChangeSpec := { name := "cellsEnds", fn := fun _ => fun
  | [d1, d2] => { results := [.lit (.bool false)], args := [d1, d2] }
  | _ => none }
def CellsEndsWrongFalsely : Prop := cellsEndsRow.holds Try.pinned (OpenSpec.ofChange cellsEndsWrong)

/-- 'ogivelaw11.CellsTable': WHATEVER THE INPUT: true; the input reads as it did. -/
def cellsTableSpec : ChangeSpec := { name := "cellsTable", fn := fun _ => fun
  | [d] => { results := [.lit (.bool true)], args := [d] }
  | _ => none }
def cellsTableRow : OpenClaim := { program := "ytghklomcgijdpaa", sum := "4a479338e7f716cb1c5aaaa1cd5d31ce572c7a9f5278047523c1deb1e9d2619b", func := "ogive/ogivelaw11.CellsTable", spec := "cellsTable", named := ["math/bits.divideError", "math/bits.overflowError"], apart := false }
def CellsTableSaid : Prop := cellsTableRow.holds Try.pinned (OpenSpec.ofChange cellsTableSpec)

/-- ITS FALSE NEIGHBOUR: 'it returns false'. Refute it at one input. -/
def cellsTableWrong : ChangeSpec := { name := "cellsTable", fn := fun _ => fun
  | [d] => { results := [.lit (.bool false)], args := [d] }
  | _ => none }
def CellsTableWrongFalsely : Prop := cellsTableRow.holds Try.pinned (OpenSpec.ofChange cellsTableWrong)

/-- 'ogivelaw11.CellsNil': WHATEVER THE INPUT: true; the input reads as it did. -/
def cellsNilSpec : ChangeSpec := { name := "cellsNil", fn := fun _ => fun
  | [d1, d2] => { results := [.lit (.bool true)], args := [d1, d2] }
  | _ => none }
def cellsNilRow : OpenClaim := { program := "ytghklomcgijdpaa", sum := "4a479338e7f716cb1c5aaaa1cd5d31ce572c7a9f5278047523c1deb1e9d2619b", func := "ogive/ogivelaw11.CellsNil", spec := "cellsNil", named := ["math/bits.divideError", "math/bits.overflowError"], apart := false }
def CellsNilSaid : Prop := cellsNilRow.holds Try.pinned (OpenSpec.ofChange cellsNilSpec)

/-- ITS FALSE NEIGHBOUR: 'it returns false'. Refute it at one input. -/
def cellsNilWrong : ChangeSpec := { name := "cellsNil", fn := fun _ => fun
  | [d1, d2] => { results := [.lit (.bool false)], args := [d1, d2] }
  | _ => none }
def CellsNilWrongFalsely : Prop := cellsNilRow.holds Try.pinned (OpenSpec.ofChange cellsNilWrong)

/- THE SECOND FORM. 'bulk': how many values and letters a reading holds, each counted each time it is reached (what is shared counts as often as it is met; a slice's spare places count too). A statement '..UptoSaid' is the law's where the arguments, and the package variables that the reading takes, are together of bulk at most 1048576: NARROWER than '..Said'. Prove '..Said' where nothing that the law and all that it calls make is longer than what came in: it says more and counts as full. Else prove '..UptoSaid'. A law counts once. -/
mutual
def uptoBulk {H : Type} : DataW H → Nat
  | .lit (.string bytes) => bytes.length + 1
  | .lit _ => 1
  | .nil => 1
  | .ptr d => uptoBulk d + 1
  | .slice elems spare => uptoBulkAll elems + uptoBulkAll spare + 1
  | .agg parts => uptoBulkAll parts + 1
  | .iface _ d => uptoBulk d + 1
  | .map entries => uptoBulkEntries entries + 1
  | .held _ => 1
def uptoBulkAll {H : Type} : List (DataW H) → Nat
  | [] => 0
  | d :: r => uptoBulk d + uptoBulkAll r
def uptoBulkEntries {H : Type} : List (Lit × DataW H) → Nat
  | [] => 0
  | x :: r => uptoBulkEntry x + uptoBulkEntries r
def uptoBulkEntry {H : Type} : Lit × DataW H → Nat
  | (.string bytes, d) => bytes.length + uptoBulk d + 1
  | (_, d) => uptoBulk d + 1
 end
def uptoSmall : (H : Type) → List (DataW H) → Bool := fun _ ds => decide (uptoBulkAll ds ≤ 1048576)
def OpenSpec.upto (s : _root_.Go.ChangeSpec) : _root_.Go.OpenSpec := { _root_.Go.OpenSpec.ofChange s with cond := some uptoSmall }

/-- 'ogivelaw11.CellsFewer', WHERE WHAT IT READS IS OF BULK AT MOST 1048576: true; the input reads as it did. -/
def cellsFewerUptoRow : OpenClaim := { program := "ytghklomcgijdpaa", sum := "4a479338e7f716cb1c5aaaa1cd5d31ce572c7a9f5278047523c1deb1e9d2619b", func := "ogive/ogivelaw11.CellsFewer", spec := "cellsFewer", named := ["math/bits.divideError", "math/bits.overflowError"], apart := false, narrowed := true }
def CellsFewerUptoSaid : Prop := cellsFewerUptoRow.holds Try.pinned (OpenSpec.upto cellsFewerSpec)

/-- 'ogivelaw11.CellsClose', WHERE WHAT IT READS IS OF BULK AT MOST 1048576: true; the input reads as it did. -/
def cellsCloseUptoRow : OpenClaim := { program := "ytghklomcgijdpaa", sum := "4a479338e7f716cb1c5aaaa1cd5d31ce572c7a9f5278047523c1deb1e9d2619b", func := "ogive/ogivelaw11.CellsClose", spec := "cellsClose", named := ["math/bits.divideError", "math/bits.overflowError"], apart := false, narrowed := true }
def CellsCloseUptoSaid : Prop := cellsCloseUptoRow.holds Try.pinned (OpenSpec.upto cellsCloseSpec)

/-- 'ogivelaw11.CellsEnds', WHERE WHAT IT READS IS OF BULK AT MOST 1048576: true; the input reads as it did. -/
def cellsEndsUptoRow : OpenClaim := { program := "ytghklomcgijdpaa", sum := "4a479338e7f716cb1c5aaaa1cd5d31ce572c7a9f5278047523c1deb1e9d2619b", func := "ogive/ogivelaw11.CellsEnds", spec := "cellsEnds", named := ["math/bits.divideError", "math/bits.overflowError"], apart := false, narrowed := true }
def CellsEndsUptoSaid : Prop := cellsEndsUptoRow.holds Try.pinned (OpenSpec.upto cellsEndsSpec)

/-- 'ogivelaw11.CellsTable', WHERE WHAT IT READS IS OF BULK AT MOST 1048576: true; the input reads as it did. -/
def cellsTableUptoRow : OpenClaim := { program := "ytghklomcgijdpaa", sum := "4a479338e7f716cb1c5aaaa1cd5d31ce572c7a9f5278047523c1deb1e9d2619b", func := "ogive/ogivelaw11.CellsTable", spec := "cellsTable", named := ["math/bits.divideError", "math/bits.overflowError"], apart := false, narrowed := true }
def CellsTableUptoSaid : Prop := cellsTableUptoRow.holds Try.pinned (OpenSpec.upto cellsTableSpec)

/-- 'ogivelaw11.CellsNil', WHERE WHAT IT READS IS OF BULK AT MOST 1048576: true; the input reads as it did. -/
def cellsNilUptoRow : OpenClaim := { program := "ytghklomcgijdpaa", sum := "4a479338e7f716cb1c5aaaa1cd5d31ce572c7a9f5278047523c1deb1e9d2619b", func := "ogive/ogivelaw11.CellsNil", spec := "cellsNil", named := ["math/bits.divideError", "math/bits.overflowError"], apart := false, narrowed := true }
def CellsNilUptoSaid : Prop := cellsNilUptoRow.holds Try.pinned (OpenSpec.upto cellsNilSpec)

end Rows
end Go.Proofs.Ytghklomcgijdpaa
