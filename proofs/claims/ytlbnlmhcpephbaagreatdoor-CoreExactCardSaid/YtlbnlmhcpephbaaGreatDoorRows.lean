/-
  NARROWER THAN 'FOR EVERY INPUT', by the rows' own cells (each row's printed sentence says how): CoreRelative: laid · CoreKept: laid · CorePlaces: laid · CoreExact: laid.
  DERIVED. THE GIVEN ROWS OF THIS SEAT. 4 by the template 'for every input the law returns true; each argument reads behind the call as it read before'; 0 by the template 'total and deterministic' (their statements: YtlbnlmhcpephbaaGreatDoorTotals.lean).
  GIVEN WITH THE SEED: the statements are not yours to turn. If you find one false, say at which input.
  Laid BY PROGRAM, IN A SANDBOX (cutbox-rows.mjs): the forced cells as the released guide's own fill.sh prints them over the translation db58a6cd4b5e02ae… (all of the seat's roots in one cut). By AI agents, Wed Nov 11 2026. No macro, syntax, notation, axiom, sorry.
-/
import Derived.Test.YtlbnlmhcpephbaaGreatDoorChecked
import GoSem.Claim
import GoSem.ClaimJoined
import GoSem.ClaimMapViews
import Derived.JoinedTies
import Derived.KernelRfl
namespace Go.Proofs.YtlbnlmhcpephbaaGreatDoor
/- THE CELL 'sum', in the pinned program and in every row, IS THE sha256 OF THE DUMP (.gsa) THAT YtlbnlmhcpephbaaGreatDoorProg.lean LOADS. Nothing in Lean hashes anything: it is a label: what it is worth is what the hold of that sum in a sandbox is worth. -/
noncomputable def Tryz.pinned : Pinned := { name := "ytlbnlmhcpephbaagreatdoor", sum := "db58a6cd4b5e02aeb02229c370e96598ad4bccdb391bd3a50de748145d4ee4d3", checked := Tryz.checked }
namespace Rows
def none {H : Type} : Left H := { results := [], args := [] }

/- WHAT THE LISTED PACKAGE-LEVEL VARIABLES READ AS WHEN THE CALL BEGINS. Each datum BY PROGRAM (the guide's laid-datum.mjs) off the statement by which the dump's own 'gosem.cut.vars' lays the variable. In a bare row this is a premise. The card (YtlbnlmhcpephbaaGreatDoorCards.lean) ties it to the program's text. -/
def laid_ogive_spans_tens {H : Type} : DataW H := .agg [.lit (.int .u64 1), .lit (.int .u64 10), .lit (.int .u64 100), .lit (.int .u64 1000), .lit (.int .u64 10000)]

/-- 'ogivetop.CoreRelative': WHATEVER THE INPUT: true; the input reads as it did. -/
def coreRelativeSpec : ChangeSpec := { name := "coreRelative", fn := fun _ => fun
  | [d1, d2, d3, d4] => { results := [.lit (.bool true)], args := [d1, d2, d3, d4] }
  | _ => none }
def coreRelativeRow : OpenClaim := { program := "ytlbnlmhcpephbaagreatdoor", sum := "db58a6cd4b5e02aeb02229c370e96598ad4bccdb391bd3a50de748145d4ee4d3", func := "ogive/ogivetop.CoreRelative", spec := "coreRelative", inPlace := ["slices.overlaps[ogive/api.Pair]"], unfollowed := true, recurses := true, named := ["math/bits.divideError", "math/bits.overflowError", "ogive/spans.tens"], apart := false, laid := [("ogive/spans.tens", laid_ogive_spans_tens)] }
def CoreRelativeSaid : Prop := coreRelativeRow.holds Tryz.pinned (OpenSpec.ofChange coreRelativeSpec)

/-- ITS FALSE NEIGHBOUR: 'it returns false'. Refute it at one input. -/
def coreRelativeWrong : ChangeSpec := { name := "coreRelative", fn := fun _ => fun
  | [d1, d2, d3, d4] => { results := [.lit (.bool false)], args := [d1, d2, d3, d4] }
  | _ => none }
def CoreRelativeWrongFalsely : Prop := coreRelativeRow.holds Tryz.pinned (OpenSpec.ofChange coreRelativeWrong)

/-- 'ogivetop.CoreKept': WHATEVER THE INPUT: true; the input reads as it did. -/
def coreKeptSpec : ChangeSpec := { name := "coreKept", fn := fun _ => fun
  | [d1, d2, d3, d4] => { results := [.lit (.bool true)], args := [d1, d2, d3, d4] }
  | _ => none }
def coreKeptRow : OpenClaim := { program := "ytlbnlmhcpephbaagreatdoor", sum := "db58a6cd4b5e02aeb02229c370e96598ad4bccdb391bd3a50de748145d4ee4d3", func := "ogive/ogivetop.CoreKept", spec := "coreKept", inPlace := ["slices.overlaps[ogive/api.Pair]"], unfollowed := true, recurses := true, named := ["math/bits.divideError", "math/bits.overflowError", "ogive/spans.tens"], apart := false, laid := [("ogive/spans.tens", laid_ogive_spans_tens)] }
def CoreKeptSaid : Prop := coreKeptRow.holds Tryz.pinned (OpenSpec.ofChange coreKeptSpec)

/-- ITS FALSE NEIGHBOUR: 'it returns false'. Refute it at one input. -/
def coreKeptWrong : ChangeSpec := { name := "coreKept", fn := fun _ => fun
  | [d1, d2, d3, d4] => { results := [.lit (.bool false)], args := [d1, d2, d3, d4] }
  | _ => none }
def CoreKeptWrongFalsely : Prop := coreKeptRow.holds Tryz.pinned (OpenSpec.ofChange coreKeptWrong)

/-- 'ogivetop.CorePlaces': WHATEVER THE INPUT: true; the input reads as it did. -/
def corePlacesSpec : ChangeSpec := { name := "corePlaces", fn := fun _ => fun
  | [d1, d2, d3, d4] => { results := [.lit (.bool true)], args := [d1, d2, d3, d4] }
  | _ => none }
def corePlacesRow : OpenClaim := { program := "ytlbnlmhcpephbaagreatdoor", sum := "db58a6cd4b5e02aeb02229c370e96598ad4bccdb391bd3a50de748145d4ee4d3", func := "ogive/ogivetop.CorePlaces", spec := "corePlaces", inPlace := ["slices.overlaps[ogive/api.Pair]"], unfollowed := true, recurses := true, named := ["math/bits.divideError", "math/bits.overflowError", "ogive/spans.tens"], apart := false, laid := [("ogive/spans.tens", laid_ogive_spans_tens)] }
def CorePlacesSaid : Prop := corePlacesRow.holds Tryz.pinned (OpenSpec.ofChange corePlacesSpec)

/-- ITS FALSE NEIGHBOUR: 'it returns false'. Refute it at one input. -/
def corePlacesWrong : ChangeSpec := { name := "corePlaces", fn := fun _ => fun
  | [d1, d2, d3, d4] => { results := [.lit (.bool false)], args := [d1, d2, d3, d4] }
  | _ => none }
def CorePlacesWrongFalsely : Prop := corePlacesRow.holds Tryz.pinned (OpenSpec.ofChange corePlacesWrong)

/-- 'ogivetop.CoreExact': WHATEVER THE INPUT: true; the input reads as it did. -/
def coreExactSpec : ChangeSpec := { name := "coreExact", fn := fun _ => fun
  | [d1, d2, d3] => { results := [.lit (.bool true)], args := [d1, d2, d3] }
  | _ => none }
def coreExactRow : OpenClaim := { program := "ytlbnlmhcpephbaagreatdoor", sum := "db58a6cd4b5e02aeb02229c370e96598ad4bccdb391bd3a50de748145d4ee4d3", func := "ogive/ogivetop.CoreExact", spec := "coreExact", inPlace := ["slices.overlaps[ogive/api.Pair]"], unfollowed := true, recurses := true, named := ["math/bits.divideError", "math/bits.overflowError", "ogive/spans.tens"], apart := false, laid := [("ogive/spans.tens", laid_ogive_spans_tens)] }
def CoreExactSaid : Prop := coreExactRow.holds Tryz.pinned (OpenSpec.ofChange coreExactSpec)

/-- ITS FALSE NEIGHBOUR: 'it returns false'. Refute it at one input. -/
def coreExactWrong : ChangeSpec := { name := "coreExact", fn := fun _ => fun
  | [d1, d2, d3] => { results := [.lit (.bool false)], args := [d1, d2, d3] }
  | _ => none }
def CoreExactWrongFalsely : Prop := coreExactRow.holds Tryz.pinned (OpenSpec.ofChange coreExactWrong)

/- THE SECOND FORM. 'bulk': how many values and letters a reading holds, each counted each time it is reached (what is shared counts as often as it is met; a slice's spare places count too). A statement '..UptoSaid' is the law's where the arguments, and the package variables that the reading takes, are together of bulk at most 1048576: NARROWER than '..Said'. Prove '..Said' where nothing that the law and all that it calls make is longer than what came in: it says more and counts as full. Else prove '..UptoSaid'. A law counts once. -/
mutual
def uptoBulk {H : Type} : DataW H → Nat
  | .lit (.string bytes) => bytes.length + 1
  | .lit _ => 1
  | .nil => 1
  | .ptr d => uptoBulk d + 1
  | .slice elems spare => uptoBulkAll elems + uptoBulkAll spare + 1
  | .agg parts => uptoBulkAll parts + 1
  | .iface _ d => uptoBulk d + 1
  | .map entries => uptoBulkEntries entries + 1
  | .held _ => 1
def uptoBulkAll {H : Type} : List (DataW H) → Nat
  | [] => 0
  | d :: r => uptoBulk d + uptoBulkAll r
def uptoBulkEntries {H : Type} : List (Lit × DataW H) → Nat
  | [] => 0
  | x :: r => uptoBulkEntry x + uptoBulkEntries r
def uptoBulkEntry {H : Type} : Lit × DataW H → Nat
  | (.string bytes, d) => bytes.length + uptoBulk d + 1
  | (_, d) => uptoBulk d + 1
 end
def uptoSmall : (H : Type) → List (DataW H) → Bool := fun _ ds => decide (uptoBulkAll ds ≤ 1048576)
def OpenSpec.upto (s : _root_.Go.ChangeSpec) : _root_.Go.OpenSpec := { _root_.Go.OpenSpec.ofChange s with cond := some uptoSmall }

/-- 'ogivetop.CoreRelative', WHERE WHAT IT READS IS OF BULK AT MOST 1048576: true; the input reads as it did. -/
def coreRelativeUptoRow : OpenClaim := { program := "ytlbnlmhcpephbaagreatdoor", sum := "db58a6cd4b5e02aeb02229c370e96598ad4bccdb391bd3a50de748145d4ee4d3", func := "ogive/ogivetop.CoreRelative", spec := "coreRelative", inPlace := ["slices.overlaps[ogive/api.Pair]"], unfollowed := true, recurses := true, named := ["math/bits.divideError", "math/bits.overflowError", "ogive/spans.tens"], apart := false, laid := [("ogive/spans.tens", laid_ogive_spans_tens)], narrowed := true }
def CoreRelativeUptoSaid : Prop := coreRelativeUptoRow.holds Tryz.pinned (OpenSpec.upto coreRelativeSpec)

/-- 'ogivetop.CoreKept', WHERE WHAT IT READS IS OF BULK AT MOST 1048576: true; the input reads as it did. -/
def coreKeptUptoRow : OpenClaim := { program := "ytlbnlmhcpephbaagreatdoor", sum := "db58a6cd4b5e02aeb02229c370e96598ad4bccdb391bd3a50de748145d4ee4d3", func := "ogive/ogivetop.CoreKept", spec := "coreKept", inPlace := ["slices.overlaps[ogive/api.Pair]"], unfollowed := true, recurses := true, named := ["math/bits.divideError", "math/bits.overflowError", "ogive/spans.tens"], apart := false, laid := [("ogive/spans.tens", laid_ogive_spans_tens)], narrowed := true }
def CoreKeptUptoSaid : Prop := coreKeptUptoRow.holds Tryz.pinned (OpenSpec.upto coreKeptSpec)

/-- 'ogivetop.CorePlaces', WHERE WHAT IT READS IS OF BULK AT MOST 1048576: true; the input reads as it did. -/
def corePlacesUptoRow : OpenClaim := { program := "ytlbnlmhcpephbaagreatdoor", sum := "db58a6cd4b5e02aeb02229c370e96598ad4bccdb391bd3a50de748145d4ee4d3", func := "ogive/ogivetop.CorePlaces", spec := "corePlaces", inPlace := ["slices.overlaps[ogive/api.Pair]"], unfollowed := true, recurses := true, named := ["math/bits.divideError", "math/bits.overflowError", "ogive/spans.tens"], apart := false, laid := [("ogive/spans.tens", laid_ogive_spans_tens)], narrowed := true }
def CorePlacesUptoSaid : Prop := corePlacesUptoRow.holds Tryz.pinned (OpenSpec.upto corePlacesSpec)

/-- 'ogivetop.CoreExact', WHERE WHAT IT READS IS OF BULK AT MOST 1048576: true; the input reads as it did. -/
def coreExactUptoRow : OpenClaim := { program := "ytlbnlmhcpephbaagreatdoor", sum := "db58a6cd4b5e02aeb02229c370e96598ad4bccdb391bd3a50de748145d4ee4d3", func := "ogive/ogivetop.CoreExact", spec := "coreExact", inPlace := ["slices.overlaps[ogive/api.Pair]"], unfollowed := true, recurses := true, named := ["math/bits.divideError", "math/bits.overflowError", "ogive/spans.tens"], apart := false, laid := [("ogive/spans.tens", laid_ogive_spans_tens)], narrowed := true }
def CoreExactUptoSaid : Prop := coreExactUptoRow.holds Tryz.pinned (OpenSpec.upto coreExactSpec)

end Rows
end Go.Proofs.YtlbnlmhcpephbaaGreatDoor
