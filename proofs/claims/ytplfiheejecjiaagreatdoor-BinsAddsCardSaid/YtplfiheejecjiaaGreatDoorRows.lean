/-
  NARROWER THAN 'FOR EVERY INPUT', by the rows' own cells (each row's printed sentence says how): BinsFinds: laid · BinsRanks: laid · BinsMerges: laid · BinsLoads: laid · BinsAdds: laid.
  DERIVED. THE GIVEN ROWS OF THIS SEAT. 5 by the template 'for every input the law returns true; each argument reads behind the call as it read before'; 0 by the template 'total and deterministic' (their statements: YtplfiheejecjiaaGreatDoorTotals.lean).
  GIVEN WITH THE SEED: the statements are not yours to turn. If you find one false, say at which input.
  Laid BY PROGRAM, IN A SANDBOX (cutbox-rows.mjs): the forced cells as the released guide's own fill.sh prints them over the translation f909cfa93ddc8de7… (all of the seat's roots in one cut). By AI agents, Wed Nov 11 2026. No macro, syntax, notation, axiom, sorry.
-/
import Derived.Test.YtplfiheejecjiaaGreatDoorChecked
import GoSem.Claim
import GoSem.ClaimJoined
import GoSem.ClaimMapViews
import Derived.JoinedTies
import Derived.KernelRfl
namespace Go.Proofs.YtplfiheejecjiaaGreatDoor
/- THE CELL 'sum', in the pinned program and in every row, IS THE sha256 OF THE DUMP (.gsa) THAT YtplfiheejecjiaaGreatDoorProg.lean LOADS. Nothing in Lean hashes anything: it is a label: what it is worth is what the hold of that sum in a sandbox is worth. -/
noncomputable def Tryz.pinned : Pinned := { name := "ytplfiheejecjiaagreatdoor", sum := "f909cfa93ddc8de761264d22c443579ad6d23dd51e90ce370905783cc016af17", checked := Tryz.checked }
namespace Rows
def none {H : Type} : Left H := { results := [], args := [] }

/- WHAT THE LISTED PACKAGE-LEVEL VARIABLES READ AS WHEN THE CALL BEGINS. Each datum BY PROGRAM (the guide's laid-datum.mjs) off the statement by which the dump's own 'gosem.cut.vars' lays the variable. In a bare row this is a premise. The card (YtplfiheejecjiaaGreatDoorCards.lean) ties it to the program's text. -/
def laid_ogive_spans_tens {H : Type} : DataW H := .agg [.lit (.int .u64 1), .lit (.int .u64 10), .lit (.int .u64 100), .lit (.int .u64 1000), .lit (.int .u64 10000)]

/-- 'ogivelaw13.BinsFinds': WHATEVER THE INPUT: true; the input reads as it did. -/
def binsFindsSpec : ChangeSpec := { name := "binsFinds", fn := fun _ => fun
  | [d1, d2] => { results := [.lit (.bool true)], args := [d1, d2] }
  | _ => none }
def binsFindsRow : OpenClaim := { program := "ytplfiheejecjiaagreatdoor", sum := "f909cfa93ddc8de761264d22c443579ad6d23dd51e90ce370905783cc016af17", func := "ogive/ogivelaw13.BinsFinds", spec := "binsFinds", unfollowed := true, recurses := true, named := ["ogive/spans.tens", "math/bits.divideError", "math/bits.overflowError"], apart := false, laid := [("ogive/spans.tens", laid_ogive_spans_tens)] }
def BinsFindsSaid : Prop := binsFindsRow.holds Tryz.pinned (OpenSpec.ofChange binsFindsSpec)

/-- ITS FALSE NEIGHBOUR: 'it returns false'. Refute it at one input. -/
def binsFindsWrong : ChangeSpec := { name := "binsFinds", fn := fun _ => fun
  | [d1, d2] => { results := [.lit (.bool false)], args := [d1, d2] }
  | _ => none }
def BinsFindsWrongFalsely : Prop := binsFindsRow.holds Tryz.pinned (OpenSpec.ofChange binsFindsWrong)

/-- 'ogivelaw13.BinsRanks': WHATEVER THE INPUT: true; the input reads as it did. -/
def binsRanksSpec : ChangeSpec := { name := "binsRanks", fn := fun _ => fun
  | [d1, d2] => { results := [.lit (.bool true)], args := [d1, d2] }
  | _ => none }
def binsRanksRow : OpenClaim := { program := "ytplfiheejecjiaagreatdoor", sum := "f909cfa93ddc8de761264d22c443579ad6d23dd51e90ce370905783cc016af17", func := "ogive/ogivelaw13.BinsRanks", spec := "binsRanks", unfollowed := true, recurses := true, named := ["ogive/spans.tens", "math/bits.divideError", "math/bits.overflowError"], apart := false, laid := [("ogive/spans.tens", laid_ogive_spans_tens)] }
def BinsRanksSaid : Prop := binsRanksRow.holds Tryz.pinned (OpenSpec.ofChange binsRanksSpec)

/-- ITS FALSE NEIGHBOUR: 'it returns false'. Refute it at one input. -/
def binsRanksWrong : ChangeSpec := { name := "binsRanks", fn := fun _ => fun
  | [d1, d2] => { results := [.lit (.bool false)], args := [d1, d2] }
  | _ => none }
def BinsRanksWrongFalsely : Prop := binsRanksRow.holds Tryz.pinned (OpenSpec.ofChange binsRanksWrong)

/-- 'ogivelaw13.BinsMerges': WHATEVER THE INPUT: true; the input reads as it did. -/
def binsMergesSpec : ChangeSpec := { name := "binsMerges", fn := fun _ => fun
  | [d1, d2, d3] => { results := [.lit (.bool true)], args := [d1, d2, d3] }
  | _ => none }
def binsMergesRow : OpenClaim := { program := "ytplfiheejecjiaagreatdoor", sum := "f909cfa93ddc8de761264d22c443579ad6d23dd51e90ce370905783cc016af17", func := "ogive/ogivelaw13.BinsMerges", spec := "binsMerges", inPlace := ["slices.overlaps[ogive/api.Pair]"], unfollowed := true, recurses := true, named := ["ogive/spans.tens", "math/bits.divideError", "math/bits.overflowError"], apart := false, laid := [("ogive/spans.tens", laid_ogive_spans_tens)] }
def BinsMergesSaid : Prop := binsMergesRow.holds Tryz.pinned (OpenSpec.ofChange binsMergesSpec)

/-- ITS FALSE NEIGHBOUR: 'it returns false'. Refute it at one input. -/
def binsMergesWrong : ChangeSpec := { name := "binsMerges", fn := fun _ => fun
  | [d1, d2, d3] => { results := [.lit (.bool false)], args := [d1, d2, d3] }
  | _ => none }
def BinsMergesWrongFalsely : Prop := binsMergesRow.holds Tryz.pinned (OpenSpec.ofChange binsMergesWrong)

/-- 'ogivelaw13.BinsLoads': WHATEVER THE INPUT: true; the input reads as it did. -/
def binsLoadsSpec : ChangeSpec := { name := "binsLoads", fn := fun _ => fun
  | [d1, d2, d3, d4, d5] => { results := [.lit (.bool true)], args := [d1, d2, d3, d4, d5] }
  | _ => none }
def binsLoadsRow : OpenClaim := { program := "ytplfiheejecjiaagreatdoor", sum := "f909cfa93ddc8de761264d22c443579ad6d23dd51e90ce370905783cc016af17", func := "ogive/ogivelaw13.BinsLoads", spec := "binsLoads", inPlace := ["slices.overlaps[ogive/api.Pair]"], unfollowed := true, recurses := true, named := ["ogive/spans.tens", "math/bits.divideError", "math/bits.overflowError"], apart := false, laid := [("ogive/spans.tens", laid_ogive_spans_tens)] }
def BinsLoadsSaid : Prop := binsLoadsRow.holds Tryz.pinned (OpenSpec.ofChange binsLoadsSpec)

/-- ITS FALSE NEIGHBOUR: 'it returns false'. Refute it at one input. -/
def binsLoadsWrong : ChangeSpec := { name := "binsLoads", fn := fun _ => fun
  | [d1, d2, d3, d4, d5] => { results := [.lit (.bool false)], args := [d1, d2, d3, d4, d5] }
  | _ => none }
def BinsLoadsWrongFalsely : Prop := binsLoadsRow.holds Tryz.pinned (OpenSpec.ofChange binsLoadsWrong)

/-- 'ogivelaw13.BinsAdds': WHATEVER THE INPUT: true; the input reads as it did. -/
def binsAddsSpec : ChangeSpec := { name := "binsAdds", fn := fun _ => fun
  | [d] => { results := [.lit (.bool true)], args := [d] }
  | _ => none }
def binsAddsRow : OpenClaim := { program := "ytplfiheejecjiaagreatdoor", sum := "f909cfa93ddc8de761264d22c443579ad6d23dd51e90ce370905783cc016af17", func := "ogive/ogivelaw13.BinsAdds", spec := "binsAdds", inPlace := ["slices.overlaps[ogive/api.Pair]"], unfollowed := true, recurses := true, named := ["ogive/spans.tens", "math/bits.divideError", "math/bits.overflowError"], apart := false, laid := [("ogive/spans.tens", laid_ogive_spans_tens)] }
def BinsAddsSaid : Prop := binsAddsRow.holds Tryz.pinned (OpenSpec.ofChange binsAddsSpec)

/-- ITS FALSE NEIGHBOUR: 'it returns false'. Refute it at one input. -/
def binsAddsWrong : ChangeSpec := { name := "binsAdds", fn := fun _ => fun
  | [d] => { results := [.lit (.bool false)], args := [d] }
  | _ => none }
def BinsAddsWrongFalsely : Prop := binsAddsRow.holds Tryz.pinned (OpenSpec.ofChange binsAddsWrong)

/- THE SECOND FORM. 'bulk': how many values and letters a reading holds, each counted each time it is reached (what is shared counts as often as it is met; a slice's spare places count too). A statement '..UptoSaid' is the law's where the arguments, and the package variables that the reading takes, are together of bulk at most 1048576: NARROWER than '..Said'. Prove '..Said' where nothing that the law and all that it calls make is longer than what came in: it says more and counts as full. Else prove '..UptoSaid'. A law counts once. -/
mutual
def uptoBulk {H : Type} : DataW H → Nat
  | .lit (.string bytes) => bytes.length + 1
  | .lit _ => 1
  | .nil => 1
  | .ptr d => uptoBulk d + 1
  | .slice elems spare => uptoBulkAll elems + uptoBulkAll spare + 1
  | .agg parts => uptoBulkAll parts + 1
  | .iface _ d => uptoBulk d + 1
  | .map entries => uptoBulkEntries entries + 1
  | .held _ => 1
def uptoBulkAll {H : Type} : List (DataW H) → Nat
  | [] => 0
  | d :: r => uptoBulk d + uptoBulkAll r
def uptoBulkEntries {H : Type} : List (Lit × DataW H) → Nat
  | [] => 0
  | x :: r => uptoBulkEntry x + uptoBulkEntries r
def uptoBulkEntry {H : Type} : Lit × DataW H → Nat
  | (.string bytes, d) => bytes.length + uptoBulk d + 1
  | (_, d) => uptoBulk d + 1
 end
def uptoSmall : (H : Type) → List (DataW H) → Bool := fun _ ds => decide (uptoBulkAll ds ≤ 1048576)
def OpenSpec.upto (s : _root_.Go.ChangeSpec) : _root_.Go.OpenSpec := { _root_.Go.OpenSpec.ofChange s with cond := some uptoSmall }

/-- 'ogivelaw13.BinsFinds', WHERE WHAT IT READS IS OF BULK AT MOST 1048576: true; the input reads as it did. -/
def binsFindsUptoRow : OpenClaim := { program := "ytplfiheejecjiaagreatdoor", sum := "f909cfa93ddc8de761264d22c443579ad6d23dd51e90ce370905783cc016af17", func := "ogive/ogivelaw13.BinsFinds", spec := "binsFinds", unfollowed := true, recurses := true, named := ["ogive/spans.tens", "math/bits.divideError", "math/bits.overflowError"], apart := false, laid := [("ogive/spans.tens", laid_ogive_spans_tens)], narrowed := true }
def BinsFindsUptoSaid : Prop := binsFindsUptoRow.holds Tryz.pinned (OpenSpec.upto binsFindsSpec)

/-- 'ogivelaw13.BinsRanks', WHERE WHAT IT READS IS OF BULK AT MOST 1048576: true; the input reads as it did. -/
def binsRanksUptoRow : OpenClaim := { program := "ytplfiheejecjiaagreatdoor", sum := "f909cfa93ddc8de761264d22c443579ad6d23dd51e90ce370905783cc016af17", func := "ogive/ogivelaw13.BinsRanks", spec := "binsRanks", unfollowed := true, recurses := true, named := ["ogive/spans.tens", "math/bits.divideError", "math/bits.overflowError"], apart := false, laid := [("ogive/spans.tens", laid_ogive_spans_tens)], narrowed := true }
def BinsRanksUptoSaid : Prop := binsRanksUptoRow.holds Tryz.pinned (OpenSpec.upto binsRanksSpec)

/-- 'ogivelaw13.BinsMerges', WHERE WHAT IT READS IS OF BULK AT MOST 1048576: true; the input reads as it did. -/
def binsMergesUptoRow : OpenClaim := { program := "ytplfiheejecjiaagreatdoor", sum := "f909cfa93ddc8de761264d22c443579ad6d23dd51e90ce370905783cc016af17", func := "ogive/ogivelaw13.BinsMerges", spec := "binsMerges", inPlace := ["slices.overlaps[ogive/api.Pair]"], unfollowed := true, recurses := true, named := ["ogive/spans.tens", "math/bits.divideError", "math/bits.overflowError"], apart := false, laid := [("ogive/spans.tens", laid_ogive_spans_tens)], narrowed := true }
def BinsMergesUptoSaid : Prop := binsMergesUptoRow.holds Tryz.pinned (OpenSpec.upto binsMergesSpec)

/-- 'ogivelaw13.BinsLoads', WHERE WHAT IT READS IS OF BULK AT MOST 1048576: true; the input reads as it did. -/
def binsLoadsUptoRow : OpenClaim := { program := "ytplfiheejecjiaagreatdoor", sum := "f909cfa93ddc8de761264d22c443579ad6d23dd51e90ce370905783cc016af17", func := "ogive/ogivelaw13.BinsLoads", spec := "binsLoads", inPlace := ["slices.overlaps[ogive/api.Pair]"], unfollowed := true, recurses := true, named := ["ogive/spans.tens", "math/bits.divideError", "math/bits.overflowError"], apart := false, laid := [("ogive/spans.tens", laid_ogive_spans_tens)], narrowed := true }
def BinsLoadsUptoSaid : Prop := binsLoadsUptoRow.holds Tryz.pinned (OpenSpec.upto binsLoadsSpec)

/-- 'ogivelaw13.BinsAdds', WHERE WHAT IT READS IS OF BULK AT MOST 1048576: true; the input reads as it did. -/
def binsAddsUptoRow : OpenClaim := { program := "ytplfiheejecjiaagreatdoor", sum := "f909cfa93ddc8de761264d22c443579ad6d23dd51e90ce370905783cc016af17", func := "ogive/ogivelaw13.BinsAdds", spec := "binsAdds", inPlace := ["slices.overlaps[ogive/api.Pair]"], unfollowed := true, recurses := true, named := ["ogive/spans.tens", "math/bits.divideError", "math/bits.overflowError"], apart := false, laid := [("ogive/spans.tens", laid_ogive_spans_tens)], narrowed := true }
def BinsAddsUptoSaid : Prop := binsAddsUptoRow.holds Tryz.pinned (OpenSpec.upto binsAddsSpec)

end Rows
end Go.Proofs.YtplfiheejecjiaaGreatDoor
