/-
  NARROWER THAN 'FOR EVERY INPUT', by the rows' own cells (each row's printed sentence says how): HdrClose: laid · HdrLike: laid · HdrLoads: laid · HdrDoes: laid · HdrJoins: laid · HdrErrors: laid.
  DERIVED. THE GIVEN ROWS OF THIS SEAT. 6 by the template 'for every input the law returns true; each argument reads behind the call as it read before'; 0 by the template 'total and deterministic' (their statements: YtnkkdciecjhpoaaDoorTotals.lean).
  GIVEN WITH THE SEED: the statements are not yours to turn. If you find one false, say at which input.
  Laid BY PROGRAM, IN A SANDBOX (cutbox-rows.mjs): the forced cells as the released guide's own fill.sh prints them over the translation 9f81fcb97ec4dbbc… (all of the seat's roots in one cut). By AI agents, Wed Nov 11 2026. No macro, syntax, notation, axiom, sorry.
-/
import Derived.Test.YtnkkdciecjhpoaaDoorChecked
import GoSem.Claim
import GoSem.ClaimJoined
import GoSem.ClaimMapViews
import Derived.JoinedTies
import Derived.KernelRfl
namespace Go.Proofs.YtnkkdciecjhpoaaDoor
/- THE CELL 'sum', in the pinned program and in every row, IS THE sha256 OF THE DUMP (.gsa) THAT YtnkkdciecjhpoaaDoorProg.lean LOADS. Nothing in Lean hashes anything: it is a label: what it is worth is what the hold of that sum in a sandbox is worth. -/
noncomputable def Tryd.pinned : Pinned := { name := "ytnkkdciecjhpoaadoor", sum := "9f81fcb97ec4dbbcfc8883908fb261c019a4bb9350b4311f5f11c16c5cc5c0fc", checked := Tryd.checked }
namespace Rows
def none {H : Type} : Left H := { results := [], args := [] }

/- WHAT THE LISTED PACKAGE-LEVEL VARIABLES READ AS WHEN THE CALL BEGINS. Each datum BY PROGRAM (the guide's laid-datum.mjs) off the statement by which the dump's own 'gosem.cut.vars' lays the variable. In a bare row this is a premise. The card (YtnkkdciecjhpoaaDoorCards.lean) ties it to the program's text. -/
def laid_ogive_spans_tens {H : Type} : DataW H := .agg [.lit (.int .u64 1), .lit (.int .u64 10), .lit (.int .u64 100), .lit (.int .u64 1000), .lit (.int .u64 10000)]

/-- 'ogivelaw15.HdrClose': WHATEVER THE INPUT: true; the input reads as it did. -/
def hdrCloseSpec : ChangeSpec := { name := "hdrClose", fn := fun _ => fun
  | [d1, d2, d3] => { results := [.lit (.bool true)], args := [d1, d2, d3] }
  | _ => none }
def hdrCloseRow : OpenClaim := { program := "ytnkkdciecjhpoaadoor", sum := "9f81fcb97ec4dbbcfc8883908fb261c019a4bb9350b4311f5f11c16c5cc5c0fc", func := "ogive/ogivelaw15.HdrClose", spec := "hdrClose", inPlace := ["slices.overlaps[ogive/api.Pair]", "math/bits.Add64"], unfollowed := true, recurses := true, named := ["ogive/spans.tens", "math/bits.divideError", "math/bits.overflowError"], apart := false, laid := [("ogive/spans.tens", laid_ogive_spans_tens)] }
def HdrCloseSaid : Prop := hdrCloseRow.holds Tryd.pinned (OpenSpec.ofChange hdrCloseSpec)

/-- ITS FALSE NEIGHBOUR: 'it returns false'. Refute it at one input. -/
def hdrCloseWrong : ChangeSpec := { name := "hdrClose", fn := fun _ => fun
  | [d1, d2, d3] => { results := [.lit (.bool false)], args := [d1, d2, d3] }
  | _ => none }
def HdrCloseWrongFalsely : Prop := hdrCloseRow.holds Tryd.pinned (OpenSpec.ofChange hdrCloseWrong)

/-- 'ogivelaw15.HdrLike': WHATEVER THE INPUT: true; the input reads as it did. -/
def hdrLikeSpec : ChangeSpec := { name := "hdrLike", fn := fun _ => fun
  | [d1, d2, d3] => { results := [.lit (.bool true)], args := [d1, d2, d3] }
  | _ => none }
def hdrLikeRow : OpenClaim := { program := "ytnkkdciecjhpoaadoor", sum := "9f81fcb97ec4dbbcfc8883908fb261c019a4bb9350b4311f5f11c16c5cc5c0fc", func := "ogive/ogivelaw15.HdrLike", spec := "hdrLike", inPlace := ["slices.overlaps[ogive/api.Pair]", "math/bits.Add64"], unfollowed := true, recurses := true, named := ["ogive/spans.tens", "math/bits.divideError", "math/bits.overflowError"], apart := false, laid := [("ogive/spans.tens", laid_ogive_spans_tens)] }
def HdrLikeSaid : Prop := hdrLikeRow.holds Tryd.pinned (OpenSpec.ofChange hdrLikeSpec)

/-- ITS FALSE NEIGHBOUR: 'it returns false'. Refute it at one input. -/
def hdrLikeWrong : ChangeSpec := { name := "hdrLike", fn := fun _ => fun
  | [d1, d2, d3] => { results := [.lit (.bool false)], args := [d1, d2, d3] }
  | _ => none }
def HdrLikeWrongFalsely : Prop := hdrLikeRow.holds Tryd.pinned (OpenSpec.ofChange hdrLikeWrong)

/-- 'ogivelaw15.HdrLoads': WHATEVER THE INPUT: true; the input reads as it did. -/
def hdrLoadsSpec : ChangeSpec := { name := "hdrLoads", fn := fun _ => fun
  | [d1, d2, d3, d4, d5] => { results := [.lit (.bool true)], args := [d1, d2, d3, d4, d5] }
  | _ => none }
def hdrLoadsRow : OpenClaim := { program := "ytnkkdciecjhpoaadoor", sum := "9f81fcb97ec4dbbcfc8883908fb261c019a4bb9350b4311f5f11c16c5cc5c0fc", func := "ogive/ogivelaw15.HdrLoads", spec := "hdrLoads", inPlace := ["slices.overlaps[ogive/api.Pair]", "math/bits.Add64"], unfollowed := true, recurses := true, named := ["ogive/spans.tens", "math/bits.divideError", "math/bits.overflowError"], apart := false, laid := [("ogive/spans.tens", laid_ogive_spans_tens)] }
def HdrLoadsSaid : Prop := hdrLoadsRow.holds Tryd.pinned (OpenSpec.ofChange hdrLoadsSpec)

/-- ITS FALSE NEIGHBOUR: 'it returns false'. Refute it at one input. -/
def hdrLoadsWrong : ChangeSpec := { name := "hdrLoads", fn := fun _ => fun
  | [d1, d2, d3, d4, d5] => { results := [.lit (.bool false)], args := [d1, d2, d3, d4, d5] }
  | _ => none }
def HdrLoadsWrongFalsely : Prop := hdrLoadsRow.holds Tryd.pinned (OpenSpec.ofChange hdrLoadsWrong)

/-- 'ogivelaw15.HdrDoes': WHATEVER THE INPUT: true; the input reads as it did. -/
def hdrDoesSpec : ChangeSpec := { name := "hdrDoes", fn := fun _ => fun
  | [d1, d2, d3, d4] => { results := [.lit (.bool true)], args := [d1, d2, d3, d4] }
  | _ => none }
def hdrDoesRow : OpenClaim := { program := "ytnkkdciecjhpoaadoor", sum := "9f81fcb97ec4dbbcfc8883908fb261c019a4bb9350b4311f5f11c16c5cc5c0fc", func := "ogive/ogivelaw15.HdrDoes", spec := "hdrDoes", inPlace := ["slices.overlaps[ogive/api.Pair]", "math/bits.Add64"], unfollowed := true, recurses := true, named := ["ogive/spans.tens", "math/bits.divideError", "math/bits.overflowError"], apart := false, laid := [("ogive/spans.tens", laid_ogive_spans_tens)] }
def HdrDoesSaid : Prop := hdrDoesRow.holds Tryd.pinned (OpenSpec.ofChange hdrDoesSpec)

/-- ITS FALSE NEIGHBOUR: 'it returns false'. Refute it at one input. -/
def hdrDoesWrong : ChangeSpec := { name := "hdrDoes", fn := fun _ => fun
  | [d1, d2, d3, d4] => { results := [.lit (.bool false)], args := [d1, d2, d3, d4] }
  | _ => none }
def HdrDoesWrongFalsely : Prop := hdrDoesRow.holds Tryd.pinned (OpenSpec.ofChange hdrDoesWrong)

/-- 'ogivelaw15.HdrJoins': WHATEVER THE INPUT: true; the input reads as it did. -/
def hdrJoinsSpec : ChangeSpec := { name := "hdrJoins", fn := fun _ => fun
  | [d1, d2, d3, d4] => { results := [.lit (.bool true)], args := [d1, d2, d3, d4] }
  | _ => none }
def hdrJoinsRow : OpenClaim := { program := "ytnkkdciecjhpoaadoor", sum := "9f81fcb97ec4dbbcfc8883908fb261c019a4bb9350b4311f5f11c16c5cc5c0fc", func := "ogive/ogivelaw15.HdrJoins", spec := "hdrJoins", inPlace := ["slices.overlaps[ogive/api.Pair]", "math/bits.Add64"], unfollowed := true, recurses := true, named := ["ogive/spans.tens", "math/bits.divideError", "math/bits.overflowError"], apart := false, laid := [("ogive/spans.tens", laid_ogive_spans_tens)] }
def HdrJoinsSaid : Prop := hdrJoinsRow.holds Tryd.pinned (OpenSpec.ofChange hdrJoinsSpec)

/-- ITS FALSE NEIGHBOUR: 'it returns false'. Refute it at one input. -/
def hdrJoinsWrong : ChangeSpec := { name := "hdrJoins", fn := fun _ => fun
  | [d1, d2, d3, d4] => { results := [.lit (.bool false)], args := [d1, d2, d3, d4] }
  | _ => none }
def HdrJoinsWrongFalsely : Prop := hdrJoinsRow.holds Tryd.pinned (OpenSpec.ofChange hdrJoinsWrong)

/-- 'ogivelaw15.HdrErrors': WHATEVER THE INPUT: true; the input reads as it did. -/
def hdrErrorsSpec : ChangeSpec := { name := "hdrErrors", fn := fun _ => fun
  | [d1, d2, d3] => { results := [.lit (.bool true)], args := [d1, d2, d3] }
  | _ => none }
def hdrErrorsRow : OpenClaim := { program := "ytnkkdciecjhpoaadoor", sum := "9f81fcb97ec4dbbcfc8883908fb261c019a4bb9350b4311f5f11c16c5cc5c0fc", func := "ogive/ogivelaw15.HdrErrors", spec := "hdrErrors", inPlace := ["slices.overlaps[ogive/api.Pair]", "math/bits.Add64"], unfollowed := true, recurses := true, named := ["ogive/spans.tens", "math/bits.divideError", "math/bits.overflowError"], apart := false, laid := [("ogive/spans.tens", laid_ogive_spans_tens)] }
def HdrErrorsSaid : Prop := hdrErrorsRow.holds Tryd.pinned (OpenSpec.ofChange hdrErrorsSpec)

/-- ITS FALSE NEIGHBOUR: 'it returns false'. Refute it at one input. -/
def hdrErrorsWrong : ChangeSpec := { name := "hdrErrors", fn := fun _ => fun
  | [d1, d2, d3] => { results := [.lit (.bool false)], args := [d1, d2, d3] }
  | _ => none }
def HdrErrorsWrongFalsely : Prop := hdrErrorsRow.holds Tryd.pinned (OpenSpec.ofChange hdrErrorsWrong)

/- THE SECOND FORM. 'bulk': how many values and letters a reading holds, each counted each time it is reached (what is shared counts as often as it is met; a slice's spare places count too). A statement '..UptoSaid' is the law's where the arguments, and the package variables that the reading takes, are together of bulk at most 1048576: NARROWER than '..Said'. Prove '..Said' where nothing that the law and all that it calls make is longer than what came in: it says more and counts as full. Else prove '..UptoSaid'. A law counts once. -/
mutual
def uptoBulk {H : Type} : DataW H → Nat
  | .lit (.string bytes) => bytes.length + 1
  | .lit _ => 1
  | .nil => 1
  | .ptr d => uptoBulk d + 1
  | .slice elems spare => uptoBulkAll elems + uptoBulkAll spare + 1
  | .agg parts => uptoBulkAll parts + 1
  | .iface _ d => uptoBulk d + 1
  | .map entries => uptoBulkEntries entries + 1
  | .held _ => 1
def uptoBulkAll {H : Type} : List (DataW H) → Nat
  | [] => 0
  | d :: r => uptoBulk d + uptoBulkAll r
def uptoBulkEntries {H : Type} : List (Lit × DataW H) → Nat
  | [] => 0
  | x :: r => uptoBulkEntry x + uptoBulkEntries r
def uptoBulkEntry {H : Type} : Lit × DataW H → Nat
  | (.string bytes, d) => bytes.length + uptoBulk d + 1
  | (_, d) => uptoBulk d + 1
 end
def uptoSmall : (H : Type) → List (DataW H) → Bool := fun _ ds => decide (uptoBulkAll ds ≤ 1048576)
def OpenSpec.upto (s : _root_.Go.ChangeSpec) : _root_.Go.OpenSpec := { _root_.Go.OpenSpec.ofChange s with cond := some uptoSmall }

/-- 'ogivelaw15.HdrClose', WHERE WHAT IT READS IS OF BULK AT MOST 1048576: true; the input reads as it did. -/
def hdrCloseUptoRow : OpenClaim := { program := "ytnkkdciecjhpoaadoor", sum := "9f81fcb97ec4dbbcfc8883908fb261c019a4bb9350b4311f5f11c16c5cc5c0fc", func := "ogive/ogivelaw15.HdrClose", spec := "hdrClose", inPlace := ["slices.overlaps[ogive/api.Pair]", "math/bits.Add64"], unfollowed := true, recurses := true, named := ["ogive/spans.tens", "math/bits.divideError", "math/bits.overflowError"], apart := false, laid := [("ogive/spans.tens", laid_ogive_spans_tens)], narrowed := true }
def HdrCloseUptoSaid : Prop := hdrCloseUptoRow.holds Tryd.pinned (OpenSpec.upto hdrCloseSpec)

/-- 'ogivelaw15.HdrLike', WHERE WHAT IT READS IS OF BULK AT MOST 1048576: true; the input reads as it did. -/
def hdrLikeUptoRow : OpenClaim := { program := "ytnkkdciecjhpoaadoor", sum := "9f81fcb97ec4dbbcfc8883908fb261c019a4bb9350b4311f5f11c16c5cc5c0fc", func := "ogive/ogivelaw15.HdrLike", spec := "hdrLike", inPlace := ["slices.overlaps[ogive/api.Pair]", "math/bits.Add64"], unfollowed := true, recurses := true, named := ["ogive/spans.tens", "math/bits.divideError", "math/bits.overflowError"], apart := false, laid := [("ogive/spans.tens", laid_ogive_spans_tens)], narrowed := true }
def HdrLikeUptoSaid : Prop := hdrLikeUptoRow.holds Tryd.pinned (OpenSpec.upto hdrLikeSpec)

/-- 'ogivelaw15.HdrLoads', WHERE WHAT IT READS IS OF BULK AT MOST 1048576: true; the input reads as it did. -/
def hdrLoadsUptoRow : OpenClaim := { program := "ytnkkdciecjhpoaadoor", sum := "9f81fcb97ec4dbbcfc8883908fb261c019a4bb9350b4311f5f11c16c5cc5c0fc", func := "ogive/ogivelaw15.HdrLoads", spec := "hdrLoads", inPlace := ["slices.overlaps[ogive/api.Pair]", "math/bits.Add64"], unfollowed := true, recurses := true, named := ["ogive/spans.tens", "math/bits.divideError", "math/bits.overflowError"], apart := false, laid := [("ogive/spans.tens", laid_ogive_spans_tens)], narrowed := true }
def HdrLoadsUptoSaid : Prop := hdrLoadsUptoRow.holds Tryd.pinned (OpenSpec.upto hdrLoadsSpec)

/-- 'ogivelaw15.HdrDoes', WHERE WHAT IT READS IS OF BULK AT MOST 1048576: true; the input reads as it did. -/
def hdrDoesUptoRow : OpenClaim := { program := "ytnkkdciecjhpoaadoor", sum := "9f81fcb97ec4dbbcfc8883908fb261c019a4bb9350b4311f5f11c16c5cc5c0fc", func := "ogive/ogivelaw15.HdrDoes", spec := "hdrDoes", inPlace := ["slices.overlaps[ogive/api.Pair]", "math/bits.Add64"], unfollowed := true, recurses := true, named := ["ogive/spans.tens", "math/bits.divideError", "math/bits.overflowError"], apart := false, laid := [("ogive/spans.tens", laid_ogive_spans_tens)], narrowed := true }
def HdrDoesUptoSaid : Prop := hdrDoesUptoRow.holds Tryd.pinned (OpenSpec.upto hdrDoesSpec)

/-- 'ogivelaw15.HdrJoins', WHERE WHAT IT READS IS OF BULK AT MOST 1048576: true; the input reads as it did. -/
def hdrJoinsUptoRow : OpenClaim := { program := "ytnkkdciecjhpoaadoor", sum := "9f81fcb97ec4dbbcfc8883908fb261c019a4bb9350b4311f5f11c16c5cc5c0fc", func := "ogive/ogivelaw15.HdrJoins", spec := "hdrJoins", inPlace := ["slices.overlaps[ogive/api.Pair]", "math/bits.Add64"], unfollowed := true, recurses := true, named := ["ogive/spans.tens", "math/bits.divideError", "math/bits.overflowError"], apart := false, laid := [("ogive/spans.tens", laid_ogive_spans_tens)], narrowed := true }
def HdrJoinsUptoSaid : Prop := hdrJoinsUptoRow.holds Tryd.pinned (OpenSpec.upto hdrJoinsSpec)

/-- 'ogivelaw15.HdrErrors', WHERE WHAT IT READS IS OF BULK AT MOST 1048576: true; the input reads as it did. -/
def hdrErrorsUptoRow : OpenClaim := { program := "ytnkkdciecjhpoaadoor", sum := "9f81fcb97ec4dbbcfc8883908fb261c019a4bb9350b4311f5f11c16c5cc5c0fc", func := "ogive/ogivelaw15.HdrErrors", spec := "hdrErrors", inPlace := ["slices.overlaps[ogive/api.Pair]", "math/bits.Add64"], unfollowed := true, recurses := true, named := ["ogive/spans.tens", "math/bits.divideError", "math/bits.overflowError"], apart := false, laid := [("ogive/spans.tens", laid_ogive_spans_tens)], narrowed := true }
def HdrErrorsUptoSaid : Prop := hdrErrorsUptoRow.holds Tryd.pinned (OpenSpec.upto hdrErrorsSpec)

end Rows
end Go.Proofs.YtnkkdciecjhpoaaDoor
