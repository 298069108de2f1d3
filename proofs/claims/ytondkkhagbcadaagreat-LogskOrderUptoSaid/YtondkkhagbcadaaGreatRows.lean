/-
  No cell of these rows narrows 'for every input' (looked for: loops, veiled, ifaces, maps, wideKeys, modest, calm, conditions, laid).
  DERIVED. THE GIVEN ROWS OF THIS SEAT. 7 by the template 'for every input the law returns true; each argument reads behind the call as it read before'; 0 by the template 'total and deterministic' (their statements: YtondkkhagbcadaaGreatTotals.lean).
  GIVEN WITH THE SEED: the statements are not yours to turn. If you find one false, say at which input.
  Laid BY PROGRAM, IN A SANDBOX (cutbox-rows.mjs): the forced cells as the released guide's own fill.sh prints them over the translation 924ac80f2c766391… (all of the seat's roots in one cut). By AI agents, Wed Nov 11 2026. No macro, syntax, notation, axiom, sorry.
-/
import Derived.Test.YtondkkhagbcadaaGreatChecked
import GoSem.Claim
import GoSem.ClaimJoined
import GoSem.ClaimMapViews
import Derived.JoinedTies
import Derived.KernelRfl
namespace Go.Proofs.YtondkkhagbcadaaGreat
/- THE CELL 'sum', in the pinned program and in every row, IS THE sha256 OF THE DUMP (.gsa) THAT YtondkkhagbcadaaGreatProg.lean LOADS. Nothing in Lean hashes anything: it is a label: what it is worth is what the hold of that sum in a sandbox is worth. -/
noncomputable def Tryz.pinned : Pinned := { name := "ytondkkhagbcadaagreat", sum := "924ac80f2c766391196c9d1ec2813256aad267fe6be4e57417cd47977de36f5f", checked := Tryz.checked }
namespace Rows
def none {H : Type} : Left H := { results := [], args := [] }

/-- 'ogivelaw14.LogskClose': WHATEVER THE INPUT: true; the input reads as it did. -/
def logskCloseSpec : ChangeSpec := { name := "logskClose", fn := fun _ => fun
  | [d1, d2] => { results := [.lit (.bool true)], args := [d1, d2] }
  | _ => none }
def logskCloseRow : OpenClaim := { program := "ytondkkhagbcadaagreat", sum := "924ac80f2c766391196c9d1ec2813256aad267fe6be4e57417cd47977de36f5f", func := "ogive/ogivelaw14.LogskClose", spec := "logskClose", inPlace := ["math/bits.Add64"], unfollowed := true, recurses := true, named := ["math/bits.divideError", "math/bits.overflowError"], apart := false }
def LogskCloseSaid : Prop := logskCloseRow.holds Tryz.pinned (OpenSpec.ofChange logskCloseSpec)

/-- ITS FALSE NEIGHBOUR: 'it returns false'. Refute it at one input. -/
def logskCloseWrong : ChangeSpec := { name := "logskClose", fn := fun _ => fun
  | [d1, d2] => { results := [.lit (.bool false)], args := [d1, d2] }
  | _ => none }
def LogskCloseWrongFalsely : Prop := logskCloseRow.holds Tryz.pinned (OpenSpec.ofChange logskCloseWrong)

/-- 'ogivelaw14.LogskRises': WHATEVER THE INPUT: true; the input reads as it did. -/
def logskRisesSpec : ChangeSpec := { name := "logskRises", fn := fun _ => fun
  | [d1, d2, d3] => { results := [.lit (.bool true)], args := [d1, d2, d3] }
  | _ => none }
def logskRisesRow : OpenClaim := { program := "ytondkkhagbcadaagreat", sum := "924ac80f2c766391196c9d1ec2813256aad267fe6be4e57417cd47977de36f5f", func := "ogive/ogivelaw14.LogskRises", spec := "logskRises", inPlace := ["math/bits.Add64"], unfollowed := true, recurses := true, named := ["math/bits.divideError", "math/bits.overflowError"], apart := false }
def LogskRisesSaid : Prop := logskRisesRow.holds Tryz.pinned (OpenSpec.ofChange logskRisesSpec)

/-- ITS FALSE NEIGHBOUR: 'it returns false'. Refute it at one input. -/
def logskRisesWrong : ChangeSpec := { name := "logskRises", fn := fun _ => fun
  | [d1, d2, d3] => { results := [.lit (.bool false)], args := [d1, d2, d3] }
  | _ => none }
def LogskRisesWrongFalsely : Prop := logskRisesRow.holds Tryz.pinned (OpenSpec.ofChange logskRisesWrong)

/-- 'ogivelaw14.LogskSets': WHATEVER THE INPUT: true; the input reads as it did. -/
def logskSetsSpec : ChangeSpec := { name := "logskSets", fn := fun _ => fun
  | [d1, d2, d3, d4] => { results := [.lit (.bool true)], args := [d1, d2, d3, d4] }
  | _ => none }
def logskSetsRow : OpenClaim := { program := "ytondkkhagbcadaagreat", sum := "924ac80f2c766391196c9d1ec2813256aad267fe6be4e57417cd47977de36f5f", func := "ogive/ogivelaw14.LogskSets", spec := "logskSets", inPlace := ["math/bits.Add64"], unfollowed := true, recurses := true, named := ["math/bits.divideError", "math/bits.overflowError"], apart := false }
def LogskSetsSaid : Prop := logskSetsRow.holds Tryz.pinned (OpenSpec.ofChange logskSetsSpec)

/-- ITS FALSE NEIGHBOUR: 'it returns false'. Refute it at one input. -/
def logskSetsWrong : ChangeSpec := { name := "logskSets", fn := fun _ => fun
  | [d1, d2, d3, d4] => { results := [.lit (.bool false)], args := [d1, d2, d3, d4] }
  | _ => none }
def LogskSetsWrongFalsely : Prop := logskSetsRow.holds Tryz.pinned (OpenSpec.ofChange logskSetsWrong)

/-- 'ogivelaw14.LogskDoes': WHATEVER THE INPUT: true; the input reads as it did. -/
def logskDoesSpec : ChangeSpec := { name := "logskDoes", fn := fun _ => fun
  | [d1, d2] => { results := [.lit (.bool true)], args := [d1, d2] }
  | _ => none }
def logskDoesRow : OpenClaim := { program := "ytondkkhagbcadaagreat", sum := "924ac80f2c766391196c9d1ec2813256aad267fe6be4e57417cd47977de36f5f", func := "ogive/ogivelaw14.LogskDoes", spec := "logskDoes", inPlace := ["math/bits.Add64"], unfollowed := true, recurses := true, named := ["math/bits.divideError", "math/bits.overflowError"], apart := false }
def LogskDoesSaid : Prop := logskDoesRow.holds Tryz.pinned (OpenSpec.ofChange logskDoesSpec)

/-- ITS FALSE NEIGHBOUR: 'it returns false'. Refute it at one input. -/
def logskDoesWrong : ChangeSpec := { name := "logskDoes", fn := fun _ => fun
  | [d1, d2] => { results := [.lit (.bool false)], args := [d1, d2] }
  | _ => none }
def LogskDoesWrongFalsely : Prop := logskDoesRow.holds Tryz.pinned (OpenSpec.ofChange logskDoesWrong)

/-- 'ogivelaw14.LogskOrder': WHATEVER THE INPUT: true; the input reads as it did. -/
def logskOrderSpec : ChangeSpec := { name := "logskOrder", fn := fun _ => fun
  | [d1, d2, d3] => { results := [.lit (.bool true)], args := [d1, d2, d3] }
  | _ => none }
def logskOrderRow : OpenClaim := { program := "ytondkkhagbcadaagreat", sum := "924ac80f2c766391196c9d1ec2813256aad267fe6be4e57417cd47977de36f5f", func := "ogive/ogivelaw14.LogskOrder", spec := "logskOrder", inPlace := ["math/bits.Add64"], unfollowed := true, recurses := true, named := ["math/bits.divideError", "math/bits.overflowError"], apart := false }
def LogskOrderSaid : Prop := logskOrderRow.holds Tryz.pinned (OpenSpec.ofChange logskOrderSpec)

/-- ITS FALSE NEIGHBOUR: 'it returns false'. Refute it at one input. -/
def logskOrderWrong : ChangeSpec := { name := "logskOrder", fn := fun _ => fun
  | [d1, d2, d3] => { results := [.lit (.bool false)], args := [d1, d2, d3] }
  | _ => none }
def LogskOrderWrongFalsely : Prop := logskOrderRow.holds Tryz.pinned (OpenSpec.ofChange logskOrderWrong)

/-- 'ogivelaw14.LogskJoins': WHATEVER THE INPUT: true; the input reads as it did. -/
def logskJoinsSpec : ChangeSpec := { name := "logskJoins", fn := fun _ => fun
  | [d1, d2, d3] => { results := [.lit (.bool true)], args := [d1, d2, d3] }
  | _ => none }
def logskJoinsRow : OpenClaim := { program := "ytondkkhagbcadaagreat", sum := "924ac80f2c766391196c9d1ec2813256aad267fe6be4e57417cd47977de36f5f", func := "ogive/ogivelaw14.LogskJoins", spec := "logskJoins", inPlace := ["math/bits.Add64", "slices.overlaps[ogive/api.Pair]"], unfollowed := true, recurses := true, named := ["math/bits.divideError", "math/bits.overflowError"], apart := false }
def LogskJoinsSaid : Prop := logskJoinsRow.holds Tryz.pinned (OpenSpec.ofChange logskJoinsSpec)

/-- ITS FALSE NEIGHBOUR: 'it returns false'. Refute it at one input. -/
def logskJoinsWrong : ChangeSpec := { name := "logskJoins", fn := fun _ => fun
  | [d1, d2, d3] => { results := [.lit (.bool false)], args := [d1, d2, d3] }
  | _ => none }
def LogskJoinsWrongFalsely : Prop := logskJoinsRow.holds Tryz.pinned (OpenSpec.ofChange logskJoinsWrong)

/-- 'ogivelaw14.LogskErrors': WHATEVER THE INPUT: true; the input reads as it did. -/
def logskErrorsSpec : ChangeSpec := { name := "logskErrors", fn := fun _ => fun
  | [d1, d2, d3] => { results := [.lit (.bool true)], args := [d1, d2, d3] }
  | _ => none }
def logskErrorsRow : OpenClaim := { program := "ytondkkhagbcadaagreat", sum := "924ac80f2c766391196c9d1ec2813256aad267fe6be4e57417cd47977de36f5f", func := "ogive/ogivelaw14.LogskErrors", spec := "logskErrors", inPlace := ["math/bits.Add64", "slices.overlaps[ogive/api.Pair]"], unfollowed := true, recurses := true, named := ["math/bits.divideError", "math/bits.overflowError"], apart := false }
def LogskErrorsSaid : Prop := logskErrorsRow.holds Tryz.pinned (OpenSpec.ofChange logskErrorsSpec)

/-- ITS FALSE NEIGHBOUR: 'it returns false'. Refute it at one input. -/
def logskErrorsWrong : ChangeSpec := { name := "logskErrors", fn := fun _ => fun
  | [d1, d2, d3] => { results := [.lit (.bool false)], args := [d1, d2, d3] }
  | _ => none }
def LogskErrorsWrongFalsely : Prop := logskErrorsRow.holds Tryz.pinned (OpenSpec.ofChange logskErrorsWrong)

/- THE SECOND FORM. 'bulk': how many values and letters a reading holds, each counted each time it is reached (what is shared counts as often as it is met; a slice's spare places count too). A statement '..UptoSaid' is the law's where the arguments, and the package variables that the reading takes, are together of bulk at most 1048576: NARROWER than '..Said'. Prove '..Said' where nothing that the law and all that it calls make is longer than what came in: it says more and counts as full. Else prove '..UptoSaid'. A law counts once. -/
mutual
def uptoBulk {H : Type} : DataW H → Nat
  | .lit (.string bytes) => bytes.length + 1
  | .lit _ => 1
  | .nil => 1
  | .ptr d => uptoBulk d + 1
  | .slice elems spare => uptoBulkAll elems + uptoBulkAll spare + 1
  | .agg parts => uptoBulkAll parts + 1
  | .iface _ d => uptoBulk d + 1
  | .map entries => uptoBulkEntries entries + 1
  | .held _ => 1
def uptoBulkAll {H : Type} : List (DataW H) → Nat
  | [] => 0
  | d :: r => uptoBulk d + uptoBulkAll r
def uptoBulkEntries {H : Type} : List (Lit × DataW H) → Nat
  | [] => 0
  | x :: r => uptoBulkEntry x + uptoBulkEntries r
def uptoBulkEntry {H : Type} : Lit × DataW H → Nat
  | (.string bytes, d) => bytes.length + uptoBulk d + 1
  | (_, d) => uptoBulk d + 1
 end
def uptoSmall : (H : Type) → List (DataW H) → Bool := fun _ ds => decide (uptoBulkAll ds ≤ 1048576)
def OpenSpec.upto (s : _root_.Go.ChangeSpec) : _root_.Go.OpenSpec := { _root_.Go.OpenSpec.ofChange s with cond := some uptoSmall }

/-- 'ogivelaw14.LogskClose', WHERE WHAT IT READS IS OF BULK AT MOST 1048576: true; the input reads as it did. -/
def logskCloseUptoRow : OpenClaim := { program := "ytondkkhagbcadaagreat", sum := "924ac80f2c766391196c9d1ec2813256aad267fe6be4e57417cd47977de36f5f", func := "ogive/ogivelaw14.LogskClose", spec := "logskClose", inPlace := ["math/bits.Add64"], unfollowed := true, recurses := true, named := ["math/bits.divideError", "math/bits.overflowError"], apart := false, narrowed := true }
def LogskCloseUptoSaid : Prop := logskCloseUptoRow.holds Tryz.pinned (OpenSpec.upto logskCloseSpec)

/-- 'ogivelaw14.LogskRises', WHERE WHAT IT READS IS OF BULK AT MOST 1048576: true; the input reads as it did. -/
def logskRisesUptoRow : OpenClaim := { program := "ytondkkhagbcadaagreat", sum := "924ac80f2c766391196c9d1ec2813256aad267fe6be4e57417cd47977de36f5f", func := "ogive/ogivelaw14.LogskRises", spec := "logskRises", inPlace := ["math/bits.Add64"], unfollowed := true, recurses := true, named := ["math/bits.divideError", "math/bits.overflowError"], apart := false, narrowed := true }
def LogskRisesUptoSaid : Prop := logskRisesUptoRow.holds Tryz.pinned (OpenSpec.upto logskRisesSpec)

/-- 'ogivelaw14.LogskSets', WHERE WHAT IT READS IS OF BULK AT MOST 1048576: true; the input reads as it did. -/
def logskSetsUptoRow : OpenClaim := { program := "ytondkkhagbcadaagreat", sum := "924ac80f2c766391196c9d1ec2813256aad267fe6be4e57417cd47977de36f5f", func := "ogive/ogivelaw14.LogskSets", spec := "logskSets", inPlace := ["math/bits.Add64"], unfollowed := true, recurses := true, named := ["math/bits.divideError", "math/bits.overflowError"], apart := false, narrowed := true }
def LogskSetsUptoSaid : Prop := logskSetsUptoRow.holds Tryz.pinned (OpenSpec.upto logskSetsSpec)

/-- 'ogivelaw14.LogskDoes', WHERE WHAT IT READS IS OF BULK AT MOST 1048576: true; the input reads as it did. -/
def logskDoesUptoRow : OpenClaim := { program := "ytondkkhagbcadaagreat", sum := "924ac80f2c766391196c9d1ec2813256aad267fe6be4e57417cd47977de36f5f", func := "ogive/ogivelaw14.LogskDoes", spec := "logskDoes", inPlace := ["math/bits.Add64"], unfollowed := true, recurses := true, named := ["math/bits.divideError", "math/bits.overflowError"], apart := false, narrowed := true }
def LogskDoesUptoSaid : Prop := logskDoesUptoRow.holds Tryz.pinned (OpenSpec.upto logskDoesSpec)

/-- 'ogivelaw14.LogskOrder', WHERE WHAT IT READS IS OF BULK AT MOST 1048576: true; the input reads as it did. -/
def logskOrderUptoRow : OpenClaim := { program := "ytondkkhagbcadaagreat", sum := "924ac80f2c766391196c9d1ec2813256aad267fe6be4e57417cd47977de36f5f", func := "ogive/ogivelaw14.LogskOrder", spec := "logskOrder", inPlace := ["math/bits.Add64"], unfollowed := true, recurses := true, named := ["math/bits.divideError", "math/bits.overflowError"], apart := false, narrowed := true }
def LogskOrderUptoSaid : Prop := logskOrderUptoRow.holds Tryz.pinned (OpenSpec.upto logskOrderSpec)

/-- 'ogivelaw14.LogskJoins', WHERE WHAT IT READS IS OF BULK AT MOST 1048576: true; the input reads as it did. -/
def logskJoinsUptoRow : OpenClaim := { program := "ytondkkhagbcadaagreat", sum := "924ac80f2c766391196c9d1ec2813256aad267fe6be4e57417cd47977de36f5f", func := "ogive/ogivelaw14.LogskJoins", spec := "logskJoins", inPlace := ["math/bits.Add64", "slices.overlaps[ogive/api.Pair]"], unfollowed := true, recurses := true, named := ["math/bits.divideError", "math/bits.overflowError"], apart := false, narrowed := true }
def LogskJoinsUptoSaid : Prop := logskJoinsUptoRow.holds Tryz.pinned (OpenSpec.upto logskJoinsSpec)

/-- 'ogivelaw14.LogskErrors', WHERE WHAT IT READS IS OF BULK AT MOST 1048576: true; the input reads as it did. -/
def logskErrorsUptoRow : OpenClaim := { program := "ytondkkhagbcadaagreat", sum := "924ac80f2c766391196c9d1ec2813256aad267fe6be4e57417cd47977de36f5f", func := "ogive/ogivelaw14.LogskErrors", spec := "logskErrors", inPlace := ["math/bits.Add64", "slices.overlaps[ogive/api.Pair]"], unfollowed := true, recurses := true, named := ["math/bits.divideError", "math/bits.overflowError"], apart := false, narrowed := true }
def LogskErrorsUptoSaid : Prop := logskErrorsUptoRow.holds Tryz.pinned (OpenSpec.upto logskErrorsSpec)

end Rows
end Go.Proofs.YtondkkhagbcadaaGreat
