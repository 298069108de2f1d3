/-
  No cell of these rows narrows 'for every input' (looked for: loops, veiled, ifaces, maps, wideKeys, modest, calm, conditions, laid).
  DERIVED. THE GIVEN ROWS OF THIS SEAT. 6 by the template 'for every input the law returns true; each argument reads behind the call as it read before'; 0 by the template 'total and deterministic' (their statements: YtadnnpjnmfddmaaTotals.lean).
  GIVEN WITH THE SEED: the statements are not yours to turn. If you find one false, say at which input.
  Laid BY PROGRAM, IN A SANDBOX (cutbox-rows.mjs): the forced cells as the released guide's own fill.sh prints them over the translation 0c4b9a0d5f88d4f6… (all of the seat's roots in one cut). By AI agents, Wed Nov 11 2026. No macro, syntax, notation, axiom, sorry.
-/
import Derived.Test.YtadnnpjnmfddmaaChecked
import GoSem.Claim
import GoSem.ClaimJoined
import GoSem.ClaimMapViews
import Derived.JoinedTies
import Derived.KernelRfl
namespace Go.Proofs.Ytadnnpjnmfddmaa
/- THE CELL 'sum', in the pinned program and in every row, IS THE sha256 OF THE DUMP (.gsa) THAT YtadnnpjnmfddmaaProg.lean LOADS. Nothing in Lean hashes anything: it is a label: what it is worth is what the hold of that sum in a sandbox is worth. -/
noncomputable def Try.pinned : Pinned := { name := "ytadnnpjnmfddmaa", sum := "0c4b9a0d5f88d4f6046cf4b9e6b4c6b8c68a01fbcbbe17d46f1816b2aa7e2ee3", checked := Try.checked }
namespace Rows
def none {H : Type} : Left H := { results := [], args := [] }

/-- 'ogivelaw03.ShareGoods': WHATEVER THE INPUT: true; the input reads as it did. -/
def shareGoodsSpec : ChangeSpec := { name := "shareGoods", fn := fun _ => fun
  | [d1, d2] => { results := [.lit (.bool true)], args := [d1, d2] }
  | _ => none }
def shareGoodsRow : OpenClaim := { program := "ytadnnpjnmfddmaa", sum := "0c4b9a0d5f88d4f6046cf4b9e6b4c6b8c68a01fbcbbe17d46f1816b2aa7e2ee3", func := "ogive/ogivelaw03.ShareGoods", spec := "shareGoods", inPlace := ["math/bits.Add64"], named := ["math/bits.divideError", "math/bits.overflowError"], apart := false }
def ShareGoodsSaid : Prop := shareGoodsRow.holds Try.pinned (OpenSpec.ofChange shareGoodsSpec)

/-- ITS FALSE NEIGHBOUR: 'it returns false'. Refute it at one input. -/
def shareGoodsWrong : ChangeSpec := { name := "shareGoods", fn := fun _ => fun
  | [d1, d2] => { results := [.lit (.bool false)], args := [d1, d2] }
  | _ => none }
def ShareGoodsWrongFalsely : Prop := shareGoodsRow.holds Try.pinned (OpenSpec.ofChange shareGoodsWrong)

/-- 'ogivelaw03.SharePlaces': WHATEVER THE INPUT: true; the input reads as it did. -/
def sharePlacesSpec : ChangeSpec := { name := "sharePlaces", fn := fun _ => fun
  | [d1, d2, d3] => { results := [.lit (.bool true)], args := [d1, d2, d3] }
  | _ => none }
def sharePlacesRow : OpenClaim := { program := "ytadnnpjnmfddmaa", sum := "0c4b9a0d5f88d4f6046cf4b9e6b4c6b8c68a01fbcbbe17d46f1816b2aa7e2ee3", func := "ogive/ogivelaw03.SharePlaces", spec := "sharePlaces", inPlace := ["math/bits.Add64"], named := ["math/bits.divideError", "math/bits.overflowError"], apart := false }
def SharePlacesSaid : Prop := sharePlacesRow.holds Try.pinned (OpenSpec.ofChange sharePlacesSpec)

/-- ITS FALSE NEIGHBOUR: 'it returns false'. Refute it at one input. -/
def sharePlacesWrong : ChangeSpec := { name := "sharePlaces", fn := fun _ => fun
  | [d1, d2, d3] => { results := [.lit (.bool false)], args := [d1, d2, d3] }
  | _ => none }
def SharePlacesWrongFalsely : Prop := sharePlacesRow.holds Try.pinned (OpenSpec.ofChange sharePlacesWrong)

/-- 'ogivelaw03.ShareReads': WHATEVER THE INPUT: true; the input reads as it did. -/
def shareReadsSpec : ChangeSpec := { name := "shareReads", fn := fun _ => fun
  | [d] => { results := [.lit (.bool true)], args := [d] }
  | _ => none }
def shareReadsRow : OpenClaim := { program := "ytadnnpjnmfddmaa", sum := "0c4b9a0d5f88d4f6046cf4b9e6b4c6b8c68a01fbcbbe17d46f1816b2aa7e2ee3", func := "ogive/ogivelaw03.ShareReads", spec := "shareReads", inPlace := ["math/bits.Add64"], named := ["math/bits.divideError", "math/bits.overflowError"], apart := false }
def ShareReadsSaid : Prop := shareReadsRow.holds Try.pinned (OpenSpec.ofChange shareReadsSpec)

/-- ITS FALSE NEIGHBOUR: 'it returns false'. Refute it at one input. -/
def shareReadsWrong : ChangeSpec := { name := "shareReads", fn := fun _ => fun
  | [d] => { results := [.lit (.bool false)], args := [d] }
  | _ => none }
def ShareReadsWrongFalsely : Prop := shareReadsRow.holds Try.pinned (OpenSpec.ofChange shareReadsWrong)

/-- 'ogivelaw03.ShareEven': WHATEVER THE INPUT: true; the input reads as it did. -/
def shareEvenSpec : ChangeSpec := { name := "shareEven", fn := fun _ => fun
  | [d1, d2] => { results := [.lit (.bool true)], args := [d1, d2] }
  | _ => none }
def shareEvenRow : OpenClaim := { program := "ytadnnpjnmfddmaa", sum := "0c4b9a0d5f88d4f6046cf4b9e6b4c6b8c68a01fbcbbe17d46f1816b2aa7e2ee3", func := "ogive/ogivelaw03.ShareEven", spec := "shareEven", inPlace := ["math/bits.Add64"], unfollowed := true, recurses := true, named := ["math/bits.divideError", "math/bits.overflowError"], apart := false }
def ShareEvenSaid : Prop := shareEvenRow.holds Try.pinned (OpenSpec.ofChange shareEvenSpec)

/-- ITS FALSE NEIGHBOUR: 'it returns false'. Refute it at one input. -/
def shareEvenWrong : ChangeSpec := { name := "shareEven", fn := fun _ => fun
  | [d1, d2] => { results := [.lit (.bool false)], args := [d1, d2] }
  | _ => none }
def ShareEvenWrongFalsely : Prop := shareEvenRow.holds Try.pinned (OpenSpec.ofChange shareEvenWrong)

/-- 'ogivelaw03.ShareLeast': WHATEVER THE INPUT: true; the input reads as it did. -/
def shareLeastSpec : ChangeSpec := { name := "shareLeast", fn := fun _ => fun
  | [d1, d2] => { results := [.lit (.bool true)], args := [d1, d2] }
  | _ => none }
def shareLeastRow : OpenClaim := { program := "ytadnnpjnmfddmaa", sum := "0c4b9a0d5f88d4f6046cf4b9e6b4c6b8c68a01fbcbbe17d46f1816b2aa7e2ee3", func := "ogive/ogivelaw03.ShareLeast", spec := "shareLeast", inPlace := ["math/bits.Add64"], named := ["math/bits.divideError", "math/bits.overflowError"], apart := false }
def ShareLeastSaid : Prop := shareLeastRow.holds Try.pinned (OpenSpec.ofChange shareLeastSpec)

/-- ITS FALSE NEIGHBOUR: 'it returns false'. Refute it at one input. -/
def shareLeastWrong : ChangeSpec := { name := "shareLeast", fn := fun _ => fun
  | [d1, d2] => { results := [.lit (.bool false)], args := [d1, d2] }
  | _ => none }
def ShareLeastWrongFalsely : Prop := shareLeastRow.holds Try.pinned (OpenSpec.ofChange shareLeastWrong)

/-- 'ogivelaw03.SharePercent': WHATEVER THE INPUT: true; the input reads as it did. -/
def sharePercentSpec : ChangeSpec := { name := "sharePercent", fn := fun _ => fun
  | [d1, d2] => { results := [.lit (.bool true)], args := [d1, d2] }
  | _ => none }
def sharePercentRow : OpenClaim := { program := "ytadnnpjnmfddmaa", sum := "0c4b9a0d5f88d4f6046cf4b9e6b4c6b8c68a01fbcbbe17d46f1816b2aa7e2ee3", func := "ogive/ogivelaw03.SharePercent", spec := "sharePercent", inPlace := ["math/bits.Add64"], named := ["math/bits.divideError", "math/bits.overflowError"], apart := false }
def SharePercentSaid : Prop := sharePercentRow.holds Try.pinned (OpenSpec.ofChange sharePercentSpec)

/-- ITS FALSE NEIGHBOUR: 'it returns false'. Refute it at one input. -/
def sharePercentWrong : ChangeSpec := { name := "sharePercent", fn := fun _ => fun
  | [d1, d2] => { results := [.lit (.bool false)], args := [d1, d2] }
  | _ => none }
def SharePercentWrongFalsely : Prop := sharePercentRow.holds Try.pinned (OpenSpec.ofChange sharePercentWrong)

/- THE SECOND FORM. 'bulk': how many values and letters a reading holds, each counted each time it is reached (what is shared counts as often as it is met; a slice's spare places count too). A statement '..UptoSaid' is the law's where the arguments, and the package variables that the reading takes, are together of bulk at most 1048576: NARROWER than '..Said'. Prove '..Said' where nothing that the law and all that it calls make is longer than what came in: it says more and counts as full. Else prove '..UptoSaid'. A law counts once. -/
mutual
def uptoBulk {H : Type} : DataW H → Nat
  | .lit (.string bytes) => bytes.length + 1
  | .lit _ => 1
  | .nil => 1
  | .ptr d => uptoBulk d + 1
  | .slice elems spare => uptoBulkAll elems + uptoBulkAll spare + 1
  | .agg parts => uptoBulkAll parts + 1
  | .iface _ d => uptoBulk d + 1
  | .map entries => uptoBulkEntries entries + 1
  | .held _ => 1
def uptoBulkAll {H : Type} : List (DataW H) → Nat
  | [] => 0
  | d :: r => uptoBulk d + uptoBulkAll r
def uptoBulkEntries {H : Type} : List (Lit × DataW H) → Nat
  | [] => 0
  | x :: r => uptoBulkEntry x + uptoBulkEntries r
def uptoBulkEntry {H : Type} : Lit × DataW H → Nat
  | (.string bytes, d) => bytes.length + uptoBulk d + 1
  | (_, d) => uptoBulk d + 1
 end
def uptoSmall : (H : Type) → List (DataW H) → Bool := fun _ ds => decide (uptoBulkAll ds ≤ 1048576)
def OpenSpec.upto (s : _root_.Go.ChangeSpec) : _root_.Go.OpenSpec := { _root_.Go.OpenSpec.ofChange s with cond := some uptoSmall }

/-- 'ogivelaw03.ShareGoods', WHERE WHAT IT READS IS OF BULK AT MOST 1048576: true; the input reads as it did. -/
def shareGoodsUptoRow : OpenClaim := { program := "ytadnnpjnmfddmaa", sum := "0c4b9a0d5f88d4f6046cf4b9e6b4c6b8c68a01fbcbbe17d46f1816b2aa7e2ee3", func := "ogive/ogivelaw03.ShareGoods", spec := "shareGoods", inPlace := ["math/bits.Add64"], named := ["math/bits.divideError", "math/bits.overflowError"], apart := false, narrowed := true }
def ShareGoodsUptoSaid : Prop := shareGoodsUptoRow.holds Try.pinned (OpenSpec.upto shareGoodsSpec)

/-- 'ogivelaw03.SharePlaces', WHERE WHAT IT READS IS OF BULK AT MOST 1048576: true; the input reads as it did. -/
def sharePlacesUptoRow : OpenClaim := { program := "ytadnnpjnmfddmaa", sum := "0c4b9a0d5f88d4f6046cf4b9e6b4c6b8c68a01fbcbbe17d46f1816b2aa7e2ee3", func := "ogive/ogivelaw03.SharePlaces", spec := "sharePlaces", inPlace := ["math/bits.Add64"], named := ["math/bits.divideError", "math/bits.overflowError"], apart := false, narrowed := true }
def SharePlacesUptoSaid : Prop := sharePlacesUptoRow.holds Try.pinned (OpenSpec.upto sharePlacesSpec)

/-- 'ogivelaw03.ShareReads', WHERE WHAT IT READS IS OF BULK AT MOST 1048576: true; the input reads as it did. -/
def shareReadsUptoRow : OpenClaim := { program := "ytadnnpjnmfddmaa", sum := "0c4b9a0d5f88d4f6046cf4b9e6b4c6b8c68a01fbcbbe17d46f1816b2aa7e2ee3", func := "ogive/ogivelaw03.ShareReads", spec := "shareReads", inPlace := ["math/bits.Add64"], named := ["math/bits.divideError", "math/bits.overflowError"], apart := false, narrowed := true }
def ShareReadsUptoSaid : Prop := shareReadsUptoRow.holds Try.pinned (OpenSpec.upto shareReadsSpec)

/-- 'ogivelaw03.ShareEven', WHERE WHAT IT READS IS OF BULK AT MOST 1048576: true; the input reads as it did. -/
def shareEvenUptoRow : OpenClaim := { program := "ytadnnpjnmfddmaa", sum := "0c4b9a0d5f88d4f6046cf4b9e6b4c6b8c68a01fbcbbe17d46f1816b2aa7e2ee3", func := "ogive/ogivelaw03.ShareEven", spec := "shareEven", inPlace := ["math/bits.Add64"], unfollowed := true, recurses := true, named := ["math/bits.divideError", "math/bits.overflowError"], apart := false, narrowed := true }
def ShareEvenUptoSaid : Prop := shareEvenUptoRow.holds Try.pinned (OpenSpec.upto shareEvenSpec)

/-- 'ogivelaw03.ShareLeast', WHERE WHAT IT READS IS OF BULK AT MOST 1048576: true; the input reads as it did. -/
def shareLeastUptoRow : OpenClaim := { program := "ytadnnpjnmfddmaa", sum := "0c4b9a0d5f88d4f6046cf4b9e6b4c6b8c68a01fbcbbe17d46f1816b2aa7e2ee3", func := "ogive/ogivelaw03.ShareLeast", spec := "shareLeast", inPlace := ["math/bits.Add64"], named := ["math/bits.divideError", "math/bits.overflowError"], apart := false, narrowed := true }
def ShareLeastUptoSaid : Prop := shareLeastUptoRow.holds Try.pinned (OpenSpec.upto shareLeastSpec)

/-- 'ogivelaw03.SharePercent', WHERE WHAT IT READS IS OF BULK AT MOST 1048576: true; the input reads as it did. -/
def sharePercentUptoRow : OpenClaim := { program := "ytadnnpjnmfddmaa", sum := "0c4b9a0d5f88d4f6046cf4b9e6b4c6b8c68a01fbcbbe17d46f1816b2aa7e2ee3", func := "ogive/ogivelaw03.SharePercent", spec := "sharePercent", inPlace := ["math/bits.Add64"], named := ["math/bits.divideError", "math/bits.overflowError"], apart := false, narrowed := true }
def SharePercentUptoSaid : Prop := sharePercentUptoRow.holds Try.pinned (OpenSpec.upto sharePercentSpec)

end Rows
end Go.Proofs.Ytadnnpjnmfddmaa
