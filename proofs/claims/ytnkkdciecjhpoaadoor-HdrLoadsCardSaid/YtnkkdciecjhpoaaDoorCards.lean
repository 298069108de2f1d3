/-
  DERIVED. GIVEN WITH THE SEED: THE CARDS: each row of YtnkkdciecjhpoaaDoorRows.lean that lists a variable, with what it lists TIED to the program's text (the seventh form; the later family's looks); each row that meets fmt, with fmt's text TOLD by the authors' own Lean function (tested against real Go, not proved from fmt's source: count such statements apart). THE CARD IS WHAT COUNTS. Prove the row's statement (the work); the ties are given (YtnkkdciecjhpoaaDoorTie.lean); close each card by the builder's one call (the guide's Derived/Test/ToyasCard.lean, 'card_holds'). Laid BY PROGRAM, IN A SANDBOX (cutbox-door.mjs). By AI agents, Wed Nov 11 2026. No macro, syntax, notation, axiom, sorry.
-/
import Derived.Test.YtnkkdciecjhpoaaDoorRows
import GoSem.ClaimSeven
namespace Go.Proofs.YtnkkdciecjhpoaaDoor
namespace Rows

/-- THE TIED CARD OF 'ogivelaw15.HdrClose'. -/
def hdrCloseCard : Claim7 := { stood := { row := hdrCloseRow, standIns := [], harness := (true, "63688710f91a44105f0c04c4a186d5394f1ae67b1f2722a783edc8d5aa57fc3e"), looks := false }, kinds := [], alts := [], laidByText := true, laidKinds := [.data], laidTests := true, laidLooks := .later }
def HdrCloseCardSaid : Prop := Claim7.holds Tryd.pinned (.plain (OpenSpec.ofChange hdrCloseSpec)) hdrCloseCard

/-- THE TIED CARD OF 'ogivelaw15.HdrLike'. -/
def hdrLikeCard : Claim7 := { stood := { row := hdrLikeRow, standIns := [], harness := (true, "63688710f91a44105f0c04c4a186d5394f1ae67b1f2722a783edc8d5aa57fc3e"), looks := false }, kinds := [], alts := [], laidByText := true, laidKinds := [.data], laidTests := true, laidLooks := .later }
def HdrLikeCardSaid : Prop := Claim7.holds Tryd.pinned (.plain (OpenSpec.ofChange hdrLikeSpec)) hdrLikeCard

/-- THE TIED CARD OF 'ogivelaw15.HdrLoads'. -/
def hdrLoadsCard : Claim7 := { stood := { row := hdrLoadsRow, standIns := [], harness := (true, "63688710f91a44105f0c04c4a186d5394f1ae67b1f2722a783edc8d5aa57fc3e"), looks := false }, kinds := [], alts := [], laidByText := true, laidKinds := [.data], laidTests := true, laidLooks := .later }
def HdrLoadsCardSaid : Prop := Claim7.holds Tryd.pinned (.plain (OpenSpec.ofChange hdrLoadsSpec)) hdrLoadsCard

/-- THE TIED CARD OF 'ogivelaw15.HdrDoes'. -/
def hdrDoesCard : Claim7 := { stood := { row := hdrDoesRow, standIns := [], harness := (true, "63688710f91a44105f0c04c4a186d5394f1ae67b1f2722a783edc8d5aa57fc3e"), looks := false }, kinds := [], alts := [], laidByText := true, laidKinds := [.data], laidTests := true, laidLooks := .later }
def HdrDoesCardSaid : Prop := Claim7.holds Tryd.pinned (.plain (OpenSpec.ofChange hdrDoesSpec)) hdrDoesCard

/-- THE TIED CARD OF 'ogivelaw15.HdrJoins'. -/
def hdrJoinsCard : Claim7 := { stood := { row := hdrJoinsRow, standIns := [], harness := (true, "63688710f91a44105f0c04c4a186d5394f1ae67b1f2722a783edc8d5aa57fc3e"), looks := false }, kinds := [], alts := [], laidByText := true, laidKinds := [.data], laidTests := true, laidLooks := .later }
def HdrJoinsCardSaid : Prop := Claim7.holds Tryd.pinned (.plain (OpenSpec.ofChange hdrJoinsSpec)) hdrJoinsCard

/-- THE TIED CARD OF 'ogivelaw15.HdrErrors'. -/
def hdrErrorsCard : Claim7 := { stood := { row := hdrErrorsRow, standIns := [], harness := (true, "63688710f91a44105f0c04c4a186d5394f1ae67b1f2722a783edc8d5aa57fc3e"), looks := false }, kinds := [], alts := [], laidByText := true, laidKinds := [.data], laidTests := true, laidLooks := .later }
def HdrErrorsCardSaid : Prop := Claim7.holds Tryd.pinned (.plain (OpenSpec.ofChange hdrErrorsSpec)) hdrErrorsCard

/-- THE SECOND FORM's CARD OF 'ogivelaw15.HdrClose'. -/
def hdrCloseUptoCard : Claim7 := { stood := { row := hdrCloseUptoRow, standIns := [], harness := (true, "63688710f91a44105f0c04c4a186d5394f1ae67b1f2722a783edc8d5aa57fc3e"), looks := false }, kinds := [], alts := [], laidByText := true, laidKinds := [.data], laidTests := true, laidLooks := .later }
def HdrCloseUptoCardSaid : Prop := Claim7.holds Tryd.pinned (.plain (OpenSpec.upto hdrCloseSpec)) hdrCloseUptoCard

/-- THE SECOND FORM's CARD OF 'ogivelaw15.HdrLike'. -/
def hdrLikeUptoCard : Claim7 := { stood := { row := hdrLikeUptoRow, standIns := [], harness := (true, "63688710f91a44105f0c04c4a186d5394f1ae67b1f2722a783edc8d5aa57fc3e"), looks := false }, kinds := [], alts := [], laidByText := true, laidKinds := [.data], laidTests := true, laidLooks := .later }
def HdrLikeUptoCardSaid : Prop := Claim7.holds Tryd.pinned (.plain (OpenSpec.upto hdrLikeSpec)) hdrLikeUptoCard

/-- THE SECOND FORM's CARD OF 'ogivelaw15.HdrLoads'. -/
def hdrLoadsUptoCard : Claim7 := { stood := { row := hdrLoadsUptoRow, standIns := [], harness := (true, "63688710f91a44105f0c04c4a186d5394f1ae67b1f2722a783edc8d5aa57fc3e"), looks := false }, kinds := [], alts := [], laidByText := true, laidKinds := [.data], laidTests := true, laidLooks := .later }
def HdrLoadsUptoCardSaid : Prop := Claim7.holds Tryd.pinned (.plain (OpenSpec.upto hdrLoadsSpec)) hdrLoadsUptoCard

/-- THE SECOND FORM's CARD OF 'ogivelaw15.HdrDoes'. -/
def hdrDoesUptoCard : Claim7 := { stood := { row := hdrDoesUptoRow, standIns := [], harness := (true, "63688710f91a44105f0c04c4a186d5394f1ae67b1f2722a783edc8d5aa57fc3e"), looks := false }, kinds := [], alts := [], laidByText := true, laidKinds := [.data], laidTests := true, laidLooks := .later }
def HdrDoesUptoCardSaid : Prop := Claim7.holds Tryd.pinned (.plain (OpenSpec.upto hdrDoesSpec)) hdrDoesUptoCard

/-- THE SECOND FORM's CARD OF 'ogivelaw15.HdrJoins'. -/
def hdrJoinsUptoCard : Claim7 := { stood := { row := hdrJoinsUptoRow, standIns := [], harness := (true, "63688710f91a44105f0c04c4a186d5394f1ae67b1f2722a783edc8d5aa57fc3e"), looks := false }, kinds := [], alts := [], laidByText := true, laidKinds := [.data], laidTests := true, laidLooks := .later }
def HdrJoinsUptoCardSaid : Prop := Claim7.holds Tryd.pinned (.plain (OpenSpec.upto hdrJoinsSpec)) hdrJoinsUptoCard

/-- THE SECOND FORM's CARD OF 'ogivelaw15.HdrErrors'. -/
def hdrErrorsUptoCard : Claim7 := { stood := { row := hdrErrorsUptoRow, standIns := [], harness := (true, "63688710f91a44105f0c04c4a186d5394f1ae67b1f2722a783edc8d5aa57fc3e"), looks := false }, kinds := [], alts := [], laidByText := true, laidKinds := [.data], laidTests := true, laidLooks := .later }
def HdrErrorsUptoCardSaid : Prop := Claim7.holds Tryd.pinned (.plain (OpenSpec.upto hdrErrorsSpec)) hdrErrorsUptoCard
end Rows
end Go.Proofs.YtnkkdciecjhpoaaDoor
