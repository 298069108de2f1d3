/-
  DERIVED. GIVEN WITH THE SEED: THE CARDS: each row of YtlbnlmhcpephbaaGreatDoorRows.lean that lists a variable, with what it lists TIED to the program's text (the seventh form; the later family's looks); each row that meets fmt, with fmt's text TOLD by the authors' own Lean function (tested against real Go, not proved from fmt's source: count such statements apart). THE CARD IS WHAT COUNTS. Prove the row's statement (the work); the ties are given (YtlbnlmhcpephbaaGreatDoorTie.lean); close each card by the builder's one call (the guide's Derived/Test/ToyasCard.lean, 'card_holds'). Laid BY PROGRAM, IN A SANDBOX (cutbox-door.mjs). By AI agents, Wed Nov 11 2026. No macro, syntax, notation, axiom, sorry.
-/
import Derived.Test.YtlbnlmhcpephbaaGreatDoorRows
import GoSem.ClaimSeven
namespace Go.Proofs.YtlbnlmhcpephbaaGreatDoor
namespace Rows

/-- THE TIED CARD OF 'ogivetop.CoreRelative'. -/
def coreRelativeCard : Claim7 := { stood := { row := coreRelativeRow, standIns := [], harness := (true, "2734edf244a04478bdd493330b55485a81c192decb04f9a5b703b5f50bfad26b"), looks := true }, kinds := [], alts := [], laidByText := true, laidKinds := [.data], laidTests := true, laidLooks := .later }
def CoreRelativeCardSaid : Prop := Claim7.holds Tryz.pinned (.plain (OpenSpec.ofChange coreRelativeSpec)) coreRelativeCard

/-- THE TIED CARD OF 'ogivetop.CoreKept'. -/
def coreKeptCard : Claim7 := { stood := { row := coreKeptRow, standIns := [], harness := (true, "2734edf244a04478bdd493330b55485a81c192decb04f9a5b703b5f50bfad26b"), looks := true }, kinds := [], alts := [], laidByText := true, laidKinds := [.data], laidTests := true, laidLooks := .later }
def CoreKeptCardSaid : Prop := Claim7.holds Tryz.pinned (.plain (OpenSpec.ofChange coreKeptSpec)) coreKeptCard

/-- THE TIED CARD OF 'ogivetop.CorePlaces'. -/
def corePlacesCard : Claim7 := { stood := { row := corePlacesRow, standIns := [], harness := (true, "2734edf244a04478bdd493330b55485a81c192decb04f9a5b703b5f50bfad26b"), looks := true }, kinds := [], alts := [], laidByText := true, laidKinds := [.data], laidTests := true, laidLooks := .later }
def CorePlacesCardSaid : Prop := Claim7.holds Tryz.pinned (.plain (OpenSpec.ofChange corePlacesSpec)) corePlacesCard

/-- THE TIED CARD OF 'ogivetop.CoreExact'. -/
def coreExactCard : Claim7 := { stood := { row := coreExactRow, standIns := [], harness := (true, "2734edf244a04478bdd493330b55485a81c192decb04f9a5b703b5f50bfad26b"), looks := true }, kinds := [], alts := [], laidByText := true, laidKinds := [.data], laidTests := true, laidLooks := .later }
def CoreExactCardSaid : Prop := Claim7.holds Tryz.pinned (.plain (OpenSpec.ofChange coreExactSpec)) coreExactCard

/-- THE SECOND FORM's CARD OF 'ogivetop.CoreRelative'. -/
def coreRelativeUptoCard : Claim7 := { stood := { row := coreRelativeUptoRow, standIns := [], harness := (true, "2734edf244a04478bdd493330b55485a81c192decb04f9a5b703b5f50bfad26b"), looks := true }, kinds := [], alts := [], laidByText := true, laidKinds := [.data], laidTests := true, laidLooks := .later }
def CoreRelativeUptoCardSaid : Prop := Claim7.holds Tryz.pinned (.plain (OpenSpec.upto coreRelativeSpec)) coreRelativeUptoCard

/-- THE SECOND FORM's CARD OF 'ogivetop.CoreKept'. -/
def coreKeptUptoCard : Claim7 := { stood := { row := coreKeptUptoRow, standIns := [], harness := (true, "2734edf244a04478bdd493330b55485a81c192decb04f9a5b703b5f50bfad26b"), looks := true }, kinds := [], alts := [], laidByText := true, laidKinds := [.data], laidTests := true, laidLooks := .later }
def CoreKeptUptoCardSaid : Prop := Claim7.holds Tryz.pinned (.plain (OpenSpec.upto coreKeptSpec)) coreKeptUptoCard

/-- THE SECOND FORM's CARD OF 'ogivetop.CorePlaces'. -/
def corePlacesUptoCard : Claim7 := { stood := { row := corePlacesUptoRow, standIns := [], harness := (true, "2734edf244a04478bdd493330b55485a81c192decb04f9a5b703b5f50bfad26b"), looks := true }, kinds := [], alts := [], laidByText := true, laidKinds := [.data], laidTests := true, laidLooks := .later }
def CorePlacesUptoCardSaid : Prop := Claim7.holds Tryz.pinned (.plain (OpenSpec.upto corePlacesSpec)) corePlacesUptoCard

/-- THE SECOND FORM's CARD OF 'ogivetop.CoreExact'. -/
def coreExactUptoCard : Claim7 := { stood := { row := coreExactUptoRow, standIns := [], harness := (true, "2734edf244a04478bdd493330b55485a81c192decb04f9a5b703b5f50bfad26b"), looks := true }, kinds := [], alts := [], laidByText := true, laidKinds := [.data], laidTests := true, laidLooks := .later }
def CoreExactUptoCardSaid : Prop := Claim7.holds Tryz.pinned (.plain (OpenSpec.upto coreExactSpec)) coreExactUptoCard
end Rows
end Go.Proofs.YtlbnlmhcpephbaaGreatDoor
