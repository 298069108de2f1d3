/-
  DERIVED. GIVEN WITH THE SEED: THE CARDS: each row of YtplfiheejecjiaaGreatDoorRows.lean that lists a variable, with what it lists TIED to the program's text (the seventh form; the later family's looks); each row that meets fmt, with fmt's text TOLD by the authors' own Lean function (tested against real Go, not proved from fmt's source: count such statements apart). THE CARD IS WHAT COUNTS. Prove the row's statement (the work); the ties are given (YtplfiheejecjiaaGreatDoorTie.lean); close each card by the builder's one call (the guide's Derived/Test/ToyasCard.lean, 'card_holds'). Laid BY PROGRAM, IN A SANDBOX (cutbox-door.mjs). By AI agents, Wed Nov 11 2026. No macro, syntax, notation, axiom, sorry.
-/
import Derived.Test.YtplfiheejecjiaaGreatDoorRows
import GoSem.ClaimSeven
namespace Go.Proofs.YtplfiheejecjiaaGreatDoor
namespace Rows

/-- THE TIED CARD OF 'ogivelaw13.BinsFinds'. -/
def binsFindsCard : Claim7 := { stood := { row := binsFindsRow, standIns := [], harness := (true, "ba509935f95d3e3644a1b61f74e6b74b0ea856c72452da1d35e3d80fbce9cb98"), looks := true }, kinds := [], alts := [], laidByText := true, laidKinds := [.data], laidTests := true, laidLooks := .later }
def BinsFindsCardSaid : Prop := Claim7.holds Tryz.pinned (.plain (OpenSpec.ofChange binsFindsSpec)) binsFindsCard

/-- THE TIED CARD OF 'ogivelaw13.BinsRanks'. -/
def binsRanksCard : Claim7 := { stood := { row := binsRanksRow, standIns := [], harness := (true, "ba509935f95d3e3644a1b61f74e6b74b0ea856c72452da1d35e3d80fbce9cb98"), looks := true }, kinds := [], alts := [], laidByText := true, laidKinds := [.data], laidTests := true, laidLooks := .later }
def BinsRanksCardSaid : Prop := Claim7.holds Tryz.pinned (.plain (OpenSpec.ofChange binsRanksSpec)) binsRanksCard

/-- THE TIED CARD OF 'ogivelaw13.BinsMerges'. -/
def binsMergesCard : Claim7 := { stood := { row := binsMergesRow, standIns := [], harness := (true, "ba509935f95d3e3644a1b61f74e6b74b0ea856c72452da1d35e3d80fbce9cb98"), looks := true }, kinds := [], alts := [], laidByText := true, laidKinds := [.data], laidTests := true, laidLooks := .later }
def BinsMergesCardSaid : Prop := Claim7.holds Tryz.pinned (.plain (OpenSpec.ofChange binsMergesSpec)) binsMergesCard

/-- THE TIED CARD OF 'ogivelaw13.BinsLoads'. -/
def binsLoadsCard : Claim7 := { stood := { row := binsLoadsRow, standIns := [], harness := (true, "ba509935f95d3e3644a1b61f74e6b74b0ea856c72452da1d35e3d80fbce9cb98"), looks := true }, kinds := [], alts := [], laidByText := true, laidKinds := [.data], laidTests := true, laidLooks := .later }
def BinsLoadsCardSaid : Prop := Claim7.holds Tryz.pinned (.plain (OpenSpec.ofChange binsLoadsSpec)) binsLoadsCard

/-- THE TIED CARD OF 'ogivelaw13.BinsAdds'. -/
def binsAddsCard : Claim7 := { stood := { row := binsAddsRow, standIns := [], harness := (true, "ba509935f95d3e3644a1b61f74e6b74b0ea856c72452da1d35e3d80fbce9cb98"), looks := true }, kinds := [], alts := [], laidByText := true, laidKinds := [.data], laidTests := true, laidLooks := .later }
def BinsAddsCardSaid : Prop := Claim7.holds Tryz.pinned (.plain (OpenSpec.ofChange binsAddsSpec)) binsAddsCard

/-- THE SECOND FORM's CARD OF 'ogivelaw13.BinsFinds'. -/
def binsFindsUptoCard : Claim7 := { stood := { row := binsFindsUptoRow, standIns := [], harness := (true, "ba509935f95d3e3644a1b61f74e6b74b0ea856c72452da1d35e3d80fbce9cb98"), looks := true }, kinds := [], alts := [], laidByText := true, laidKinds := [.data], laidTests := true, laidLooks := .later }
def BinsFindsUptoCardSaid : Prop := Claim7.holds Tryz.pinned (.plain (OpenSpec.upto binsFindsSpec)) binsFindsUptoCard

/-- THE SECOND FORM's CARD OF 'ogivelaw13.BinsRanks'. -/
def binsRanksUptoCard : Claim7 := { stood := { row := binsRanksUptoRow, standIns := [], harness := (true, "ba509935f95d3e3644a1b61f74e6b74b0ea856c72452da1d35e3d80fbce9cb98"), looks := true }, kinds := [], alts := [], laidByText := true, laidKinds := [.data], laidTests := true, laidLooks := .later }
def BinsRanksUptoCardSaid : Prop := Claim7.holds Tryz.pinned (.plain (OpenSpec.upto binsRanksSpec)) binsRanksUptoCard

/-- THE SECOND FORM's CARD OF 'ogivelaw13.BinsMerges'. -/
def binsMergesUptoCard : Claim7 := { stood := { row := binsMergesUptoRow, standIns := [], harness := (true, "ba509935f95d3e3644a1b61f74e6b74b0ea856c72452da1d35e3d80fbce9cb98"), looks := true }, kinds := [], alts := [], laidByText := true, laidKinds := [.data], laidTests := true, laidLooks := .later }
def BinsMergesUptoCardSaid : Prop := Claim7.holds Tryz.pinned (.plain (OpenSpec.upto binsMergesSpec)) binsMergesUptoCard

/-- THE SECOND FORM's CARD OF 'ogivelaw13.BinsLoads'. -/
def binsLoadsUptoCard : Claim7 := { stood := { row := binsLoadsUptoRow, standIns := [], harness := (true, "ba509935f95d3e3644a1b61f74e6b74b0ea856c72452da1d35e3d80fbce9cb98"), looks := true }, kinds := [], alts := [], laidByText := true, laidKinds := [.data], laidTests := true, laidLooks := .later }
def BinsLoadsUptoCardSaid : Prop := Claim7.holds Tryz.pinned (.plain (OpenSpec.upto binsLoadsSpec)) binsLoadsUptoCard

/-- THE SECOND FORM's CARD OF 'ogivelaw13.BinsAdds'. -/
def binsAddsUptoCard : Claim7 := { stood := { row := binsAddsUptoRow, standIns := [], harness := (true, "ba509935f95d3e3644a1b61f74e6b74b0ea856c72452da1d35e3d80fbce9cb98"), looks := true }, kinds := [], alts := [], laidByText := true, laidKinds := [.data], laidTests := true, laidLooks := .later }
def BinsAddsUptoCardSaid : Prop := Claim7.holds Tryz.pinned (.plain (OpenSpec.upto binsAddsSpec)) binsAddsUptoCard
end Rows
end Go.Proofs.YtplfiheejecjiaaGreatDoor
