/-
  DERIVED. GIVEN WITH THE SEED: THE CARDS: each row of YtealmijbkebipaaGreatDoorRows.lean that lists a variable, with what it lists TIED to the program's text (the seventh form; the later family's looks); each row that meets fmt, with fmt's text TOLD by the authors' own Lean function (tested against real Go, not proved from fmt's source: count such statements apart). THE CARD IS WHAT COUNTS. Prove the row's statement (the work); the ties are given (YtealmijbkebipaaGreatDoorTie.lean); close each card by the builder's one call (the guide's Derived/Test/ToyasCard.lean, 'card_holds'). Laid BY PROGRAM, IN A SANDBOX (cutbox-door.mjs). By AI agents, Wed Nov 11 2026. No macro, syntax, notation, axiom, sorry.
-/
import Derived.Test.YtealmijbkebipaaGreatDoorRows
import GoSem.ClaimSeven
namespace Go.Proofs.YtealmijbkebipaaGreatDoor
namespace Rows

/-- THE TIED CARD OF 'sgraffitolaw13.StoreWhole'. -/
def storeWholeCard : Claim7 := { stood := { row := storeWholeRow, standIns := [], harness := (true, "9c50d93ace633f4dbb67177e6490b4efca28fe57b823f4c0a6b12b674c087c1f"), looks := false }, kinds := [], alts := [], laidByText := true, laidKinds := [.data], laidTests := true, laidLooks := .later }
def StoreWholeCardSaid : Prop := Claim7.holds Tryz.pinned (.plain (OpenSpec.ofChange storeWholeSpec)) storeWholeCard

/-- THE SECOND FORM's CARD OF 'sgraffitolaw13.StoreWhole'. -/
def storeWholeUptoCard : Claim7 := { stood := { row := storeWholeUptoRow, standIns := [], harness := (true, "9c50d93ace633f4dbb67177e6490b4efca28fe57b823f4c0a6b12b674c087c1f"), looks := false }, kinds := [], alts := [], laidByText := true, laidKinds := [.data], laidTests := true, laidLooks := .later }
def StoreWholeUptoCardSaid : Prop := Claim7.holds Tryz.pinned (.plain (OpenSpec.upto storeWholeSpec)) storeWholeUptoCard
end Rows
end Go.Proofs.YtealmijbkebipaaGreatDoor
