/-
  DERIVED. GIVEN WITH THE SEED: THE CARDS: each row of YtcambejnmifhmaaGreatDoorRows.lean that lists a variable, with what it lists TIED to the program's text (the seventh form; the later family's looks); each row that meets fmt, with fmt's text TOLD by the authors' own Lean function (tested against real Go, not proved from fmt's source: count such statements apart). THE CARD IS WHAT COUNTS. Prove the row's statement (the work); the ties are given (YtcambejnmifhmaaGreatDoorTie.lean); close each card by the builder's one call (the guide's Derived/Test/ToyasCard.lean, 'card_holds'). Laid BY PROGRAM, IN A SANDBOX (cutbox-door.mjs). By AI agents, Wed Nov 11 2026. No macro, syntax, notation, axiom, sorry.
-/
import Derived.Test.YtcambejnmifhmaaGreatDoorRows
import GoSem.ClaimSeven
namespace Go.Proofs.YtcambejnmifhmaaGreatDoor
namespace Rows

/-- THE TIED CARD OF 'armariumlaw21.DiffReads'. -/
def diffReadsCard : Claim7 := { stood := { row := diffReadsRow, standIns := [], harness := (true, "6d9eb640827c5a46a49729b101e61281c83ca119a6a62d6926f6b9e1de25ea36"), looks := false }, kinds := [], alts := [], laidByText := true, laidKinds := [.data, .pinned], laidTests := true, laidLooks := .later }
def DiffReadsCardSaid : Prop := Claim7.holds Tryz.pinned (.plain (OpenSpec.ofChange diffReadsSpec)) diffReadsCard

/-- THE SECOND FORM's CARD OF 'armariumlaw21.DiffReads'. -/
def diffReadsUptoCard : Claim7 := { stood := { row := diffReadsUptoRow, standIns := [], harness := (true, "6d9eb640827c5a46a49729b101e61281c83ca119a6a62d6926f6b9e1de25ea36"), looks := false }, kinds := [], alts := [], laidByText := true, laidKinds := [.data, .pinned], laidTests := true, laidLooks := .later }
def DiffReadsUptoCardSaid : Prop := Claim7.holds Tryz.pinned (.plain (OpenSpec.upto diffReadsSpec)) diffReadsUptoCard
end Rows
end Go.Proofs.YtcambejnmifhmaaGreatDoor
