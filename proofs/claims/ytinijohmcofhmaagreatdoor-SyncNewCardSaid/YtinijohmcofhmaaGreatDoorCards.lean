/-
  DERIVED. GIVEN WITH THE SEED: THE CARDS: each row of YtinijohmcofhmaaGreatDoorRows.lean that lists a variable, with what it lists TIED to the program's text (the seventh form; the later family's looks); each row that meets fmt, with fmt's text TOLD by the authors' own Lean function (tested against real Go, not proved from fmt's source: count such statements apart). THE CARD IS WHAT COUNTS. Prove the row's statement (the work); the ties are given (YtinijohmcofhmaaGreatDoorTie.lean); close each card by the builder's one call (the guide's Derived/Test/ToyasCard.lean, 'card_holds'). Laid BY PROGRAM, IN A SANDBOX (cutbox-door.mjs). By AI agents, Wed Nov 11 2026. No macro, syntax, notation, axiom, sorry.
-/
import Derived.Test.YtinijohmcofhmaaGreatDoorRows
import GoSem.ClaimSeven
namespace Go.Proofs.YtinijohmcofhmaaGreatDoor
namespace Rows

/-- THE TIED CARD OF 'linkboylaw27.SyncNew'. -/
def syncNewCard : Claim7 := { stood := { row := syncNewRow, standIns := [], harness := (true, "9e9832315976b7a5b5abdef216b4647f0fe8ac8c46d2e425740e72e8fabb6618"), looks := true }, kinds := [], alts := [], laidByText := true, laidKinds := [.data, .sentinel, .sentinel, .sentinel, .sentinel, .sentinel, .sentinel, .sentinel, .sentinel, .sentinel, .sentinel, .sentinel, .sentinel, .sentinel, .sentinel, .sentinel, .sentinel, .sentinel, .sentinel, .pinned], laidTests := true, laidLooks := .later }
def SyncNewCardSaid : Prop := Claim7.holds Tryz.pinned (.plain (OpenSpec.ofChange syncNewSpec)) syncNewCard

/-- THE SECOND FORM's CARD OF 'linkboylaw27.SyncNew'. -/
def syncNewUptoCard : Claim7 := { stood := { row := syncNewUptoRow, standIns := [], harness := (true, "9e9832315976b7a5b5abdef216b4647f0fe8ac8c46d2e425740e72e8fabb6618"), looks := true }, kinds := [], alts := [], laidByText := true, laidKinds := [.data, .sentinel, .sentinel, .sentinel, .sentinel, .sentinel, .sentinel, .sentinel, .sentinel, .sentinel, .sentinel, .sentinel, .sentinel, .sentinel, .sentinel, .sentinel, .sentinel, .sentinel, .sentinel, .pinned], laidTests := true, laidLooks := .later }
def SyncNewUptoCardSaid : Prop := Claim7.holds Tryz.pinned (.plain (OpenSpec.upto syncNewSpec)) syncNewUptoCard
end Rows
end Go.Proofs.YtinijohmcofhmaaGreatDoor
