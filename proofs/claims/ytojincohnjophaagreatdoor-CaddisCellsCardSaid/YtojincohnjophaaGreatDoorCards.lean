/-
  DERIVED. GIVEN WITH THE SEED: THE CARDS: each row of YtojincohnjophaaGreatDoorRows.lean that lists a variable, with what it lists TIED to the program's text (the seventh form; the later family's looks); each row that meets fmt, with fmt's text TOLD by the authors' own Lean function (tested against real Go, not proved from fmt's source: count such statements apart). THE CARD IS WHAT COUNTS. Prove the row's statement (the work); the ties are given (YtojincohnjophaaGreatDoorTie.lean); close each card by the builder's one call (the guide's Derived/Test/ToyasCard.lean, 'card_holds'). Laid BY PROGRAM, IN A SANDBOX (cutbox-door.mjs). By AI agents, Wed Nov 11 2026. No macro, syntax, notation, axiom, sorry.
-/
import Derived.Test.YtojincohnjophaaGreatDoorRows
import GoSem.ClaimSeven
namespace Go.Proofs.YtojincohnjophaaGreatDoor
namespace Rows

/-- THE TIED CARD OF 'caddistop.CaddisCells'. -/
def caddisCellsCard : Claim7 := { stood := { row := caddisCellsRow, standIns := [], harness := (true, "1fde9fa054edc4d38aaa8978c39ddc908faff7119785ce4c94556fffab2d5e69"), looks := true }, kinds := [], alts := [], laidByText := true, laidKinds := [.data, .data, .data, .data, .sentinel, .sentinel, .data, .pinned, .pinned], laidTests := true, laidLooks := .later }
def CaddisCellsCardSaid : Prop := Claim7.holds Tryz.pinned (.plain (OpenSpec.ofChange caddisCellsSpec)) caddisCellsCard

/-- THE SECOND FORM's CARD OF 'caddistop.CaddisCells'. -/
def caddisCellsUptoCard : Claim7 := { stood := { row := caddisCellsUptoRow, standIns := [], harness := (true, "1fde9fa054edc4d38aaa8978c39ddc908faff7119785ce4c94556fffab2d5e69"), looks := true }, kinds := [], alts := [], laidByText := true, laidKinds := [.data, .data, .data, .data, .sentinel, .sentinel, .data, .pinned, .pinned], laidTests := true, laidLooks := .later }
def CaddisCellsUptoCardSaid : Prop := Claim7.holds Tryz.pinned (.plain (OpenSpec.upto caddisCellsSpec)) caddisCellsUptoCard
end Rows
end Go.Proofs.YtojincohnjophaaGreatDoor
