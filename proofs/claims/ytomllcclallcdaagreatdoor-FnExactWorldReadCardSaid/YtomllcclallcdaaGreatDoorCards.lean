/-
  DERIVED. GIVEN WITH THE SEED: THE CARDS: each row of YtomllcclallcdaaGreatDoorRows.lean that lists a variable, with what it lists TIED to the program's text (the seventh form; the later family's looks); each row that meets fmt, with fmt's text TOLD by the authors' own Lean function (tested against real Go, not proved from fmt's source: count such statements apart). THE CARD IS WHAT COUNTS. Prove the row's statement (the work); the ties are given (YtomllcclallcdaaGreatDoorTie.lean); close each card by the builder's one call (the guide's Derived/Test/ToyasCard.lean, 'card_holds'). Laid BY PROGRAM, IN A SANDBOX (cutbox-door.mjs). By AI agents, Wed Nov 11 2026. No macro, syntax, notation, axiom, sorry.
-/
import Derived.Test.YtomllcclallcdaaGreatDoorRows
import GoSem.ClaimSeven
namespace Go.Proofs.YtomllcclallcdaaGreatDoor
namespace Rows

/-- THE TIED CARD OF 'laws.FnExactWorldRead'. -/
def fnExactWorldReadCard : Claim7 := { stood := { row := fnExactWorldReadRow, standIns := [], harness := (true, "a45f9e01b8bf4da765745d67e427268fffd63e4ba701558b01325bea0fc4314d"), looks := true }, kinds := [], alts := [], laidByText := true, laidKinds := [.data, .data, .data, .data, .sentinel, .sentinel, .pinned], laidTests := true, laidLooks := .later }
def FnExactWorldReadCardSaid : Prop := Claim7.holds Tryz.pinned (.plain (OpenSpec.ofChange fnExactWorldReadSpec)) fnExactWorldReadCard

/-- THE SECOND FORM's CARD OF 'laws.FnExactWorldRead'. -/
def fnExactWorldReadUptoCard : Claim7 := { stood := { row := fnExactWorldReadUptoRow, standIns := [], harness := (true, "a45f9e01b8bf4da765745d67e427268fffd63e4ba701558b01325bea0fc4314d"), looks := true }, kinds := [], alts := [], laidByText := true, laidKinds := [.data, .data, .data, .data, .sentinel, .sentinel, .pinned], laidTests := true, laidLooks := .later }
def FnExactWorldReadUptoCardSaid : Prop := Claim7.holds Tryz.pinned (.plain (OpenSpec.upto fnExactWorldReadSpec)) fnExactWorldReadUptoCard
end Rows
end Go.Proofs.YtomllcclallcdaaGreatDoor
