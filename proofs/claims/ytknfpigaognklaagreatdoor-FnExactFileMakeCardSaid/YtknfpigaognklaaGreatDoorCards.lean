/-
  DERIVED. GIVEN WITH THE SEED: THE CARDS: each row of YtknfpigaognklaaGreatDoorRows.lean that lists a variable, with what it lists TIED to the program's text (the seventh form; the later family's looks); each row that meets fmt, with fmt's text TOLD by the authors' own Lean function (tested against real Go, not proved from fmt's source: count such statements apart). THE CARD IS WHAT COUNTS. Prove the row's statement (the work); the ties are given (YtknfpigaognklaaGreatDoorTie.lean); close each card by the builder's one call (the guide's Derived/Test/ToyasCard.lean, 'card_holds'). Laid BY PROGRAM, IN A SANDBOX (cutbox-door.mjs). By AI agents, Wed Nov 11 2026. No macro, syntax, notation, axiom, sorry.
-/
import Derived.Test.YtknfpigaognklaaGreatDoorRows
import GoSem.ClaimSeven
namespace Go.Proofs.YtknfpigaognklaaGreatDoor
namespace Rows

/-- THE TIED CARD OF 'laws.FnExactWorldText'. -/
def fnExactWorldTextCard : Claim7 := { stood := { row := fnExactWorldTextRow, standIns := [], harness := (true, "b1aed55cb217b2b0465207b95bf168aa5be76ea6b5a22668aa26bee549f6ac93"), looks := true }, kinds := [], alts := [], laidByText := true, laidKinds := [.data, .data, .data], laidTests := true, laidLooks := .later }
def FnExactWorldTextCardSaid : Prop := Claim7.holds Tryz.pinned (.plain (OpenSpec.ofChange fnExactWorldTextSpec)) fnExactWorldTextCard

/-- THE TIED CARD OF 'laws.FnExactWorldBoard'. -/
def fnExactWorldBoardCard : Claim7 := { stood := { row := fnExactWorldBoardRow, standIns := [], harness := (true, "b1aed55cb217b2b0465207b95bf168aa5be76ea6b5a22668aa26bee549f6ac93"), looks := true }, kinds := [], alts := [], laidByText := true, laidKinds := [.data, .data, .data], laidTests := true, laidLooks := .later }
def FnExactWorldBoardCardSaid : Prop := Claim7.holds Tryz.pinned (.plain (OpenSpec.ofChange fnExactWorldBoardSpec)) fnExactWorldBoardCard

/-- THE TIED CARD OF 'laws.FnExactFileDrop'. -/
def fnExactFileDropCard : Claim7 := { stood := { row := fnExactFileDropRow, standIns := [], harness := (true, "b1aed55cb217b2b0465207b95bf168aa5be76ea6b5a22668aa26bee549f6ac93"), looks := true }, kinds := [], alts := [], laidByText := true, laidKinds := [.handle], laidTests := true, laidLooks := .later }
def FnExactFileDropCardSaid : Prop := Claim7.holds Tryz.pinned (.plain (OpenSpec.ofChange fnExactFileDropSpec)) fnExactFileDropCard

/-- THE TIED CARD OF 'laws.FnExactFileMake'. -/
def fnExactFileMakeCard : Claim7 := { stood := { row := fnExactFileMakeRow, standIns := [], harness := (true, "b1aed55cb217b2b0465207b95bf168aa5be76ea6b5a22668aa26bee549f6ac93"), looks := true }, kinds := [], alts := [], laidByText := true, laidKinds := [.handle], laidTests := true, laidLooks := .later }
def FnExactFileMakeCardSaid : Prop := Claim7.holds Tryz.pinned (.plain (OpenSpec.ofChange fnExactFileMakeSpec)) fnExactFileMakeCard

/-- THE SECOND FORM's CARD OF 'laws.FnExactWorldText'. -/
def fnExactWorldTextUptoCard : Claim7 := { stood := { row := fnExactWorldTextUptoRow, standIns := [], harness := (true, "b1aed55cb217b2b0465207b95bf168aa5be76ea6b5a22668aa26bee549f6ac93"), looks := true }, kinds := [], alts := [], laidByText := true, laidKinds := [.data, .data, .data], laidTests := true, laidLooks := .later }
def FnExactWorldTextUptoCardSaid : Prop := Claim7.holds Tryz.pinned (.plain (OpenSpec.upto fnExactWorldTextSpec)) fnExactWorldTextUptoCard

/-- THE SECOND FORM's CARD OF 'laws.FnExactWorldBoard'. -/
def fnExactWorldBoardUptoCard : Claim7 := { stood := { row := fnExactWorldBoardUptoRow, standIns := [], harness := (true, "b1aed55cb217b2b0465207b95bf168aa5be76ea6b5a22668aa26bee549f6ac93"), looks := true }, kinds := [], alts := [], laidByText := true, laidKinds := [.data, .data, .data], laidTests := true, laidLooks := .later }
def FnExactWorldBoardUptoCardSaid : Prop := Claim7.holds Tryz.pinned (.plain (OpenSpec.upto fnExactWorldBoardSpec)) fnExactWorldBoardUptoCard

/-- THE SECOND FORM's CARD OF 'laws.FnExactFileDrop'. -/
def fnExactFileDropUptoCard : Claim7 := { stood := { row := fnExactFileDropUptoRow, standIns := [], harness := (true, "b1aed55cb217b2b0465207b95bf168aa5be76ea6b5a22668aa26bee549f6ac93"), looks := true }, kinds := [], alts := [], laidByText := true, laidKinds := [.handle], laidTests := true, laidLooks := .later }
def FnExactFileDropUptoCardSaid : Prop := Claim7.holds Tryz.pinned (.plain (OpenSpec.upto fnExactFileDropSpec)) fnExactFileDropUptoCard

/-- THE SECOND FORM's CARD OF 'laws.FnExactFileMake'. -/
def fnExactFileMakeUptoCard : Claim7 := { stood := { row := fnExactFileMakeUptoRow, standIns := [], harness := (true, "b1aed55cb217b2b0465207b95bf168aa5be76ea6b5a22668aa26bee549f6ac93"), looks := true }, kinds := [], alts := [], laidByText := true, laidKinds := [.handle], laidTests := true, laidLooks := .later }
def FnExactFileMakeUptoCardSaid : Prop := Claim7.holds Tryz.pinned (.plain (OpenSpec.upto fnExactFileMakeSpec)) fnExactFileMakeUptoCard
end Rows
end Go.Proofs.YtknfpigaognklaaGreatDoor
