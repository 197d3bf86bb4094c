/-
  DERIVED. GIVEN WITH THE SEED: THE CARDS: each row of YtnlopdmhdiegnaaGreatDoorRows.lean that lists a variable, with what it lists TIED to the program's text (the seventh form; the later family's looks); each row that meets fmt, with fmt's text TOLD by the authors' own Lean function (tested against real Go, not proved from fmt's source: count such statements apart). THE CARD IS WHAT COUNTS. Prove the row's statement (the work); the ties are given (YtnlopdmhdiegnaaGreatDoorTie.lean); close each card by the builder's one call (the guide's Derived/Test/ToyasCard.lean, 'card_holds'). Laid BY PROGRAM, IN A SANDBOX (cutbox-door.mjs). By AI agents, Wed Nov 11 2026. No macro, syntax, notation, axiom, sorry.
-/
import Derived.Test.YtnlopdmhdiegnaaGreatDoorRows
import GoSem.ClaimSeven
namespace Go.Proofs.YtnlopdmhdiegnaaGreatDoor
namespace Rows

/-- THE TIED CARD OF 'pensiontop.TopFew'. -/
def topFewCard : Claim7 := { stood := { row := topFewRow, standIns := [], harness := (true, "eaafa186f59ee6bb1cb90bb090592bcc61f43fa6cb1b4d065d34b420dd868a66"), looks := false }, kinds := [], alts := [], laidByText := true, laidKinds := [.data, .data, .data], laidTests := true, laidLooks := .later }
def TopFewCardSaid : Prop := Claim7.holds Tryz.pinned (.plain (OpenSpec.ofChange topFewSpec)) topFewCard

/-- THE TIED CARD OF 'pensiontop.TopAllFew'. -/
def topAllFewCard : Claim7 := { stood := { row := topAllFewRow, standIns := [], harness := (true, "eaafa186f59ee6bb1cb90bb090592bcc61f43fa6cb1b4d065d34b420dd868a66"), looks := false }, kinds := [], alts := [], laidByText := true, laidKinds := [.data, .data, .data], laidTests := true, laidLooks := .later }
def TopAllFewCardSaid : Prop := Claim7.holds Tryz.pinned (.plain (OpenSpec.ofChange topAllFewSpec)) topAllFewCard

/-- THE SECOND FORM's CARD OF 'pensiontop.TopFew'. -/
def topFewUptoCard : Claim7 := { stood := { row := topFewUptoRow, standIns := [], harness := (true, "eaafa186f59ee6bb1cb90bb090592bcc61f43fa6cb1b4d065d34b420dd868a66"), looks := false }, kinds := [], alts := [], laidByText := true, laidKinds := [.data, .data, .data], laidTests := true, laidLooks := .later }
def TopFewUptoCardSaid : Prop := Claim7.holds Tryz.pinned (.plain (OpenSpec.upto topFewSpec)) topFewUptoCard

/-- THE SECOND FORM's CARD OF 'pensiontop.TopAllFew'. -/
def topAllFewUptoCard : Claim7 := { stood := { row := topAllFewUptoRow, standIns := [], harness := (true, "eaafa186f59ee6bb1cb90bb090592bcc61f43fa6cb1b4d065d34b420dd868a66"), looks := false }, kinds := [], alts := [], laidByText := true, laidKinds := [.data, .data, .data], laidTests := true, laidLooks := .later }
def TopAllFewUptoCardSaid : Prop := Claim7.holds Tryz.pinned (.plain (OpenSpec.upto topAllFewSpec)) topAllFewUptoCard
end Rows
end Go.Proofs.YtnlopdmhdiegnaaGreatDoor
