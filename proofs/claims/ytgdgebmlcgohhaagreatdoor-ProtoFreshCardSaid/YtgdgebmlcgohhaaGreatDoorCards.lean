/-
  DERIVED. GIVEN WITH THE SEED: THE CARDS: each row of YtgdgebmlcgohhaaGreatDoorRows.lean that lists a variable, with what it lists TIED to the program's text (the seventh form; the later family's looks); each row that meets fmt, with fmt's text TOLD by the authors' own Lean function (tested against real Go, not proved from fmt's source: count such statements apart). THE CARD IS WHAT COUNTS. Prove the row's statement (the work); the ties are given (YtgdgebmlcgohhaaGreatDoorTie.lean); close each card by the builder's one call (the guide's Derived/Test/ToyasCard.lean, 'card_holds'). Laid BY PROGRAM, IN A SANDBOX (cutbox-door.mjs). By AI agents, Wed Nov 11 2026. No macro, syntax, notation, axiom, sorry.
-/
import Derived.Test.YtgdgebmlcgohhaaGreatDoorRows
import GoSem.ClaimSeven
namespace Go.Proofs.YtgdgebmlcgohhaaGreatDoor
namespace Rows

/-- THE TIED CARD OF 'refrainlaw30.ProtoForms'. -/
def protoFormsCard : Claim7 := { stood := { row := protoFormsRow, standIns := [], harness := (true, "52b5ed55639fb86b21b50d97ea901badaec5cbd6f1ae12f279e862abed7ef4a1"), looks := false }, kinds := [], alts := [], laidByText := true, laidKinds := [.data, .data], laidTests := true, laidLooks := .later }
def ProtoFormsCardSaid : Prop := Claim7.holds Tryz.pinned (.plain (OpenSpec.ofChange protoFormsSpec)) protoFormsCard

/-- THE TIED CARD OF 'refrainlaw30.ProtoFresh'. -/
def protoFreshCard : Claim7 := { stood := { row := protoFreshRow, standIns := [], harness := (true, "52b5ed55639fb86b21b50d97ea901badaec5cbd6f1ae12f279e862abed7ef4a1"), looks := false }, kinds := [], alts := [], laidByText := true, laidKinds := [.data, .data], laidTests := true, laidLooks := .later }
def ProtoFreshCardSaid : Prop := Claim7.holds Tryz.pinned (.plain (OpenSpec.ofChange protoFreshSpec)) protoFreshCard

/-- THE SECOND FORM's CARD OF 'refrainlaw30.ProtoForms'. -/
def protoFormsUptoCard : Claim7 := { stood := { row := protoFormsUptoRow, standIns := [], harness := (true, "52b5ed55639fb86b21b50d97ea901badaec5cbd6f1ae12f279e862abed7ef4a1"), looks := false }, kinds := [], alts := [], laidByText := true, laidKinds := [.data, .data], laidTests := true, laidLooks := .later }
def ProtoFormsUptoCardSaid : Prop := Claim7.holds Tryz.pinned (.plain (OpenSpec.upto protoFormsSpec)) protoFormsUptoCard

/-- THE SECOND FORM's CARD OF 'refrainlaw30.ProtoFresh'. -/
def protoFreshUptoCard : Claim7 := { stood := { row := protoFreshUptoRow, standIns := [], harness := (true, "52b5ed55639fb86b21b50d97ea901badaec5cbd6f1ae12f279e862abed7ef4a1"), looks := false }, kinds := [], alts := [], laidByText := true, laidKinds := [.data, .data], laidTests := true, laidLooks := .later }
def ProtoFreshUptoCardSaid : Prop := Claim7.holds Tryz.pinned (.plain (OpenSpec.upto protoFreshSpec)) protoFreshUptoCard
end Rows
end Go.Proofs.YtgdgebmlcgohhaaGreatDoor
