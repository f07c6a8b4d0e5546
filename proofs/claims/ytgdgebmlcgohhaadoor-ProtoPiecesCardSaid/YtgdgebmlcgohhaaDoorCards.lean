/-
  DERIVED. GIVEN WITH THE SEED: THE CARDS: each row of YtgdgebmlcgohhaaDoorRows.lean that lists a variable, with what it lists TIED to the program's text (the seventh form; the later family's looks); each row that meets fmt, with fmt's text TOLD by the authors' own Lean function (tested against real Go, not proved from fmt's source: count such statements apart). THE CARD IS WHAT COUNTS. Prove the row's statement (the work); the ties are given (YtgdgebmlcgohhaaDoorTie.lean); close each card by the builder's one call (the guide's Derived/Test/ToyasCard.lean, 'card_holds'). Laid BY PROGRAM, IN A SANDBOX (cutbox-door.mjs). By AI agents, Wed Nov 11 2026. No macro, syntax, notation, axiom, sorry.
-/
import Derived.Test.YtgdgebmlcgohhaaDoorRows
import GoSem.ClaimSeven
namespace Go.Proofs.YtgdgebmlcgohhaaDoor
namespace Rows

/-- THE TIED CARD OF 'refrainlaw30.ProtoThere'. -/
def protoThereCard : Claim7 := { stood := { row := protoThereRow, standIns := [], harness := (true, "1957d202eb70f72e40cadd31887bebd87d94d176502487a70cb41ca7aa95e1ae"), looks := false }, kinds := [], alts := [], laidByText := true, laidKinds := [.data, .data], laidTests := true, laidLooks := .later }
def ProtoThereCardSaid : Prop := Claim7.holds Tryd.pinned (.plain (OpenSpec.ofChange protoThereSpec)) protoThereCard

/-- THE TIED CARD OF 'refrainlaw30.ProtoStreams'. -/
def protoStreamsCard : Claim7 := { stood := { row := protoStreamsRow, standIns := [], harness := (true, "1957d202eb70f72e40cadd31887bebd87d94d176502487a70cb41ca7aa95e1ae"), looks := false }, kinds := [], alts := [], laidByText := true, laidKinds := [.data, .data], laidTests := true, laidLooks := .later }
def ProtoStreamsCardSaid : Prop := Claim7.holds Tryd.pinned (.plain (OpenSpec.ofChange protoStreamsSpec)) protoStreamsCard

/-- THE TIED CARD OF 'refrainlaw30.ProtoPieces'. -/
def protoPiecesCard : Claim7 := { stood := { row := protoPiecesRow, standIns := [], harness := (true, "1957d202eb70f72e40cadd31887bebd87d94d176502487a70cb41ca7aa95e1ae"), looks := false }, kinds := [], alts := [], laidByText := true, laidKinds := [.data, .data], laidTests := true, laidLooks := .later }
def ProtoPiecesCardSaid : Prop := Claim7.holds Tryd.pinned (.plain (OpenSpec.ofChange protoPiecesSpec)) protoPiecesCard

/-- THE TIED CARD OF 'refrainlaw30.ProtoDamage'. -/
def protoDamageCard : Claim7 := { stood := { row := protoDamageRow, standIns := [], harness := (true, "1957d202eb70f72e40cadd31887bebd87d94d176502487a70cb41ca7aa95e1ae"), looks := false }, kinds := [], alts := [], laidByText := true, laidKinds := [.data, .data], laidTests := true, laidLooks := .later }
def ProtoDamageCardSaid : Prop := Claim7.holds Tryd.pinned (.plain (OpenSpec.ofChange protoDamageSpec)) protoDamageCard

/-- THE SECOND FORM's CARD OF 'refrainlaw30.ProtoThere'. -/
def protoThereUptoCard : Claim7 := { stood := { row := protoThereUptoRow, standIns := [], harness := (true, "1957d202eb70f72e40cadd31887bebd87d94d176502487a70cb41ca7aa95e1ae"), looks := false }, kinds := [], alts := [], laidByText := true, laidKinds := [.data, .data], laidTests := true, laidLooks := .later }
def ProtoThereUptoCardSaid : Prop := Claim7.holds Tryd.pinned (.plain (OpenSpec.upto protoThereSpec)) protoThereUptoCard

/-- THE SECOND FORM's CARD OF 'refrainlaw30.ProtoStreams'. -/
def protoStreamsUptoCard : Claim7 := { stood := { row := protoStreamsUptoRow, standIns := [], harness := (true, "1957d202eb70f72e40cadd31887bebd87d94d176502487a70cb41ca7aa95e1ae"), looks := false }, kinds := [], alts := [], laidByText := true, laidKinds := [.data, .data], laidTests := true, laidLooks := .later }
def ProtoStreamsUptoCardSaid : Prop := Claim7.holds Tryd.pinned (.plain (OpenSpec.upto protoStreamsSpec)) protoStreamsUptoCard

/-- THE SECOND FORM's CARD OF 'refrainlaw30.ProtoPieces'. -/
def protoPiecesUptoCard : Claim7 := { stood := { row := protoPiecesUptoRow, standIns := [], harness := (true, "1957d202eb70f72e40cadd31887bebd87d94d176502487a70cb41ca7aa95e1ae"), looks := false }, kinds := [], alts := [], laidByText := true, laidKinds := [.data, .data], laidTests := true, laidLooks := .later }
def ProtoPiecesUptoCardSaid : Prop := Claim7.holds Tryd.pinned (.plain (OpenSpec.upto protoPiecesSpec)) protoPiecesUptoCard

/-- THE SECOND FORM's CARD OF 'refrainlaw30.ProtoDamage'. -/
def protoDamageUptoCard : Claim7 := { stood := { row := protoDamageUptoRow, standIns := [], harness := (true, "1957d202eb70f72e40cadd31887bebd87d94d176502487a70cb41ca7aa95e1ae"), looks := false }, kinds := [], alts := [], laidByText := true, laidKinds := [.data, .data], laidTests := true, laidLooks := .later }
def ProtoDamageUptoCardSaid : Prop := Claim7.holds Tryd.pinned (.plain (OpenSpec.upto protoDamageSpec)) protoDamageUptoCard
end Rows
end Go.Proofs.YtgdgebmlcgohhaaDoor
