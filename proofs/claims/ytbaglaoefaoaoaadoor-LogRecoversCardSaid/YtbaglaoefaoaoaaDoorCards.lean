/-
  DERIVED. GIVEN WITH THE SEED: THE CARDS: each row of YtbaglaoefaoaoaaDoorRows.lean that lists a variable, with what it lists TIED to the program's text (the seventh form; the later family's looks); each row that meets fmt, with fmt's text TOLD by the authors' own Lean function (tested against real Go, not proved from fmt's source: count such statements apart). THE CARD IS WHAT COUNTS. Prove the row's statement (the work); the ties are given (YtbaglaoefaoaoaaDoorTie.lean); close each card by the builder's one call (the guide's Derived/Test/ToyasCard.lean, 'card_holds'). Laid BY PROGRAM, IN A SANDBOX (cutbox-door.mjs). By AI agents, Wed Nov 11 2026. No macro, syntax, notation, axiom, sorry.
-/
import Derived.Test.YtbaglaoefaoaoaaDoorRows
import GoSem.ClaimSeven
namespace Go.Proofs.YtbaglaoefaoaoaaDoor
namespace Rows

/-- THE TIED CARD OF 'refrainlaw23.LogOpens'. -/
def logOpensCard : Claim7 := { stood := { row := logOpensRow, standIns := [], harness := (true, "bbdc8a298986547817722c3c50a359b8abbcd9065ad0ae360366a48da339d1eb"), looks := false }, kinds := [], alts := [], laidByText := true, laidKinds := [.data], laidTests := true, laidLooks := .later }
def LogOpensCardSaid : Prop := Claim7.holds Tryd.pinned (.plain (OpenSpec.ofChange logOpensSpec)) logOpensCard

/-- THE TIED CARD OF 'refrainlaw23.LogPlays'. -/
def logPlaysCard : Claim7 := { stood := { row := logPlaysRow, standIns := [], harness := (true, "bbdc8a298986547817722c3c50a359b8abbcd9065ad0ae360366a48da339d1eb"), looks := false }, kinds := [], alts := [], laidByText := true, laidKinds := [.data], laidTests := true, laidLooks := .later }
def LogPlaysCardSaid : Prop := Claim7.holds Tryd.pinned (.plain (OpenSpec.ofChange logPlaysSpec)) logPlaysCard

/-- THE TIED CARD OF 'refrainlaw23.LogRecovers'. -/
def logRecoversCard : Claim7 := { stood := { row := logRecoversRow, standIns := [], harness := (true, "bbdc8a298986547817722c3c50a359b8abbcd9065ad0ae360366a48da339d1eb"), looks := false }, kinds := [], alts := [], laidByText := true, laidKinds := [.data], laidTests := true, laidLooks := .later }
def LogRecoversCardSaid : Prop := Claim7.holds Tryd.pinned (.plain (OpenSpec.ofChange logRecoversSpec)) logRecoversCard

/-- THE TIED CARD OF 'refrainlaw23.LogDamage'. -/
def logDamageCard : Claim7 := { stood := { row := logDamageRow, standIns := [], harness := (true, "bbdc8a298986547817722c3c50a359b8abbcd9065ad0ae360366a48da339d1eb"), looks := false }, kinds := [], alts := [], laidByText := true, laidKinds := [.data], laidTests := true, laidLooks := .later }
def LogDamageCardSaid : Prop := Claim7.holds Tryd.pinned (.plain (OpenSpec.ofChange logDamageSpec)) logDamageCard

/-- THE TIED CARD OF 'refrainlaw23.LogFresh'. -/
def logFreshCard : Claim7 := { stood := { row := logFreshRow, standIns := [], harness := (true, "bbdc8a298986547817722c3c50a359b8abbcd9065ad0ae360366a48da339d1eb"), looks := false }, kinds := [], alts := [], laidByText := true, laidKinds := [.data], laidTests := true, laidLooks := .later }
def LogFreshCardSaid : Prop := Claim7.holds Tryd.pinned (.plain (OpenSpec.ofChange logFreshSpec)) logFreshCard

/-- THE SECOND FORM's CARD OF 'refrainlaw23.LogOpens'. -/
def logOpensUptoCard : Claim7 := { stood := { row := logOpensUptoRow, standIns := [], harness := (true, "bbdc8a298986547817722c3c50a359b8abbcd9065ad0ae360366a48da339d1eb"), looks := false }, kinds := [], alts := [], laidByText := true, laidKinds := [.data], laidTests := true, laidLooks := .later }
def LogOpensUptoCardSaid : Prop := Claim7.holds Tryd.pinned (.plain (OpenSpec.upto logOpensSpec)) logOpensUptoCard

/-- THE SECOND FORM's CARD OF 'refrainlaw23.LogPlays'. -/
def logPlaysUptoCard : Claim7 := { stood := { row := logPlaysUptoRow, standIns := [], harness := (true, "bbdc8a298986547817722c3c50a359b8abbcd9065ad0ae360366a48da339d1eb"), looks := false }, kinds := [], alts := [], laidByText := true, laidKinds := [.data], laidTests := true, laidLooks := .later }
def LogPlaysUptoCardSaid : Prop := Claim7.holds Tryd.pinned (.plain (OpenSpec.upto logPlaysSpec)) logPlaysUptoCard

/-- THE SECOND FORM's CARD OF 'refrainlaw23.LogRecovers'. -/
def logRecoversUptoCard : Claim7 := { stood := { row := logRecoversUptoRow, standIns := [], harness := (true, "bbdc8a298986547817722c3c50a359b8abbcd9065ad0ae360366a48da339d1eb"), looks := false }, kinds := [], alts := [], laidByText := true, laidKinds := [.data], laidTests := true, laidLooks := .later }
def LogRecoversUptoCardSaid : Prop := Claim7.holds Tryd.pinned (.plain (OpenSpec.upto logRecoversSpec)) logRecoversUptoCard

/-- THE SECOND FORM's CARD OF 'refrainlaw23.LogDamage'. -/
def logDamageUptoCard : Claim7 := { stood := { row := logDamageUptoRow, standIns := [], harness := (true, "bbdc8a298986547817722c3c50a359b8abbcd9065ad0ae360366a48da339d1eb"), looks := false }, kinds := [], alts := [], laidByText := true, laidKinds := [.data], laidTests := true, laidLooks := .later }
def LogDamageUptoCardSaid : Prop := Claim7.holds Tryd.pinned (.plain (OpenSpec.upto logDamageSpec)) logDamageUptoCard

/-- THE SECOND FORM's CARD OF 'refrainlaw23.LogFresh'. -/
def logFreshUptoCard : Claim7 := { stood := { row := logFreshUptoRow, standIns := [], harness := (true, "bbdc8a298986547817722c3c50a359b8abbcd9065ad0ae360366a48da339d1eb"), looks := false }, kinds := [], alts := [], laidByText := true, laidKinds := [.data], laidTests := true, laidLooks := .later }
def LogFreshUptoCardSaid : Prop := Claim7.holds Tryd.pinned (.plain (OpenSpec.upto logFreshSpec)) logFreshUptoCard
end Rows
end Go.Proofs.YtbaglaoefaoaoaaDoor
