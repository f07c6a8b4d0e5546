/-
  DERIVED. GIVEN WITH THE SEED: THE CARDS: each row of YtofaihacmoacjaaDoorRows.lean that lists a variable, with what it lists TIED to the program's text (the seventh form; the later family's looks); each row that meets fmt, with fmt's text TOLD by the authors' own Lean function (tested against real Go, not proved from fmt's source: count such statements apart). THE CARD IS WHAT COUNTS. Prove the row's statement (the work); the ties are given (YtofaihacmoacjaaDoorTie.lean); close each card by the builder's one call (the guide's Derived/Test/ToyasCard.lean, 'card_holds'). Laid BY PROGRAM, IN A SANDBOX (cutbox-door.mjs). By AI agents, Wed Nov 11 2026. No macro, syntax, notation, axiom, sorry.
-/
import Derived.Test.YtofaihacmoacjaaDoorRows
import GoSem.ClaimSeven
namespace Go.Proofs.YtofaihacmoacjaaDoor
namespace Rows

/-- THE TIED CARD OF 'refrainlaw3.WireEvents'. -/
def wireEventsCard : Claim7 := { stood := { row := wireEventsRow, standIns := [], harness := (true, "d3539a9acc98f3e464750db8f64c860c3b48f1c6aa6b09e5f422b767ffa51be4"), looks := false }, kinds := [], alts := [], laidByText := true, laidKinds := [.data], laidTests := true, laidLooks := .later }
def WireEventsCardSaid : Prop := Claim7.holds Tryd.pinned (.plain (OpenSpec.ofChange wireEventsSpec)) wireEventsCard

/-- THE TIED CARD OF 'refrainlaw3.WireInts'. -/
def wireIntsCard : Claim7 := { stood := { row := wireIntsRow, standIns := [], harness := (true, "d3539a9acc98f3e464750db8f64c860c3b48f1c6aa6b09e5f422b767ffa51be4"), looks := false }, kinds := [], alts := [], laidByText := true, laidKinds := [.data], laidTests := true, laidLooks := .later }
def WireIntsCardSaid : Prop := Claim7.holds Tryd.pinned (.plain (OpenSpec.ofChange wireIntsSpec)) wireIntsCard

/-- THE TIED CARD OF 'refrainlaw3.WireOneForm'. -/
def wireOneFormCard : Claim7 := { stood := { row := wireOneFormRow, standIns := [], harness := (true, "d3539a9acc98f3e464750db8f64c860c3b48f1c6aa6b09e5f422b767ffa51be4"), looks := false }, kinds := [], alts := [], laidByText := true, laidKinds := [.data], laidTests := true, laidLooks := .later }
def WireOneFormCardSaid : Prop := Claim7.holds Tryd.pinned (.plain (OpenSpec.ofChange wireOneFormSpec)) wireOneFormCard

/-- THE TIED CARD OF 'refrainlaw3.WireBatches'. -/
def wireBatchesCard : Claim7 := { stood := { row := wireBatchesRow, standIns := [], harness := (true, "d3539a9acc98f3e464750db8f64c860c3b48f1c6aa6b09e5f422b767ffa51be4"), looks := false }, kinds := [], alts := [], laidByText := true, laidKinds := [.data], laidTests := true, laidLooks := .later }
def WireBatchesCardSaid : Prop := Claim7.holds Tryd.pinned (.plain (OpenSpec.ofChange wireBatchesSpec)) wireBatchesCard

/-- THE TIED CARD OF 'refrainlaw3.WireBatchForm'. -/
def wireBatchFormCard : Claim7 := { stood := { row := wireBatchFormRow, standIns := [], harness := (true, "d3539a9acc98f3e464750db8f64c860c3b48f1c6aa6b09e5f422b767ffa51be4"), looks := false }, kinds := [], alts := [], laidByText := true, laidKinds := [.data], laidTests := true, laidLooks := .later }
def WireBatchFormCardSaid : Prop := Claim7.holds Tryd.pinned (.plain (OpenSpec.ofChange wireBatchFormSpec)) wireBatchFormCard

/-- THE TIED CARD OF 'refrainlaw3.WireDamage'. -/
def wireDamageCard : Claim7 := { stood := { row := wireDamageRow, standIns := [], harness := (true, "d3539a9acc98f3e464750db8f64c860c3b48f1c6aa6b09e5f422b767ffa51be4"), looks := false }, kinds := [], alts := [], laidByText := true, laidKinds := [.data], laidTests := true, laidLooks := .later }
def WireDamageCardSaid : Prop := Claim7.holds Tryd.pinned (.plain (OpenSpec.ofChange wireDamageSpec)) wireDamageCard

/-- THE TIED CARD OF 'refrainlaw3.WireFresh'. -/
def wireFreshCard : Claim7 := { stood := { row := wireFreshRow, standIns := [], harness := (true, "d3539a9acc98f3e464750db8f64c860c3b48f1c6aa6b09e5f422b767ffa51be4"), looks := false }, kinds := [], alts := [], laidByText := true, laidKinds := [.data], laidTests := true, laidLooks := .later }
def WireFreshCardSaid : Prop := Claim7.holds Tryd.pinned (.plain (OpenSpec.ofChange wireFreshSpec)) wireFreshCard

/-- THE TIED CARD OF 'refrainlaw3.WireScript'. -/
def wireScriptCard : Claim7 := { stood := { row := wireScriptRow, standIns := [], harness := (true, "d3539a9acc98f3e464750db8f64c860c3b48f1c6aa6b09e5f422b767ffa51be4"), looks := false }, kinds := [], alts := [], laidByText := true, laidKinds := [.data], laidTests := true, laidLooks := .later }
def WireScriptCardSaid : Prop := Claim7.holds Tryd.pinned (.plain (OpenSpec.ofChange wireScriptSpec)) wireScriptCard

/-- THE SECOND FORM's CARD OF 'refrainlaw3.WireEvents'. -/
def wireEventsUptoCard : Claim7 := { stood := { row := wireEventsUptoRow, standIns := [], harness := (true, "d3539a9acc98f3e464750db8f64c860c3b48f1c6aa6b09e5f422b767ffa51be4"), looks := false }, kinds := [], alts := [], laidByText := true, laidKinds := [.data], laidTests := true, laidLooks := .later }
def WireEventsUptoCardSaid : Prop := Claim7.holds Tryd.pinned (.plain (OpenSpec.upto wireEventsSpec)) wireEventsUptoCard

/-- THE SECOND FORM's CARD OF 'refrainlaw3.WireInts'. -/
def wireIntsUptoCard : Claim7 := { stood := { row := wireIntsUptoRow, standIns := [], harness := (true, "d3539a9acc98f3e464750db8f64c860c3b48f1c6aa6b09e5f422b767ffa51be4"), looks := false }, kinds := [], alts := [], laidByText := true, laidKinds := [.data], laidTests := true, laidLooks := .later }
def WireIntsUptoCardSaid : Prop := Claim7.holds Tryd.pinned (.plain (OpenSpec.upto wireIntsSpec)) wireIntsUptoCard

/-- THE SECOND FORM's CARD OF 'refrainlaw3.WireOneForm'. -/
def wireOneFormUptoCard : Claim7 := { stood := { row := wireOneFormUptoRow, standIns := [], harness := (true, "d3539a9acc98f3e464750db8f64c860c3b48f1c6aa6b09e5f422b767ffa51be4"), looks := false }, kinds := [], alts := [], laidByText := true, laidKinds := [.data], laidTests := true, laidLooks := .later }
def WireOneFormUptoCardSaid : Prop := Claim7.holds Tryd.pinned (.plain (OpenSpec.upto wireOneFormSpec)) wireOneFormUptoCard

/-- THE SECOND FORM's CARD OF 'refrainlaw3.WireBatches'. -/
def wireBatchesUptoCard : Claim7 := { stood := { row := wireBatchesUptoRow, standIns := [], harness := (true, "d3539a9acc98f3e464750db8f64c860c3b48f1c6aa6b09e5f422b767ffa51be4"), looks := false }, kinds := [], alts := [], laidByText := true, laidKinds := [.data], laidTests := true, laidLooks := .later }
def WireBatchesUptoCardSaid : Prop := Claim7.holds Tryd.pinned (.plain (OpenSpec.upto wireBatchesSpec)) wireBatchesUptoCard

/-- THE SECOND FORM's CARD OF 'refrainlaw3.WireBatchForm'. -/
def wireBatchFormUptoCard : Claim7 := { stood := { row := wireBatchFormUptoRow, standIns := [], harness := (true, "d3539a9acc98f3e464750db8f64c860c3b48f1c6aa6b09e5f422b767ffa51be4"), looks := false }, kinds := [], alts := [], laidByText := true, laidKinds := [.data], laidTests := true, laidLooks := .later }
def WireBatchFormUptoCardSaid : Prop := Claim7.holds Tryd.pinned (.plain (OpenSpec.upto wireBatchFormSpec)) wireBatchFormUptoCard

/-- THE SECOND FORM's CARD OF 'refrainlaw3.WireDamage'. -/
def wireDamageUptoCard : Claim7 := { stood := { row := wireDamageUptoRow, standIns := [], harness := (true, "d3539a9acc98f3e464750db8f64c860c3b48f1c6aa6b09e5f422b767ffa51be4"), looks := false }, kinds := [], alts := [], laidByText := true, laidKinds := [.data], laidTests := true, laidLooks := .later }
def WireDamageUptoCardSaid : Prop := Claim7.holds Tryd.pinned (.plain (OpenSpec.upto wireDamageSpec)) wireDamageUptoCard

/-- THE SECOND FORM's CARD OF 'refrainlaw3.WireFresh'. -/
def wireFreshUptoCard : Claim7 := { stood := { row := wireFreshUptoRow, standIns := [], harness := (true, "d3539a9acc98f3e464750db8f64c860c3b48f1c6aa6b09e5f422b767ffa51be4"), looks := false }, kinds := [], alts := [], laidByText := true, laidKinds := [.data], laidTests := true, laidLooks := .later }
def WireFreshUptoCardSaid : Prop := Claim7.holds Tryd.pinned (.plain (OpenSpec.upto wireFreshSpec)) wireFreshUptoCard

/-- THE SECOND FORM's CARD OF 'refrainlaw3.WireScript'. -/
def wireScriptUptoCard : Claim7 := { stood := { row := wireScriptUptoRow, standIns := [], harness := (true, "d3539a9acc98f3e464750db8f64c860c3b48f1c6aa6b09e5f422b767ffa51be4"), looks := false }, kinds := [], alts := [], laidByText := true, laidKinds := [.data], laidTests := true, laidLooks := .later }
def WireScriptUptoCardSaid : Prop := Claim7.holds Tryd.pinned (.plain (OpenSpec.upto wireScriptSpec)) wireScriptUptoCard
end Rows
end Go.Proofs.YtofaihacmoacjaaDoor
