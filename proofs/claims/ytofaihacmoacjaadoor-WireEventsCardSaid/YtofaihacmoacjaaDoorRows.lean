/-
  NARROWER THAN 'FOR EVERY INPUT', by the rows' own cells (each row's printed sentence says how): WireEvents: laid · WireInts: laid · WireOneForm: laid · WireBatches: laid · WireBatchForm: laid · WireDamage: laid · WireFresh: laid · WireScript: laid.
  DERIVED. THE GIVEN ROWS OF THIS SEAT. 8 by the template 'for every input the law returns true; each argument reads behind the call as it read before'; 0 by the template 'total and deterministic' (their statements: YtofaihacmoacjaaDoorTotals.lean).
  GIVEN WITH THE SEED: the statements are not yours to turn. If you find one false, say at which input.
  Laid BY PROGRAM, IN A SANDBOX (cutbox-rows.mjs): the forced cells as the released guide's own fill.sh prints them over the translation 1ae8bfd7b7e1f2fd… (all of the seat's roots in one cut). By AI agents, Wed Nov 11 2026. No macro, syntax, notation, axiom, sorry.
-/
import Derived.Test.YtofaihacmoacjaaDoorChecked
import GoSem.Claim
import GoSem.ClaimJoined
import GoSem.ClaimMapViews
import Derived.JoinedTies
import Derived.KernelRfl
namespace Go.Proofs.YtofaihacmoacjaaDoor
/- THE CELL 'sum', in the pinned program and in every row, IS THE sha256 OF THE DUMP (.gsa) THAT YtofaihacmoacjaaDoorProg.lean LOADS. Nothing in Lean hashes anything: it is a label: what it is worth is what the hold of that sum in a sandbox is worth. -/
noncomputable def Tryd.pinned : Pinned := { name := "ytofaihacmoacjaadoor", sum := "1ae8bfd7b7e1f2fd1ce7d56ed06d17eabb5e4453cdac03c07eddf99807fac667", checked := Tryd.checked }
namespace Rows
def none {H : Type} : Left H := { results := [], args := [] }

/- WHAT THE LISTED PACKAGE-LEVEL VARIABLES READ AS WHEN THE CALL BEGINS. Each datum BY PROGRAM (the guide's laid-datum.mjs) off the statement by which the dump's own 'gosem.cut.vars' lays the variable. In a bare row this is a premise. The card (YtofaihacmoacjaaDoorCards.lean) ties it to the program's text. -/
def laid_refrain_schema_words {H : Type} : DataW H := .agg [.lit (.string [80, 65, 84, 84, 69, 82, 78]), .lit (.string [83, 69, 81]), .lit (.string [80, 65, 82, 84, 73, 84, 73, 79, 78]), .lit (.string [66, 89]), .lit (.string [87, 72, 69, 82, 69]), .lit (.string [87, 73, 84, 72, 73, 78]), .lit (.string [82, 69, 84, 85, 82, 78]), .lit (.string [65, 78, 68]), .lit (.string [79, 82]), .lit (.string [78, 79, 84]), .lit (.string [84, 82, 85, 69]), .lit (.string [70, 65, 76, 83, 69]), .lit (.string [84, 89, 80, 69]), .lit (.string [73, 78, 84]), .lit (.string [83, 84, 82]), .lit (.string [66, 79, 79, 76])]

/-- 'refrainlaw3.WireEvents': WHATEVER THE INPUT: true; the input reads as it did. -/
def wireEventsSpec : ChangeSpec := { name := "wireEvents", fn := fun _ => fun
  | [d1, d2] => { results := [.lit (.bool true)], args := [d1, d2] }
  | _ => none }
def wireEventsRow : OpenClaim := { program := "ytofaihacmoacjaadoor", sum := "1ae8bfd7b7e1f2fd1ce7d56ed06d17eabb5e4453cdac03c07eddf99807fac667", func := "refrain/refrainlaw3.WireEvents", spec := "wireEvents", named := ["refrain/schema.words"], apart := false, laid := [("refrain/schema.words", laid_refrain_schema_words)] }
def WireEventsSaid : Prop := wireEventsRow.holds Tryd.pinned (OpenSpec.ofChange wireEventsSpec)

/-- ITS FALSE NEIGHBOUR: 'it returns false'. Refute it at one input. -/
def wireEventsWrong : ChangeSpec := { name := "wireEvents", fn := fun _ => fun
  | [d1, d2] => { results := [.lit (.bool false)], args := [d1, d2] }
  | _ => none }
def WireEventsWrongFalsely : Prop := wireEventsRow.holds Tryd.pinned (OpenSpec.ofChange wireEventsWrong)

/-- 'refrainlaw3.WireInts': WHATEVER THE INPUT: true; the input reads as it did. -/
def wireIntsSpec : ChangeSpec := { name := "wireInts", fn := fun _ => fun
  | [d1, d2] => { results := [.lit (.bool true)], args := [d1, d2] }
  | _ => none }
def wireIntsRow : OpenClaim := { program := "ytofaihacmoacjaadoor", sum := "1ae8bfd7b7e1f2fd1ce7d56ed06d17eabb5e4453cdac03c07eddf99807fac667", func := "refrain/refrainlaw3.WireInts", spec := "wireInts", named := ["refrain/schema.words"], apart := false, laid := [("refrain/schema.words", laid_refrain_schema_words)] }
def WireIntsSaid : Prop := wireIntsRow.holds Tryd.pinned (OpenSpec.ofChange wireIntsSpec)

/-- ITS FALSE NEIGHBOUR: 'it returns false'. Refute it at one input. -/
def wireIntsWrong : ChangeSpec := { name := "wireInts", fn := fun _ => fun
  | [d1, d2] => { results := [.lit (.bool false)], args := [d1, d2] }
  | _ => none }
def WireIntsWrongFalsely : Prop := wireIntsRow.holds Tryd.pinned (OpenSpec.ofChange wireIntsWrong)

/-- 'refrainlaw3.WireOneForm': WHATEVER THE INPUT: true; the input reads as it did. -/
def wireOneFormSpec : ChangeSpec := { name := "wireOneForm", fn := fun _ => fun
  | [d1, d2, d3, d4] => { results := [.lit (.bool true)], args := [d1, d2, d3, d4] }
  | _ => none }
def wireOneFormRow : OpenClaim := { program := "ytofaihacmoacjaadoor", sum := "1ae8bfd7b7e1f2fd1ce7d56ed06d17eabb5e4453cdac03c07eddf99807fac667", func := "refrain/refrainlaw3.WireOneForm", spec := "wireOneForm", named := ["refrain/schema.words"], apart := false, laid := [("refrain/schema.words", laid_refrain_schema_words)] }
def WireOneFormSaid : Prop := wireOneFormRow.holds Tryd.pinned (OpenSpec.ofChange wireOneFormSpec)

/-- ITS FALSE NEIGHBOUR: 'it returns false'. Refute it at one input. -/
def wireOneFormWrong : ChangeSpec := { name := "wireOneForm", fn := fun _ => fun
  | [d1, d2, d3, d4] => { results := [.lit (.bool false)], args := [d1, d2, d3, d4] }
  | _ => none }
def WireOneFormWrongFalsely : Prop := wireOneFormRow.holds Tryd.pinned (OpenSpec.ofChange wireOneFormWrong)

/-- 'refrainlaw3.WireBatches': WHATEVER THE INPUT: true; the input reads as it did. -/
def wireBatchesSpec : ChangeSpec := { name := "wireBatches", fn := fun _ => fun
  | [d1, d2] => { results := [.lit (.bool true)], args := [d1, d2] }
  | _ => none }
def wireBatchesRow : OpenClaim := { program := "ytofaihacmoacjaadoor", sum := "1ae8bfd7b7e1f2fd1ce7d56ed06d17eabb5e4453cdac03c07eddf99807fac667", func := "refrain/refrainlaw3.WireBatches", spec := "wireBatches", named := ["refrain/schema.words"], apart := false, laid := [("refrain/schema.words", laid_refrain_schema_words)] }
def WireBatchesSaid : Prop := wireBatchesRow.holds Tryd.pinned (OpenSpec.ofChange wireBatchesSpec)

/-- ITS FALSE NEIGHBOUR: 'it returns false'. Refute it at one input. -/
def wireBatchesWrong : ChangeSpec := { name := "wireBatches", fn := fun _ => fun
  | [d1, d2] => { results := [.lit (.bool false)], args := [d1, d2] }
  | _ => none }
def WireBatchesWrongFalsely : Prop := wireBatchesRow.holds Tryd.pinned (OpenSpec.ofChange wireBatchesWrong)

/-- 'refrainlaw3.WireBatchForm': WHATEVER THE INPUT: true; the input reads as it did. -/
def wireBatchFormSpec : ChangeSpec := { name := "wireBatchForm", fn := fun _ => fun
  | [d1, d2] => { results := [.lit (.bool true)], args := [d1, d2] }
  | _ => none }
def wireBatchFormRow : OpenClaim := { program := "ytofaihacmoacjaadoor", sum := "1ae8bfd7b7e1f2fd1ce7d56ed06d17eabb5e4453cdac03c07eddf99807fac667", func := "refrain/refrainlaw3.WireBatchForm", spec := "wireBatchForm", named := ["refrain/schema.words"], apart := false, laid := [("refrain/schema.words", laid_refrain_schema_words)] }
def WireBatchFormSaid : Prop := wireBatchFormRow.holds Tryd.pinned (OpenSpec.ofChange wireBatchFormSpec)

/-- ITS FALSE NEIGHBOUR: 'it returns false'. Refute it at one input. -/
def wireBatchFormWrong : ChangeSpec := { name := "wireBatchForm", fn := fun _ => fun
  | [d1, d2] => { results := [.lit (.bool false)], args := [d1, d2] }
  | _ => none }
def WireBatchFormWrongFalsely : Prop := wireBatchFormRow.holds Tryd.pinned (OpenSpec.ofChange wireBatchFormWrong)

/-- 'refrainlaw3.WireDamage': WHATEVER THE INPUT: true; the input reads as it did. -/
def wireDamageSpec : ChangeSpec := { name := "wireDamage", fn := fun _ => fun
  | [d1, d2, d3] => { results := [.lit (.bool true)], args := [d1, d2, d3] }
  | _ => none }
def wireDamageRow : OpenClaim := { program := "ytofaihacmoacjaadoor", sum := "1ae8bfd7b7e1f2fd1ce7d56ed06d17eabb5e4453cdac03c07eddf99807fac667", func := "refrain/refrainlaw3.WireDamage", spec := "wireDamage", named := ["refrain/schema.words"], apart := false, laid := [("refrain/schema.words", laid_refrain_schema_words)] }
def WireDamageSaid : Prop := wireDamageRow.holds Tryd.pinned (OpenSpec.ofChange wireDamageSpec)

/-- ITS FALSE NEIGHBOUR: 'it returns false'. Refute it at one input. -/
def wireDamageWrong : ChangeSpec := { name := "wireDamage", fn := fun _ => fun
  | [d1, d2, d3] => { results := [.lit (.bool false)], args := [d1, d2, d3] }
  | _ => none }
def WireDamageWrongFalsely : Prop := wireDamageRow.holds Tryd.pinned (OpenSpec.ofChange wireDamageWrong)

/-- 'refrainlaw3.WireFresh': WHATEVER THE INPUT: true; the input reads as it did. -/
def wireFreshSpec : ChangeSpec := { name := "wireFresh", fn := fun _ => fun
  | [d1, d2, d3] => { results := [.lit (.bool true)], args := [d1, d2, d3] }
  | _ => none }
def wireFreshRow : OpenClaim := { program := "ytofaihacmoacjaadoor", sum := "1ae8bfd7b7e1f2fd1ce7d56ed06d17eabb5e4453cdac03c07eddf99807fac667", func := "refrain/refrainlaw3.WireFresh", spec := "wireFresh", named := ["refrain/schema.words"], apart := false, laid := [("refrain/schema.words", laid_refrain_schema_words)] }
def WireFreshSaid : Prop := wireFreshRow.holds Tryd.pinned (OpenSpec.ofChange wireFreshSpec)

/-- ITS FALSE NEIGHBOUR: 'it returns false'. Refute it at one input. -/
def wireFreshWrong : ChangeSpec := { name := "wireFresh", fn := fun _ => fun
  | [d1, d2, d3] => { results := [.lit (.bool false)], args := [d1, d2, d3] }
  | _ => none }
def WireFreshWrongFalsely : Prop := wireFreshRow.holds Tryd.pinned (OpenSpec.ofChange wireFreshWrong)

/-- 'refrainlaw3.WireScript': WHATEVER THE INPUT: true; the input reads as it did. -/
def wireScriptSpec : ChangeSpec := { name := "wireScript", fn := fun _ => fun
  | [d1, d2] => { results := [.lit (.bool true)], args := [d1, d2] }
  | _ => none }
def wireScriptRow : OpenClaim := { program := "ytofaihacmoacjaadoor", sum := "1ae8bfd7b7e1f2fd1ce7d56ed06d17eabb5e4453cdac03c07eddf99807fac667", func := "refrain/refrainlaw3.WireScript", spec := "wireScript", named := ["refrain/schema.words"], apart := false, laid := [("refrain/schema.words", laid_refrain_schema_words)] }
def WireScriptSaid : Prop := wireScriptRow.holds Tryd.pinned (OpenSpec.ofChange wireScriptSpec)

/-- ITS FALSE NEIGHBOUR: 'it returns false'. Refute it at one input. -/
def wireScriptWrong : ChangeSpec := { name := "wireScript", fn := fun _ => fun
  | [d1, d2] => { results := [.lit (.bool false)], args := [d1, d2] }
  | _ => none }
def WireScriptWrongFalsely : Prop := wireScriptRow.holds Tryd.pinned (OpenSpec.ofChange wireScriptWrong)

/- THE SECOND FORM. 'bulk': how many values and letters a reading holds, each counted each time it is reached (what is shared counts as often as it is met; a slice's spare places count too). A statement '..UptoSaid' is the law's where the arguments, and the package variables that the reading takes, are together of bulk at most 1048576: NARROWER than '..Said'. Prove '..Said' where nothing that the law and all that it calls make is longer than what came in: it says more and counts as full. Else prove '..UptoSaid'. A law counts once. -/
mutual
def uptoBulk {H : Type} : DataW H → Nat
  | .lit (.string bytes) => bytes.length + 1
  | .lit _ => 1
  | .nil => 1
  | .ptr d => uptoBulk d + 1
  | .slice elems spare => uptoBulkAll elems + uptoBulkAll spare + 1
  | .agg parts => uptoBulkAll parts + 1
  | .iface _ d => uptoBulk d + 1
  | .map entries => uptoBulkEntries entries + 1
  | .held _ => 1
def uptoBulkAll {H : Type} : List (DataW H) → Nat
  | [] => 0
  | d :: r => uptoBulk d + uptoBulkAll r
def uptoBulkEntries {H : Type} : List (Lit × DataW H) → Nat
  | [] => 0
  | x :: r => uptoBulkEntry x + uptoBulkEntries r
def uptoBulkEntry {H : Type} : Lit × DataW H → Nat
  | (.string bytes, d) => bytes.length + uptoBulk d + 1
  | (_, d) => uptoBulk d + 1
 end
def uptoSmall : (H : Type) → List (DataW H) → Bool := fun _ ds => decide (uptoBulkAll ds ≤ 1048576)
def OpenSpec.upto (s : _root_.Go.ChangeSpec) : _root_.Go.OpenSpec := { _root_.Go.OpenSpec.ofChange s with cond := some uptoSmall }

/-- 'refrainlaw3.WireEvents', WHERE WHAT IT READS IS OF BULK AT MOST 1048576: true; the input reads as it did. -/
def wireEventsUptoRow : OpenClaim := { program := "ytofaihacmoacjaadoor", sum := "1ae8bfd7b7e1f2fd1ce7d56ed06d17eabb5e4453cdac03c07eddf99807fac667", func := "refrain/refrainlaw3.WireEvents", spec := "wireEvents", named := ["refrain/schema.words"], apart := false, laid := [("refrain/schema.words", laid_refrain_schema_words)], narrowed := true }
def WireEventsUptoSaid : Prop := wireEventsUptoRow.holds Tryd.pinned (OpenSpec.upto wireEventsSpec)

/-- 'refrainlaw3.WireInts', WHERE WHAT IT READS IS OF BULK AT MOST 1048576: true; the input reads as it did. -/
def wireIntsUptoRow : OpenClaim := { program := "ytofaihacmoacjaadoor", sum := "1ae8bfd7b7e1f2fd1ce7d56ed06d17eabb5e4453cdac03c07eddf99807fac667", func := "refrain/refrainlaw3.WireInts", spec := "wireInts", named := ["refrain/schema.words"], apart := false, laid := [("refrain/schema.words", laid_refrain_schema_words)], narrowed := true }
def WireIntsUptoSaid : Prop := wireIntsUptoRow.holds Tryd.pinned (OpenSpec.upto wireIntsSpec)

/-- 'refrainlaw3.WireOneForm', WHERE WHAT IT READS IS OF BULK AT MOST 1048576: true; the input reads as it did. -/
def wireOneFormUptoRow : OpenClaim := { program := "ytofaihacmoacjaadoor", sum := "1ae8bfd7b7e1f2fd1ce7d56ed06d17eabb5e4453cdac03c07eddf99807fac667", func := "refrain/refrainlaw3.WireOneForm", spec := "wireOneForm", named := ["refrain/schema.words"], apart := false, laid := [("refrain/schema.words", laid_refrain_schema_words)], narrowed := true }
def WireOneFormUptoSaid : Prop := wireOneFormUptoRow.holds Tryd.pinned (OpenSpec.upto wireOneFormSpec)

/-- 'refrainlaw3.WireBatches', WHERE WHAT IT READS IS OF BULK AT MOST 1048576: true; the input reads as it did. -/
def wireBatchesUptoRow : OpenClaim := { program := "ytofaihacmoacjaadoor", sum := "1ae8bfd7b7e1f2fd1ce7d56ed06d17eabb5e4453cdac03c07eddf99807fac667", func := "refrain/refrainlaw3.WireBatches", spec := "wireBatches", named := ["refrain/schema.words"], apart := false, laid := [("refrain/schema.words", laid_refrain_schema_words)], narrowed := true }
def WireBatchesUptoSaid : Prop := wireBatchesUptoRow.holds Tryd.pinned (OpenSpec.upto wireBatchesSpec)

/-- 'refrainlaw3.WireBatchForm', WHERE WHAT IT READS IS OF BULK AT MOST 1048576: true; the input reads as it did. -/
def wireBatchFormUptoRow : OpenClaim := { program := "ytofaihacmoacjaadoor", sum := "1ae8bfd7b7e1f2fd1ce7d56ed06d17eabb5e4453cdac03c07eddf99807fac667", func := "refrain/refrainlaw3.WireBatchForm", spec := "wireBatchForm", named := ["refrain/schema.words"], apart := false, laid := [("refrain/schema.words", laid_refrain_schema_words)], narrowed := true }
def WireBatchFormUptoSaid : Prop := wireBatchFormUptoRow.holds Tryd.pinned (OpenSpec.upto wireBatchFormSpec)

/-- 'refrainlaw3.WireDamage', WHERE WHAT IT READS IS OF BULK AT MOST 1048576: true; the input reads as it did. -/
def wireDamageUptoRow : OpenClaim := { program := "ytofaihacmoacjaadoor", sum := "1ae8bfd7b7e1f2fd1ce7d56ed06d17eabb5e4453cdac03c07eddf99807fac667", func := "refrain/refrainlaw3.WireDamage", spec := "wireDamage", named := ["refrain/schema.words"], apart := false, laid := [("refrain/schema.words", laid_refrain_schema_words)], narrowed := true }
def WireDamageUptoSaid : Prop := wireDamageUptoRow.holds Tryd.pinned (OpenSpec.upto wireDamageSpec)

/-- 'refrainlaw3.WireFresh', WHERE WHAT IT READS IS OF BULK AT MOST 1048576: true; the input reads as it did. -/
def wireFreshUptoRow : OpenClaim := { program := "ytofaihacmoacjaadoor", sum := "1ae8bfd7b7e1f2fd1ce7d56ed06d17eabb5e4453cdac03c07eddf99807fac667", func := "refrain/refrainlaw3.WireFresh", spec := "wireFresh", named := ["refrain/schema.words"], apart := false, laid := [("refrain/schema.words", laid_refrain_schema_words)], narrowed := true }
def WireFreshUptoSaid : Prop := wireFreshUptoRow.holds Tryd.pinned (OpenSpec.upto wireFreshSpec)

/-- 'refrainlaw3.WireScript', WHERE WHAT IT READS IS OF BULK AT MOST 1048576: true; the input reads as it did. -/
def wireScriptUptoRow : OpenClaim := { program := "ytofaihacmoacjaadoor", sum := "1ae8bfd7b7e1f2fd1ce7d56ed06d17eabb5e4453cdac03c07eddf99807fac667", func := "refrain/refrainlaw3.WireScript", spec := "wireScript", named := ["refrain/schema.words"], apart := false, laid := [("refrain/schema.words", laid_refrain_schema_words)], narrowed := true }
def WireScriptUptoSaid : Prop := wireScriptUptoRow.holds Tryd.pinned (OpenSpec.upto wireScriptSpec)

end Rows
end Go.Proofs.YtofaihacmoacjaaDoor
