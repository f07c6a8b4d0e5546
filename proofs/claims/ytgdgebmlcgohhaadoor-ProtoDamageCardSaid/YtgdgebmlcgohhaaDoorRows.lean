/-
  NARROWER THAN 'FOR EVERY INPUT', by the rows' own cells (each row's printed sentence says how): ProtoThere: laid · ProtoStreams: laid · ProtoPieces: laid · ProtoDamage: laid.
  DERIVED. THE GIVEN ROWS OF THIS SEAT. 4 by the template 'for every input the law returns true; each argument reads behind the call as it read before'; 0 by the template 'total and deterministic' (their statements: YtgdgebmlcgohhaaDoorTotals.lean).
  GIVEN WITH THE SEED: the statements are not yours to turn. If you find one false, say at which input.
  Laid BY PROGRAM, IN A SANDBOX (cutbox-rows.mjs): the forced cells as the released guide's own fill.sh prints them over the translation b273525b5810a6f5… (all of the seat's roots in one cut). By AI agents, Wed Nov 11 2026. No macro, syntax, notation, axiom, sorry.
-/
import Derived.Test.YtgdgebmlcgohhaaDoorChecked
import GoSem.Claim
import GoSem.ClaimJoined
import GoSem.ClaimMapViews
import Derived.JoinedTies
import Derived.KernelRfl
namespace Go.Proofs.YtgdgebmlcgohhaaDoor
/- THE CELL 'sum', in the pinned program and in every row, IS THE sha256 OF THE DUMP (.gsa) THAT YtgdgebmlcgohhaaDoorProg.lean LOADS. Nothing in Lean hashes anything: it is a label: what it is worth is what the hold of that sum in a sandbox is worth. -/
noncomputable def Tryd.pinned : Pinned := { name := "ytgdgebmlcgohhaadoor", sum := "b273525b5810a6f5cee6d23cb6eadee9a26d111385c55b142c9cae1ef964ad4f", checked := Tryd.checked }
namespace Rows
def none {H : Type} : Left H := { results := [], args := [] }

/- WHAT THE LISTED PACKAGE-LEVEL VARIABLES READ AS WHEN THE CALL BEGINS. Each datum BY PROGRAM (the guide's laid-datum.mjs) off the statement by which the dump's own 'gosem.cut.vars' lays the variable. In a bare row this is a premise. The card (YtgdgebmlcgohhaaDoorCards.lean) ties it to the program's text. -/
def laid_refrain_schema_words {H : Type} : DataW H := .agg [.lit (.string [80, 65, 84, 84, 69, 82, 78]), .lit (.string [83, 69, 81]), .lit (.string [80, 65, 82, 84, 73, 84, 73, 79, 78]), .lit (.string [66, 89]), .lit (.string [87, 72, 69, 82, 69]), .lit (.string [87, 73, 84, 72, 73, 78]), .lit (.string [82, 69, 84, 85, 82, 78]), .lit (.string [65, 78, 68]), .lit (.string [79, 82]), .lit (.string [78, 79, 84]), .lit (.string [84, 82, 85, 69]), .lit (.string [70, 65, 76, 83, 69]), .lit (.string [84, 89, 80, 69]), .lit (.string [73, 78, 84]), .lit (.string [83, 84, 82]), .lit (.string [66, 79, 79, 76])]
def laid_refrain_proto_spoken {H : Type} : DataW H := .agg [.nil, .slice [.lit (.int .i64 1)] [], .slice [.lit (.int .i64 0), .lit (.int .i64 1)] [], .slice [.lit (.int .i64 0)] [], .slice [.lit (.int .i64 3)] [], .slice [.lit (.int .i64 2)] [], .slice [] [], .slice [] [], .slice [.lit (.int .i64 0)] [], .slice [.lit (.int .i64 1)] [], .slice [.lit (.int .i64 1)] [], .slice [.lit (.int .i64 0)] [], .slice [.lit (.int .i64 2), .lit (.int .i64 3)] []]

/-- 'refrainlaw30.ProtoThere': WHATEVER THE INPUT: true; the input reads as it did. -/
def protoThereSpec : ChangeSpec := { name := "protoThere", fn := fun _ => fun
  | [d1, d2, d3] => { results := [.lit (.bool true)], args := [d1, d2, d3] }
  | _ => none }
def protoThereRow : OpenClaim := { program := "ytgdgebmlcgohhaadoor", sum := "b273525b5810a6f5cee6d23cb6eadee9a26d111385c55b142c9cae1ef964ad4f", func := "refrain/refrainlaw30.ProtoThere", spec := "protoThere", unfollowed := true, recurses := true, named := ["refrain/proto.spoken", "refrain/schema.words"], apart := false, laid := [("refrain/schema.words", laid_refrain_schema_words), ("refrain/proto.spoken", laid_refrain_proto_spoken)] }
def ProtoThereSaid : Prop := protoThereRow.holds Tryd.pinned (OpenSpec.ofChange protoThereSpec)

/-- ITS FALSE NEIGHBOUR: 'it returns false'. Refute it at one input. -/
def protoThereWrong : ChangeSpec := { name := "protoThere", fn := fun _ => fun
  | [d1, d2, d3] => { results := [.lit (.bool false)], args := [d1, d2, d3] }
  | _ => none }
def ProtoThereWrongFalsely : Prop := protoThereRow.holds Tryd.pinned (OpenSpec.ofChange protoThereWrong)

/-- 'refrainlaw30.ProtoStreams': WHATEVER THE INPUT: true; the input reads as it did. -/
def protoStreamsSpec : ChangeSpec := { name := "protoStreams", fn := fun _ => fun
  | [d1, d2, d3] => { results := [.lit (.bool true)], args := [d1, d2, d3] }
  | _ => none }
def protoStreamsRow : OpenClaim := { program := "ytgdgebmlcgohhaadoor", sum := "b273525b5810a6f5cee6d23cb6eadee9a26d111385c55b142c9cae1ef964ad4f", func := "refrain/refrainlaw30.ProtoStreams", spec := "protoStreams", unfollowed := true, recurses := true, named := ["refrain/proto.spoken", "refrain/schema.words"], apart := false, laid := [("refrain/schema.words", laid_refrain_schema_words), ("refrain/proto.spoken", laid_refrain_proto_spoken)] }
def ProtoStreamsSaid : Prop := protoStreamsRow.holds Tryd.pinned (OpenSpec.ofChange protoStreamsSpec)

/-- ITS FALSE NEIGHBOUR: 'it returns false'. Refute it at one input. -/
def protoStreamsWrong : ChangeSpec := { name := "protoStreams", fn := fun _ => fun
  | [d1, d2, d3] => { results := [.lit (.bool false)], args := [d1, d2, d3] }
  | _ => none }
def ProtoStreamsWrongFalsely : Prop := protoStreamsRow.holds Tryd.pinned (OpenSpec.ofChange protoStreamsWrong)

/-- 'refrainlaw30.ProtoPieces': WHATEVER THE INPUT: true; the input reads as it did. -/
def protoPiecesSpec : ChangeSpec := { name := "protoPieces", fn := fun _ => fun
  | [d1, d2, d3] => { results := [.lit (.bool true)], args := [d1, d2, d3] }
  | _ => none }
def protoPiecesRow : OpenClaim := { program := "ytgdgebmlcgohhaadoor", sum := "b273525b5810a6f5cee6d23cb6eadee9a26d111385c55b142c9cae1ef964ad4f", func := "refrain/refrainlaw30.ProtoPieces", spec := "protoPieces", unfollowed := true, recurses := true, named := ["refrain/proto.spoken", "refrain/schema.words"], apart := false, laid := [("refrain/schema.words", laid_refrain_schema_words), ("refrain/proto.spoken", laid_refrain_proto_spoken)] }
def ProtoPiecesSaid : Prop := protoPiecesRow.holds Tryd.pinned (OpenSpec.ofChange protoPiecesSpec)

/-- ITS FALSE NEIGHBOUR: 'it returns false'. Refute it at one input. -/
def protoPiecesWrong : ChangeSpec := { name := "protoPieces", fn := fun _ => fun
  | [d1, d2, d3] => { results := [.lit (.bool false)], args := [d1, d2, d3] }
  | _ => none }
def ProtoPiecesWrongFalsely : Prop := protoPiecesRow.holds Tryd.pinned (OpenSpec.ofChange protoPiecesWrong)

/-- 'refrainlaw30.ProtoDamage': WHATEVER THE INPUT: true; the input reads as it did. -/
def protoDamageSpec : ChangeSpec := { name := "protoDamage", fn := fun _ => fun
  | [d1, d2, d3, d4] => { results := [.lit (.bool true)], args := [d1, d2, d3, d4] }
  | _ => none }
def protoDamageRow : OpenClaim := { program := "ytgdgebmlcgohhaadoor", sum := "b273525b5810a6f5cee6d23cb6eadee9a26d111385c55b142c9cae1ef964ad4f", func := "refrain/refrainlaw30.ProtoDamage", spec := "protoDamage", unfollowed := true, recurses := true, named := ["refrain/proto.spoken", "refrain/schema.words"], apart := false, laid := [("refrain/schema.words", laid_refrain_schema_words), ("refrain/proto.spoken", laid_refrain_proto_spoken)] }
def ProtoDamageSaid : Prop := protoDamageRow.holds Tryd.pinned (OpenSpec.ofChange protoDamageSpec)

/-- ITS FALSE NEIGHBOUR: 'it returns false'. Refute it at one input. -/
def protoDamageWrong : ChangeSpec := { name := "protoDamage", fn := fun _ => fun
  | [d1, d2, d3, d4] => { results := [.lit (.bool false)], args := [d1, d2, d3, d4] }
  | _ => none }
def ProtoDamageWrongFalsely : Prop := protoDamageRow.holds Tryd.pinned (OpenSpec.ofChange protoDamageWrong)

/- THE SECOND FORM. 'bulk': how many values and letters a reading holds, each counted each time it is reached (what is shared counts as often as it is met; a slice's spare places count too). A statement '..UptoSaid' is the law's where the arguments, and the package variables that the reading takes, are together of bulk at most 1048576: NARROWER than '..Said'. Prove '..Said' where nothing that the law and all that it calls make is longer than what came in: it says more and counts as full. Else prove '..UptoSaid'. A law counts once. -/
mutual
def uptoBulk {H : Type} : DataW H → Nat
  | .lit (.string bytes) => bytes.length + 1
  | .lit _ => 1
  | .nil => 1
  | .ptr d => uptoBulk d + 1
  | .slice elems spare => uptoBulkAll elems + uptoBulkAll spare + 1
  | .agg parts => uptoBulkAll parts + 1
  | .iface _ d => uptoBulk d + 1
  | .map entries => uptoBulkEntries entries + 1
  | .held _ => 1
def uptoBulkAll {H : Type} : List (DataW H) → Nat
  | [] => 0
  | d :: r => uptoBulk d + uptoBulkAll r
def uptoBulkEntries {H : Type} : List (Lit × DataW H) → Nat
  | [] => 0
  | x :: r => uptoBulkEntry x + uptoBulkEntries r
def uptoBulkEntry {H : Type} : Lit × DataW H → Nat
  | (.string bytes, d) => bytes.length + uptoBulk d + 1
  | (_, d) => uptoBulk d + 1
 end
def uptoSmall : (H : Type) → List (DataW H) → Bool := fun _ ds => decide (uptoBulkAll ds ≤ 1048576)
def OpenSpec.upto (s : _root_.Go.ChangeSpec) : _root_.Go.OpenSpec := { _root_.Go.OpenSpec.ofChange s with cond := some uptoSmall }

/-- 'refrainlaw30.ProtoThere', WHERE WHAT IT READS IS OF BULK AT MOST 1048576: true; the input reads as it did. -/
def protoThereUptoRow : OpenClaim := { program := "ytgdgebmlcgohhaadoor", sum := "b273525b5810a6f5cee6d23cb6eadee9a26d111385c55b142c9cae1ef964ad4f", func := "refrain/refrainlaw30.ProtoThere", spec := "protoThere", unfollowed := true, recurses := true, named := ["refrain/proto.spoken", "refrain/schema.words"], apart := false, laid := [("refrain/schema.words", laid_refrain_schema_words), ("refrain/proto.spoken", laid_refrain_proto_spoken)], narrowed := true }
def ProtoThereUptoSaid : Prop := protoThereUptoRow.holds Tryd.pinned (OpenSpec.upto protoThereSpec)

/-- 'refrainlaw30.ProtoStreams', WHERE WHAT IT READS IS OF BULK AT MOST 1048576: true; the input reads as it did. -/
def protoStreamsUptoRow : OpenClaim := { program := "ytgdgebmlcgohhaadoor", sum := "b273525b5810a6f5cee6d23cb6eadee9a26d111385c55b142c9cae1ef964ad4f", func := "refrain/refrainlaw30.ProtoStreams", spec := "protoStreams", unfollowed := true, recurses := true, named := ["refrain/proto.spoken", "refrain/schema.words"], apart := false, laid := [("refrain/schema.words", laid_refrain_schema_words), ("refrain/proto.spoken", laid_refrain_proto_spoken)], narrowed := true }
def ProtoStreamsUptoSaid : Prop := protoStreamsUptoRow.holds Tryd.pinned (OpenSpec.upto protoStreamsSpec)

/-- 'refrainlaw30.ProtoPieces', WHERE WHAT IT READS IS OF BULK AT MOST 1048576: true; the input reads as it did. -/
def protoPiecesUptoRow : OpenClaim := { program := "ytgdgebmlcgohhaadoor", sum := "b273525b5810a6f5cee6d23cb6eadee9a26d111385c55b142c9cae1ef964ad4f", func := "refrain/refrainlaw30.ProtoPieces", spec := "protoPieces", unfollowed := true, recurses := true, named := ["refrain/proto.spoken", "refrain/schema.words"], apart := false, laid := [("refrain/schema.words", laid_refrain_schema_words), ("refrain/proto.spoken", laid_refrain_proto_spoken)], narrowed := true }
def ProtoPiecesUptoSaid : Prop := protoPiecesUptoRow.holds Tryd.pinned (OpenSpec.upto protoPiecesSpec)

/-- 'refrainlaw30.ProtoDamage', WHERE WHAT IT READS IS OF BULK AT MOST 1048576: true; the input reads as it did. -/
def protoDamageUptoRow : OpenClaim := { program := "ytgdgebmlcgohhaadoor", sum := "b273525b5810a6f5cee6d23cb6eadee9a26d111385c55b142c9cae1ef964ad4f", func := "refrain/refrainlaw30.ProtoDamage", spec := "protoDamage", unfollowed := true, recurses := true, named := ["refrain/proto.spoken", "refrain/schema.words"], apart := false, laid := [("refrain/schema.words", laid_refrain_schema_words), ("refrain/proto.spoken", laid_refrain_proto_spoken)], narrowed := true }
def ProtoDamageUptoSaid : Prop := protoDamageUptoRow.holds Tryd.pinned (OpenSpec.upto protoDamageSpec)

end Rows
end Go.Proofs.YtgdgebmlcgohhaaDoor
