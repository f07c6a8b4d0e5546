/-
  NARROWER THAN 'FOR EVERY INPUT', by the rows' own cells (each row's printed sentence says how): LogOpens: laid · LogPlays: laid · LogRecovers: laid · LogDamage: laid · LogFresh: laid.
  DERIVED. THE GIVEN ROWS OF THIS SEAT. 5 by the template 'for every input the law returns true; each argument reads behind the call as it read before'; 0 by the template 'total and deterministic' (their statements: YtbaglaoefaoaoaaDoorTotals.lean).
  GIVEN WITH THE SEED: the statements are not yours to turn. If you find one false, say at which input.
  Laid BY PROGRAM, IN A SANDBOX (cutbox-rows.mjs): the forced cells as the released guide's own fill.sh prints them over the translation ed3e8a4f6faac792… (all of the seat's roots in one cut). By AI agents, Wed Nov 11 2026. No macro, syntax, notation, axiom, sorry.
-/
import Derived.Test.YtbaglaoefaoaoaaDoorChecked
import GoSem.Claim
import GoSem.ClaimJoined
import GoSem.ClaimMapViews
import Derived.JoinedTies
import Derived.KernelRfl
namespace Go.Proofs.YtbaglaoefaoaoaaDoor
/- THE CELL 'sum', in the pinned program and in every row, IS THE sha256 OF THE DUMP (.gsa) THAT YtbaglaoefaoaoaaDoorProg.lean LOADS. Nothing in Lean hashes anything: it is a label: what it is worth is what the hold of that sum in a sandbox is worth. -/
noncomputable def Tryd.pinned : Pinned := { name := "ytbaglaoefaoaoaadoor", sum := "ed3e8a4f6faac79292bffa49a8f30e17c87b9214766403ba70f07c32eed3680d", checked := Tryd.checked }
namespace Rows
def none {H : Type} : Left H := { results := [], args := [] }

/- WHAT THE LISTED PACKAGE-LEVEL VARIABLES READ AS WHEN THE CALL BEGINS. Each datum BY PROGRAM (the guide's laid-datum.mjs) off the statement by which the dump's own 'gosem.cut.vars' lays the variable. In a bare row this is a premise. The card (YtbaglaoefaoaoaaDoorCards.lean) ties it to the program's text. -/
def laid_refrain_log_halves {H : Type} : DataW H := .agg [.lit (.int .u32 0), .lit (.int .u32 498536548), .lit (.int .u32 997073096), .lit (.int .u32 651767980), .lit (.int .u32 1994146192), .lit (.int .u32 1802195444), .lit (.int .u32 1303535960), .lit (.int .u32 1342533948), .lit (.int .u32 3988292384), .lit (.int .u32 4027552580), .lit (.int .u32 3604390888), .lit (.int .u32 3412177804), .lit (.int .u32 2607071920), .lit (.int .u32 2262029012), .lit (.int .u32 2685067896), .lit (.int .u32 3183342108)]

/-- 'refrainlaw23.LogOpens': WHATEVER THE INPUT: true; the input reads as it did. -/
def logOpensSpec : ChangeSpec := { name := "logOpens", fn := fun _ => fun
  | [d] => { results := [.lit (.bool true)], args := [d] }
  | _ => none }
def logOpensRow : OpenClaim := { program := "ytbaglaoefaoaoaadoor", sum := "ed3e8a4f6faac79292bffa49a8f30e17c87b9214766403ba70f07c32eed3680d", func := "refrain/refrainlaw23.LogOpens", spec := "logOpens", named := ["refrain/log.halves"], apart := false, laid := [("refrain/log.halves", laid_refrain_log_halves)] }
def LogOpensSaid : Prop := logOpensRow.holds Tryd.pinned (OpenSpec.ofChange logOpensSpec)

/-- ITS FALSE NEIGHBOUR: 'it returns false'. Refute it at one input. -/
def logOpensWrong : ChangeSpec := { name := "logOpens", fn := fun _ => fun
  | [d] => { results := [.lit (.bool false)], args := [d] }
  | _ => none }
def LogOpensWrongFalsely : Prop := logOpensRow.holds Tryd.pinned (OpenSpec.ofChange logOpensWrong)

/-- 'refrainlaw23.LogPlays': WHATEVER THE INPUT: true; the input reads as it did. -/
def logPlaysSpec : ChangeSpec := { name := "logPlays", fn := fun _ => fun
  | [d1, d2, d3] => { results := [.lit (.bool true)], args := [d1, d2, d3] }
  | _ => none }
def logPlaysRow : OpenClaim := { program := "ytbaglaoefaoaoaadoor", sum := "ed3e8a4f6faac79292bffa49a8f30e17c87b9214766403ba70f07c32eed3680d", func := "refrain/refrainlaw23.LogPlays", spec := "logPlays", named := ["refrain/log.halves"], apart := false, laid := [("refrain/log.halves", laid_refrain_log_halves)] }
def LogPlaysSaid : Prop := logPlaysRow.holds Tryd.pinned (OpenSpec.ofChange logPlaysSpec)

/-- ITS FALSE NEIGHBOUR: 'it returns false'. Refute it at one input. -/
def logPlaysWrong : ChangeSpec := { name := "logPlays", fn := fun _ => fun
  | [d1, d2, d3] => { results := [.lit (.bool false)], args := [d1, d2, d3] }
  | _ => none }
def LogPlaysWrongFalsely : Prop := logPlaysRow.holds Tryd.pinned (OpenSpec.ofChange logPlaysWrong)

/-- 'refrainlaw23.LogRecovers': WHATEVER THE INPUT: true; the input reads as it did. -/
def logRecoversSpec : ChangeSpec := { name := "logRecovers", fn := fun _ => fun
  | [d1, d2, d3, d4] => { results := [.lit (.bool true)], args := [d1, d2, d3, d4] }
  | _ => none }
def logRecoversRow : OpenClaim := { program := "ytbaglaoefaoaoaadoor", sum := "ed3e8a4f6faac79292bffa49a8f30e17c87b9214766403ba70f07c32eed3680d", func := "refrain/refrainlaw23.LogRecovers", spec := "logRecovers", named := ["refrain/log.halves"], apart := false, laid := [("refrain/log.halves", laid_refrain_log_halves)] }
def LogRecoversSaid : Prop := logRecoversRow.holds Tryd.pinned (OpenSpec.ofChange logRecoversSpec)

/-- ITS FALSE NEIGHBOUR: 'it returns false'. Refute it at one input. -/
def logRecoversWrong : ChangeSpec := { name := "logRecovers", fn := fun _ => fun
  | [d1, d2, d3, d4] => { results := [.lit (.bool false)], args := [d1, d2, d3, d4] }
  | _ => none }
def LogRecoversWrongFalsely : Prop := logRecoversRow.holds Tryd.pinned (OpenSpec.ofChange logRecoversWrong)

/-- 'refrainlaw23.LogDamage': WHATEVER THE INPUT: true; the input reads as it did. -/
def logDamageSpec : ChangeSpec := { name := "logDamage", fn := fun _ => fun
  | [d1, d2, d3, d4, d5, d6] => { results := [.lit (.bool true)], args := [d1, d2, d3, d4, d5, d6] }
  | _ => none }
def logDamageRow : OpenClaim := { program := "ytbaglaoefaoaoaadoor", sum := "ed3e8a4f6faac79292bffa49a8f30e17c87b9214766403ba70f07c32eed3680d", func := "refrain/refrainlaw23.LogDamage", spec := "logDamage", named := ["refrain/log.halves"], apart := false, laid := [("refrain/log.halves", laid_refrain_log_halves)] }
def LogDamageSaid : Prop := logDamageRow.holds Tryd.pinned (OpenSpec.ofChange logDamageSpec)

/-- ITS FALSE NEIGHBOUR: 'it returns false'. Refute it at one input. -/
def logDamageWrong : ChangeSpec := { name := "logDamage", fn := fun _ => fun
  | [d1, d2, d3, d4, d5, d6] => { results := [.lit (.bool false)], args := [d1, d2, d3, d4, d5, d6] }
  | _ => none }
def LogDamageWrongFalsely : Prop := logDamageRow.holds Tryd.pinned (OpenSpec.ofChange logDamageWrong)

/-- 'refrainlaw23.LogFresh': WHATEVER THE INPUT: true; the input reads as it did. -/
def logFreshSpec : ChangeSpec := { name := "logFresh", fn := fun _ => fun
  | [d1, d2] => { results := [.lit (.bool true)], args := [d1, d2] }
  | _ => none }
def logFreshRow : OpenClaim := { program := "ytbaglaoefaoaoaadoor", sum := "ed3e8a4f6faac79292bffa49a8f30e17c87b9214766403ba70f07c32eed3680d", func := "refrain/refrainlaw23.LogFresh", spec := "logFresh", named := ["refrain/log.halves"], apart := false, laid := [("refrain/log.halves", laid_refrain_log_halves)] }
def LogFreshSaid : Prop := logFreshRow.holds Tryd.pinned (OpenSpec.ofChange logFreshSpec)

/-- ITS FALSE NEIGHBOUR: 'it returns false'. Refute it at one input. -/
def logFreshWrong : ChangeSpec := { name := "logFresh", fn := fun _ => fun
  | [d1, d2] => { results := [.lit (.bool false)], args := [d1, d2] }
  | _ => none }
def LogFreshWrongFalsely : Prop := logFreshRow.holds Tryd.pinned (OpenSpec.ofChange logFreshWrong)

/- THE SECOND FORM. 'bulk': how many values and letters a reading holds, each counted each time it is reached (what is shared counts as often as it is met; a slice's spare places count too). A statement '..UptoSaid' is the law's where the arguments, and the package variables that the reading takes, are together of bulk at most 1048576: NARROWER than '..Said'. Prove '..Said' where nothing that the law and all that it calls make is longer than what came in: it says more and counts as full. Else prove '..UptoSaid'. A law counts once. -/
mutual
def uptoBulk {H : Type} : DataW H → Nat
  | .lit (.string bytes) => bytes.length + 1
  | .lit _ => 1
  | .nil => 1
  | .ptr d => uptoBulk d + 1
  | .slice elems spare => uptoBulkAll elems + uptoBulkAll spare + 1
  | .agg parts => uptoBulkAll parts + 1
  | .iface _ d => uptoBulk d + 1
  | .map entries => uptoBulkEntries entries + 1
  | .held _ => 1
def uptoBulkAll {H : Type} : List (DataW H) → Nat
  | [] => 0
  | d :: r => uptoBulk d + uptoBulkAll r
def uptoBulkEntries {H : Type} : List (Lit × DataW H) → Nat
  | [] => 0
  | x :: r => uptoBulkEntry x + uptoBulkEntries r
def uptoBulkEntry {H : Type} : Lit × DataW H → Nat
  | (.string bytes, d) => bytes.length + uptoBulk d + 1
  | (_, d) => uptoBulk d + 1
 end
def uptoSmall : (H : Type) → List (DataW H) → Bool := fun _ ds => decide (uptoBulkAll ds ≤ 1048576)
def OpenSpec.upto (s : _root_.Go.ChangeSpec) : _root_.Go.OpenSpec := { _root_.Go.OpenSpec.ofChange s with cond := some uptoSmall }

/-- 'refrainlaw23.LogOpens', WHERE WHAT IT READS IS OF BULK AT MOST 1048576: true; the input reads as it did. -/
def logOpensUptoRow : OpenClaim := { program := "ytbaglaoefaoaoaadoor", sum := "ed3e8a4f6faac79292bffa49a8f30e17c87b9214766403ba70f07c32eed3680d", func := "refrain/refrainlaw23.LogOpens", spec := "logOpens", named := ["refrain/log.halves"], apart := false, laid := [("refrain/log.halves", laid_refrain_log_halves)], narrowed := true }
def LogOpensUptoSaid : Prop := logOpensUptoRow.holds Tryd.pinned (OpenSpec.upto logOpensSpec)

/-- 'refrainlaw23.LogPlays', WHERE WHAT IT READS IS OF BULK AT MOST 1048576: true; the input reads as it did. -/
def logPlaysUptoRow : OpenClaim := { program := "ytbaglaoefaoaoaadoor", sum := "ed3e8a4f6faac79292bffa49a8f30e17c87b9214766403ba70f07c32eed3680d", func := "refrain/refrainlaw23.LogPlays", spec := "logPlays", named := ["refrain/log.halves"], apart := false, laid := [("refrain/log.halves", laid_refrain_log_halves)], narrowed := true }
def LogPlaysUptoSaid : Prop := logPlaysUptoRow.holds Tryd.pinned (OpenSpec.upto logPlaysSpec)

/-- 'refrainlaw23.LogRecovers', WHERE WHAT IT READS IS OF BULK AT MOST 1048576: true; the input reads as it did. -/
def logRecoversUptoRow : OpenClaim := { program := "ytbaglaoefaoaoaadoor", sum := "ed3e8a4f6faac79292bffa49a8f30e17c87b9214766403ba70f07c32eed3680d", func := "refrain/refrainlaw23.LogRecovers", spec := "logRecovers", named := ["refrain/log.halves"], apart := false, laid := [("refrain/log.halves", laid_refrain_log_halves)], narrowed := true }
def LogRecoversUptoSaid : Prop := logRecoversUptoRow.holds Tryd.pinned (OpenSpec.upto logRecoversSpec)

/-- 'refrainlaw23.LogDamage', WHERE WHAT IT READS IS OF BULK AT MOST 1048576: true; the input reads as it did. -/
def logDamageUptoRow : OpenClaim := { program := "ytbaglaoefaoaoaadoor", sum := "ed3e8a4f6faac79292bffa49a8f30e17c87b9214766403ba70f07c32eed3680d", func := "refrain/refrainlaw23.LogDamage", spec := "logDamage", named := ["refrain/log.halves"], apart := false, laid := [("refrain/log.halves", laid_refrain_log_halves)], narrowed := true }
def LogDamageUptoSaid : Prop := logDamageUptoRow.holds Tryd.pinned (OpenSpec.upto logDamageSpec)

/-- 'refrainlaw23.LogFresh', WHERE WHAT IT READS IS OF BULK AT MOST 1048576: true; the input reads as it did. -/
def logFreshUptoRow : OpenClaim := { program := "ytbaglaoefaoaoaadoor", sum := "ed3e8a4f6faac79292bffa49a8f30e17c87b9214766403ba70f07c32eed3680d", func := "refrain/refrainlaw23.LogFresh", spec := "logFresh", named := ["refrain/log.halves"], apart := false, laid := [("refrain/log.halves", laid_refrain_log_halves)], narrowed := true }
def LogFreshUptoSaid : Prop := logFreshUptoRow.holds Tryd.pinned (OpenSpec.upto logFreshSpec)

end Rows
end Go.Proofs.YtbaglaoefaoaoaaDoor
