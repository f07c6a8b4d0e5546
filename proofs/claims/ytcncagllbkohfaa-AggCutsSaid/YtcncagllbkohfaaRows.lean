/-
  No cell of these rows narrows 'for every input' (looked for: loops, veiled, ifaces, maps, wideKeys, modest, calm, conditions, laid).
  DERIVED. THE GIVEN ROWS OF THIS SEAT. 3 by the template 'for every input the law returns true; each argument reads behind the call as it read before'; 0 by the template 'total and deterministic' (their statements: YtcncagllbkohfaaTotals.lean).
  GIVEN WITH THE SEED: the statements are not yours to turn. If you find one false, say at which input.
  Laid BY PROGRAM, IN A SANDBOX (cutbox-rows.mjs): the forced cells as the released guide's own fill.sh prints them over the translation 17d2135a9500d72e… (all of the seat's roots in one cut). By AI agents, Wed Nov 11 2026. No macro, syntax, notation, axiom, sorry.
-/
import Derived.Test.YtcncagllbkohfaaChecked
import GoSem.Claim
import GoSem.ClaimJoined
import GoSem.ClaimMapViews
import Derived.JoinedTies
import Derived.KernelRfl
namespace Go.Proofs.Ytcncagllbkohfaa
/- THE CELL 'sum', in the pinned program and in every row, IS THE sha256 OF THE DUMP (.gsa) THAT YtcncagllbkohfaaProg.lean LOADS. Nothing in Lean hashes anything: it is a label: what it is worth is what the hold of that sum in a sandbox is worth. -/
noncomputable def Try.pinned : Pinned := { name := "ytcncagllbkohfaa", sum := "17d2135a9500d72e59203cce0041cd895a5f755c120ac99ca5f1c7ea91957d24", checked := Try.checked }
namespace Rows
def none {H : Type} : Left H := { results := [], args := [] }

/-- 'refrainlaw14.AggAll': WHATEVER THE INPUT: true; the input reads as it did. -/
def aggAllSpec : ChangeSpec := { name := "aggAll", fn := fun _ => fun
  | [d1, d2] => { results := [.lit (.bool true)], args := [d1, d2] }
  | _ => none }
def aggAllRow : OpenClaim := { program := "ytcncagllbkohfaa", sum := "17d2135a9500d72e59203cce0041cd895a5f755c120ac99ca5f1c7ea91957d24", func := "refrain/refrainlaw14.AggAll", spec := "aggAll", apart := false }
def AggAllSaid : Prop := aggAllRow.holds Try.pinned (OpenSpec.ofChange aggAllSpec)

/-- ITS FALSE NEIGHBOUR: 'it returns false'. Refute it at one input. -/
def aggAllWrong : ChangeSpec := { name := "aggAll", fn := fun _ => fun
  | [d1, d2] => { results := [.lit (.bool false)], args := [d1, d2] }
  | _ => none }
def AggAllWrongFalsely : Prop := aggAllRow.holds Try.pinned (OpenSpec.ofChange aggAllWrong)

/-- 'refrainlaw14.AggCuts': WHATEVER THE INPUT: true; the input reads as it did. -/
def aggCutsSpec : ChangeSpec := { name := "aggCuts", fn := fun _ => fun
  | [d1, d2, d3] => { results := [.lit (.bool true)], args := [d1, d2, d3] }
  | _ => none }
def aggCutsRow : OpenClaim := { program := "ytcncagllbkohfaa", sum := "17d2135a9500d72e59203cce0041cd895a5f755c120ac99ca5f1c7ea91957d24", func := "refrain/refrainlaw14.AggCuts", spec := "aggCuts", apart := false }
def AggCutsSaid : Prop := aggCutsRow.holds Try.pinned (OpenSpec.ofChange aggCutsSpec)

/-- ITS FALSE NEIGHBOUR: 'it returns false'. Refute it at one input. -/
def aggCutsWrong : ChangeSpec := { name := "aggCuts", fn := fun _ => fun
  | [d1, d2, d3] => { results := [.lit (.bool false)], args := [d1, d2, d3] }
  | _ => none }
def AggCutsWrongFalsely : Prop := aggCutsRow.holds Try.pinned (OpenSpec.ofChange aggCutsWrong)

/-- 'refrainlaw14.AggLast': WHATEVER THE INPUT: true; the input reads as it did. -/
def aggLastSpec : ChangeSpec := { name := "aggLast", fn := fun _ => fun
  | [d1, d2, d3] => { results := [.lit (.bool true)], args := [d1, d2, d3] }
  | _ => none }
def aggLastRow : OpenClaim := { program := "ytcncagllbkohfaa", sum := "17d2135a9500d72e59203cce0041cd895a5f755c120ac99ca5f1c7ea91957d24", func := "refrain/refrainlaw14.AggLast", spec := "aggLast", apart := false }
def AggLastSaid : Prop := aggLastRow.holds Try.pinned (OpenSpec.ofChange aggLastSpec)

/-- ITS FALSE NEIGHBOUR: 'it returns false'. Refute it at one input. -/
def aggLastWrong : ChangeSpec := { name := "aggLast", fn := fun _ => fun
  | [d1, d2, d3] => { results := [.lit (.bool false)], args := [d1, d2, d3] }
  | _ => none }
def AggLastWrongFalsely : Prop := aggLastRow.holds Try.pinned (OpenSpec.ofChange aggLastWrong)

/- THE SECOND FORM. 'bulk': how many values and letters a reading holds, each counted each time it is reached (what is shared counts as often as it is met; a slice's spare places count too). A statement '..UptoSaid' is the law's where the arguments, and the package variables that the reading takes, are together of bulk at most 1048576: NARROWER than '..Said'. Prove '..Said' where nothing that the law and all that it calls make is longer than what came in: it says more and counts as full. Else prove '..UptoSaid'. A law counts once. -/
mutual
def uptoBulk {H : Type} : DataW H → Nat
  | .lit (.string bytes) => bytes.length + 1
  | .lit _ => 1
  | .nil => 1
  | .ptr d => uptoBulk d + 1
  | .slice elems spare => uptoBulkAll elems + uptoBulkAll spare + 1
  | .agg parts => uptoBulkAll parts + 1
  | .iface _ d => uptoBulk d + 1
  | .map entries => uptoBulkEntries entries + 1
  | .held _ => 1
def uptoBulkAll {H : Type} : List (DataW H) → Nat
  | [] => 0
  | d :: r => uptoBulk d + uptoBulkAll r
def uptoBulkEntries {H : Type} : List (Lit × DataW H) → Nat
  | [] => 0
  | x :: r => uptoBulkEntry x + uptoBulkEntries r
def uptoBulkEntry {H : Type} : Lit × DataW H → Nat
  | (.string bytes, d) => bytes.length + uptoBulk d + 1
  | (_, d) => uptoBulk d + 1
 end
def uptoSmall : (H : Type) → List (DataW H) → Bool := fun _ ds => decide (uptoBulkAll ds ≤ 1048576)
def OpenSpec.upto (s : _root_.Go.ChangeSpec) : _root_.Go.OpenSpec := { _root_.Go.OpenSpec.ofChange s with cond := some uptoSmall }

/-- 'refrainlaw14.AggAll', WHERE WHAT IT READS IS OF BULK AT MOST 1048576: true; the input reads as it did. -/
def aggAllUptoRow : OpenClaim := { program := "ytcncagllbkohfaa", sum := "17d2135a9500d72e59203cce0041cd895a5f755c120ac99ca5f1c7ea91957d24", func := "refrain/refrainlaw14.AggAll", spec := "aggAll", apart := false, narrowed := true }
def AggAllUptoSaid : Prop := aggAllUptoRow.holds Try.pinned (OpenSpec.upto aggAllSpec)

/-- 'refrainlaw14.AggCuts', WHERE WHAT IT READS IS OF BULK AT MOST 1048576: true; the input reads as it did. -/
def aggCutsUptoRow : OpenClaim := { program := "ytcncagllbkohfaa", sum := "17d2135a9500d72e59203cce0041cd895a5f755c120ac99ca5f1c7ea91957d24", func := "refrain/refrainlaw14.AggCuts", spec := "aggCuts", apart := false, narrowed := true }
def AggCutsUptoSaid : Prop := aggCutsUptoRow.holds Try.pinned (OpenSpec.upto aggCutsSpec)

/-- 'refrainlaw14.AggLast', WHERE WHAT IT READS IS OF BULK AT MOST 1048576: true; the input reads as it did. -/
def aggLastUptoRow : OpenClaim := { program := "ytcncagllbkohfaa", sum := "17d2135a9500d72e59203cce0041cd895a5f755c120ac99ca5f1c7ea91957d24", func := "refrain/refrainlaw14.AggLast", spec := "aggLast", apart := false, narrowed := true }
def AggLastUptoSaid : Prop := aggLastUptoRow.holds Try.pinned (OpenSpec.upto aggLastSpec)

end Rows
end Go.Proofs.Ytcncagllbkohfaa
