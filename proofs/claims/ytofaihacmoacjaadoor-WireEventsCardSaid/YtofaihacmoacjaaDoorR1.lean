/- Rows: from 'true, and new blocks alone' to a law's row; what an argument's reading tells. Conditions: none. -/
import Derived.Test.YtofaihacmoacjaaDoorRows
import Derived.Test.YtofaihacmoacjaaDoorM5
import Derived.WalkKit
import Derived.ProofKit
import Derived.OpenShut
import Derived.JoinedCond
import Derived.Carry
import Derived.Deep.Slices
namespace Go.VC
open Go Go.ChangeShapes Go.ChangeAt Go.RowKit
set_option linter.unusedSimpArgs false
set_option linter.unusedVariables false

theorem below_of {w w' : World} {h : Heap} (hw : w.heap = h) (r : Rest w w') (m : Ext h w'.heap) : Below w.heap.size w w' := by
  subst hw
  exact ⟨r.os, r.tape, r.output, m.size, fun k hk => m.keep k hk id⟩
theorem trodAll_below {H : Type} {enc : TypeId × Value → H} {P : Program} (hl : laidOutB P = true) {W W' : World} (hb : Below W.heap.size W W') :
    ∀ {ts : List TypeId} {vs : List Value} {ds : List (DataW H)} {ps : List MemPlace}, ts.all (fun t => P.readableRec t && decide (t < P.types.size)) = true → DataW.TrodAll enc P W 0 (fun _ => true) true ts vs ds ps → (∀ x ∈ ps, x.block < W.heap.size) →
      DataW.TrodAll enc P W' 0 (fun b => decide (b < W.heap.size)) true ts vs ds ps
  | [], _, _, _, _, h, _ => by
    obtain ⟨rfl, rfl, rfl⟩ := trodAll_nil h
    exact trodAll_mk0
  | t :: ts, _, _, _, ht, h, hp => by
    obtain ⟨v, vs1, d, ds1, a, b, rfl, rfl, rfl, h1, h2⟩ := trodAll_cons h
    simp only [List.all_cons, Bool.and_eq_true, decide_eq_true_eq] at ht
    exact trodAll_cons_mk (Below.trod hl ht.1.1 ht.1.2 h1 hb fun x hx => hp x (by simp [hx])) (trodAll_below hl hb ht.2 h2 fun x hx => hp x (by simp [hx]))
theorem post_true {H : Type} {enc : TypeId × Value → H} {P : Program} {f : Func} {s : ChangeSpec} {W W' : World} {args : Array Value} {ds gs : List (DataW H)} {before : List MemPlace} {tb : TypeId}
    (hl : laidOutB P = true) (ht : f.params.toList.all (fun t => P.readableRec t && decide (t < P.types.size)) = true) (hr : f.resultTypes = #[tb]) (hb : P.underlying tb = some .bool)
    (hv : s.vars = []) (hs : s.fn H ds = { results := [.lit (.bool true)], args := ds })
    (hW : DataW.Whole enc P f.params.toList s.vars false W args.toList ds gs before) (bel : Below W.heap.size W W') :
    s.post enc P f false true false false W args (.bool true) W' := by
  have hlt := hW.lt
  have hW' := hW
  obtain ⟨p, q, hA, hV, rfl, hfz, hnd⟩ := hW
  rw [hv] at hV
  obtain ⟨rfl, rfl⟩ := trodVars_none hV
  have hs' : s.fn H (ds ++ []) = { results := [.lit (.bool true)], args := ds } := by rw [List.append_nil]; exact hs
  refine ⟨ds, [], _, [], p, [], hW', ?_, ?_, ?_, bel.frame _, fun h => by cases h⟩
  · rw [hs', hr]
    exact trodAll_mk1 (shut_bool hb _)
  · rw [hs']
    exact trodAll_below hl bel ht hA fun x hx => hlt x (by simp [hx])
  · rw [hs', hv]
    rfl
theorem calls_true {H : Type} {enc : TypeId × Value → H} {P : Program} {n : FuncId} {f : Func} {s : ChangeSpec} {W : World} {args : Array Value} {ds gs : List (DataW H)} {before : List MemPlace} {tb : TypeId}
    (hl : laidOutB P = true) (ht : f.params.toList.all (fun t => P.readableRec t && decide (t < P.types.size)) = true) (hr : f.resultTypes = #[tb]) (hb : P.underlying tb = some .bool)
    (hv : s.vars = []) (hs : s.fn H ds = { results := [.lit (.bool true)], args := ds })
    (hW : DataW.Whole enc P f.params.toList s.vars false W args.toList ds gs before)
    (hC : CallsH P n args W.heap fun v h' => v = .bool true ∧ Ext W.heap h') :
    Calls P n args W fun e W' => ∃ v, e = .returned v ∧ s.post enc P f false true false false W args v W' := by
  refine hC.run.mono fun e W' he => ?_
  obtain ⟨v, rfl, hr', rfl, hm⟩ := he
  exact ⟨_, rfl, post_true hl ht hr hb hv hs hW (below_of rfl hr' hm)⟩
end Go.VC
