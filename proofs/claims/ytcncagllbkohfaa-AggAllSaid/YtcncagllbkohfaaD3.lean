/- AggAll answers true for every input and the input reads as it did. Conditions: none. -/
import Derived.Test.YtcncagllbkohfaaC8
import Derived.Test.YtcncagllbkohfaaR3
import Derived.SizedLaws
import Derived.JoinedOf
namespace Go.Proofs.Ytcncagllbkohfaa.all
open Go Go.VC Go.ChangeShapes Go.WideShapes Go.ChangeAt Go.RowKit
set_option linter.unusedSimpArgs false
set_option linter.unusedVariables false

theorem own : ownKnob Try.prog.godebug = none := by kernel_rfl
theorem laidOut : laidOutB Try.prog = true := by kernel_rfl
abbrev I : Sh := .int .i64
abbrev accS : Sh := .agg (.cons I (.cons I (.cons I (.cons I .nil))))
abbrev opS : Sh := .agg (.cons I (.cons I (.cons accS (.cons accS (.cons (.slc I) (.cons I .nil))))))
def toOp (x : opS.T) : F.OpM := ⟨x.1, x.2.1, ⟨x.2.2.1.1, x.2.2.1.2.1, x.2.2.1.2.2.1, x.2.2.1.2.2.2.1⟩, ⟨x.2.2.2.1.1, x.2.2.2.1.2.1, x.2.2.2.1.2.2.1, x.2.2.2.1.2.2.2.1⟩, x.2.2.2.2.1.a, x.2.2.2.2.1.l, x.2.2.2.2.1.c, x.2.2.2.2.1.es, x.2.2.2.2.2.1⟩
theorem cells_op (x : opS.T) : opS.cells x = F.opC (toOp x) := rfl
theorem ints_cells (ns : List I.T) : ns.flatMap (Sh.cells I) = ints ns := flat_one (Value.int .i64) ns
theorem und23 : Try.prog.underlying 23 = some (.slice 41) := by kernel_rfl
theorem und26 : Try.prog.underlying 26 = some (.slice 2) := by kernel_rfl
theorem bytes41 : Try.prog.bytesOf 41 = 112 := by kernel_rfl
theorem bytes2 : Try.prog.bytesOf 2 = 8 := by kernel_rfl
/-- A step's list is no greater than any memory. -/
theorem op_reach (y : opS.T) (h : ∀ n ∈ opS.ws Try.prog (.inl 41) y, n ≤ reachBytes) : y.2.2.2.2.1.c * 8 ≤ reachBytes := by
  have h1 := Sh.ws_struct' (l := [3, 3, 39, 39, 26, 3]) (by kernel_rfl) h
  have h2 := (Sh.ws_cons (Sh.ws_cons (Sh.ws_cons (Sh.ws_cons (Sh.ws_cons h1).2).2).2).2).1
  have h3 := (Sh.ws_slc und26 h2).1
  rw [bytes2] at h3
  exact h3
theorem contract (H : Type) (enc : TypeId × Value → H) (W : World) (base : Nat) (args : Array Value) (ds gs : List (DataW H)) (before : List MemPlace)
    (hval : ∀ (j : Nat) t v, Try.f3.params[j]? = some t → args[j]? = some v → Value.okWide Try.prog W .any base t v)
    (hW : DataW.Whole enc Try.prog Try.f3.params.toList Rows.aggAllSpec.vars false W args.toList ds gs before) (hsz : (DataW.weightsEach Try.prog (Try.f3.params.toList ++ Rows.aggAllSpec.plain.varTypes Try.prog) (ds ++ gs)).all (· ≤ reachBytes) = true) :
    Calls Try.prog 3 args W fun e W' => ∃ v, e = .returned v ∧ Rows.aggAllSpec.post enc Try.prog Try.f3 false true false false W args v W' := by
  have hW' := hW
  obtain ⟨p, q, hA, hV, rfl, hfz, hnd⟩ := hW
  rw [Try.params3] at hA hval hsz
  obtain ⟨v0, vs0, d0, ds0, p0, q0, hargs, rfl, rfl, h0, r0⟩ := trodAll_cons hA
  obtain ⟨v1, vs1, d1, ds1, p1, q1, rfl, rfl, rfl, h1, r1⟩ := trodAll_cons r0
  obtain ⟨rfl, rfl, rfl⟩ := trodAll_nil r1
  obtain rfl : args = #[v0, v1] := by cases args; simp_all
  obtain ⟨x0, rfl, ok0, b0⟩ := Sh.arg (.agg (.cons I (.cons I .nil))) (by kernel_rfl) (hval 0 _ v0 rfl rfl) h0
  obtain ⟨x1, rfl, ok1, _, b1⟩ := Sh.argW (.slc opS) (by kernel_rfl) (hval 1 _ v1 rfl rfl) h1
  refine calls_true (tb := 4) laidOut (by kernel_rfl) (by kernel_rfl) Try.underlying4 rfl rfl hW' ?_
  obtain ⟨o1, o2, o3, o4, o5, o6⟩ := ok1
  have hw : ∀ n ∈ (Sh.slc opS).ws Try.prog (.inl 23) x1, n ≤ reachBytes := fun n hn => (b1 n hn).elim (fun h => by rw [h]; exact Nat.zero_le _) fun h => of_decide_eq_true (List.all_eq_true.1 hsz n (DataW.weights_mem_each (j := 1) (t := 23) rfl rfl n h))
  obtain ⟨hlen, hel⟩ := Sh.ws_slc und23 hw
  rw [bytes41] at hlen
  simp only [reachBytes] at hlen
  have hmap : (x1.es.flatMap opS.cells) = (x1.es.map toOp).flatMap F.opC := by
    rw [List.flatMap_map]; rfl
  rw [hmap] at o4
  refine F.all_spec x0.1 x0.2.1 (x1.es.map toOp) x1.a x1.l x1.c W.heap o4 (by rw [List.length_map]; exact o1) (by omega) ?_
  intro o ho
  obtain ⟨y, hy, rfl⟩ := List.mem_map.1 ho
  have hok := o6 y hy
  have hbk := op_reach y (hel y hy)
  simp only [reachBytes] at hbk
  obtain ⟨w1, w2, _, _, w5, w6⟩ := hok
  obtain ⟨e1, e2, e3, e4, e5, e6⟩ := w5
  refine ⟨?_, e1, ?_, ?_⟩
  · exact Eq.mp (congrArg (Sl W.heap _) (ints_cells _)) e4
  · show y.2.2.2.2.1.l < _
    omega
  · exact wf_i64 w2
set_option maxRecDepth 100000 in
theorem lifted (os : Os) (started : os.Started) (H : Type) (enc : TypeId × Value → H) :
    ReturnsInHanded {} Try.checked os 3 .any (Rows.aggAllSpec.pre6 enc Try.prog Try.f3 Rows.aggAllRow.domain false) (Rows.aggAllSpec.post enc Try.prog Try.f3 false true false false) := by
  refine returnsInHanded_of_change_sized (C := Try.checked) own started (by kernel_rfl) Try.func3
    (ChangeSpec.witness6 (enc := enc) (C := Try.checked) false ⟨#[], #[.agg #[.int .i64 0, .int .i64 0], .slice none 0 0], []⟩ 8 (by kernel_rfl) (by kernel_rfl) (by kernel_rfl) (by kernel_rfl)) ?_
  intro W base args ds gs before hval hW _ hsz _
  exact contract H enc W base args ds gs before hval hW hsz
theorem proved : Rows.AggAllSaid :=
  OpenClaim.holds_of_wide 3 Try.f3 rfl rfl rfl rfl rfl rfl rfl ⟨rfl, rfl, rfl, rfl, rfl⟩ rfl rfl rfl rfl rfl (by kernel_rfl) Try.func3 (by kernel_rfl)
    (of_decide_eq_true (by kernel_rfl)) (by unfold Func.isWrapper; first | (rw [if_pos (by decide +kernel)]; kernel_rfl) | (rw [if_neg (by decide +kernel)]; exact ⟨rfl, rfl⟩))
    (fun os started H enc _ => lifted os started H enc)
end Go.Proofs.Ytcncagllbkohfaa.all
namespace Go.Proofs.Ytcncagllbkohfaa
/-- The row, under a short name, for the claim. -/
theorem agg_all_holds : Rows.AggAllSaid := all.proved
end Go.Proofs.Ytcncagllbkohfaa
