/- AggAll answers true for every input of bulk at most 1048576, and the input reads as it did. Conditions: none. -/
import Derived.Test.YtcncagllbkohfaaC8
import Derived.Test.YtcncagllbkohfaaR3
namespace Go.Proofs.Ytcncagllbkohfaa.all
open Go Go.VC Go.ChangeShapes Go.WideShapes Go.ChangeAt Go.RowKit
set_option linter.unusedSimpArgs false
set_option linter.unusedVariables false

theorem own : ownKnob Try.prog.godebug = none := by kernel_rfl
theorem laidOut : laidOutB Try.prog = true := by kernel_rfl
abbrev I : Sh := .int .i64
abbrev accS : Sh := .agg (.cons I (.cons I (.cons I (.cons I .nil))))
abbrev opS : Sh := .agg (.cons I (.cons I (.cons accS (.cons accS (.cons (.slc I) (.cons I .nil))))))
def toOp (x : opS.T) : F.OpM := ⟨x.1, x.2.1, ⟨x.2.2.1.1, x.2.2.1.2.1, x.2.2.1.2.2.1, x.2.2.1.2.2.2.1⟩, ⟨x.2.2.2.1.1, x.2.2.2.1.2.1, x.2.2.2.1.2.2.1, x.2.2.2.1.2.2.2.1⟩, x.2.2.2.2.1.a, x.2.2.2.2.1.l, x.2.2.2.2.1.c, x.2.2.2.2.1.es, x.2.2.2.2.2.1⟩
theorem cells_op (x : opS.T) : opS.cells x = F.opC (toOp x) := rfl
theorem ints_cells (ns : List I.T) : ns.flatMap (Sh.cells I) = ints ns := flat_one (Value.int .i64) ns
theorem contract (H : Type) (enc : TypeId × Value → H) (W : World) (base : Nat) (args : Array Value) (ds gs : List (DataW H)) (before : List MemPlace)
    (hval : ∀ (j : Nat) t v, Try.f3.params[j]? = some t → args[j]? = some v → Value.okWide Try.prog W .any base t v)
    (hW : DataW.Whole enc Try.prog Try.f3.params.toList Rows.aggAllSpec.vars false W args.toList ds gs before) (hk : Rows.uptoSmall H (ds ++ gs) = true) :
    Calls Try.prog 3 args W fun e W' => ∃ v, e = .returned v ∧ Rows.aggAllSpec.post enc Try.prog Try.f3 false true false false W args v W' := by
  have hb := bulks.bound hk
  rw [bulks.append] at hb
  have hW' := hW
  obtain ⟨p, q, hA, hV, rfl, hfz, hnd⟩ := hW
  rw [Try.params3] at hA hval
  obtain ⟨v0, vs0, d0, ds0, p0, q0, hargs, rfl, rfl, h0, r0⟩ := trodAll_cons hA
  obtain ⟨v1, vs1, d1, ds1, p1, q1, rfl, rfl, rfl, h1, r1⟩ := trodAll_cons r0
  obtain ⟨rfl, rfl, rfl⟩ := trodAll_nil r1
  obtain rfl : args = #[v0, v1] := by cases args; simp_all
  obtain ⟨x0, rfl, ok0, b0⟩ := Sh.arg (.agg (.cons I (.cons I .nil))) (by kernel_rfl) (hval 0 _ v0 rfl rfl) h0
  obtain ⟨x1, rfl, ok1, b1⟩ := Sh.arg (.slc opS) (by kernel_rfl) (hval 1 _ v1 rfl rfl) h1
  simp only [Rows.uptoBulkAll] at hb
  refine calls_true (tb := 4) laidOut (by kernel_rfl) (by kernel_rfl) Try.underlying4 rfl rfl hW' ?_
  obtain ⟨o1, o2, o3, o4, o5, o6⟩ := ok1
  have hlen := slc_len (e := opS) (fun x => Nat.succ_le_succ (Nat.zero_le _)) b1
  have hmap : (x1.es.flatMap opS.cells) = (x1.es.map toOp).flatMap F.opC := by
    rw [List.flatMap_map]; rfl
  rw [hmap] at o4
  refine F.all_spec x0.1 x0.2.1 (x1.es.map toOp) x1.a x1.l x1.c W.heap o4 (by rw [List.length_map]; exact o1) (by omega) ?_
  intro o ho
  obtain ⟨y, hy, rfl⟩ := List.mem_map.1 ho
  have hok := o6 y hy
  have hbk := slc_mem b1 hy
  obtain ⟨w1, w2, _, _, w5, w6⟩ := hok
  obtain ⟨e1, e2, e3, e4, e5, e6⟩ := w5
  have hbk2 : (Sh.slc I).bulk y.2.2.2.2.1 ≤ opS.bulk y := by
    have : opS.bulk y = 1 + (1 + (accS.bulk y.2.2.1 + (accS.bulk y.2.2.2.1 + ((Sh.slc I).bulk y.2.2.2.2.1 + (1 + 0))))) + 1 := rfl
    omega
  have hl2 := slc_len (e := I) (fun _ => Nat.le_refl _) hbk2
  refine ⟨?_, e1, ?_, ?_⟩
  · exact Eq.mp (congrArg (Sl W.heap _) (ints_cells _)) e4
  · show y.2.2.2.2.1.l < _
    omega
  · exact wf_i64 w2
set_option maxRecDepth 100000 in
theorem lifted (os : Os) (started : os.Started) (H : Type) (enc : TypeId × Value → H) (F : Stop.Interp) :
    ReturnsInHanded {} Try.checked os 3 .any ((Rows.OpenSpec.upto Rows.aggAllSpec).pre6 enc Try.prog Try.f3 Rows.aggAllUptoRow.domain false) (((Rows.OpenSpec.upto Rows.aggAllSpec).at F).post enc Try.prog Try.f3 false true false false) := by
  refine returnsInHanded_of_cond (C := Try.checked) (s := Rows.OpenSpec.upto Rows.aggAllSpec) (k := Rows.uptoSmall) rfl own started (by kernel_rfl) Try.func3
    (OpenSpec.witness (enc := enc) (C := Try.checked) (s := Rows.OpenSpec.upto Rows.aggAllSpec) (k := Rows.uptoSmall) rfl false ⟨#[], #[.agg #[.int .i64 0, .int .i64 0], .slice none 0 0], []⟩ 8 (by kernel_rfl) (by kernel_rfl) (by kernel_rfl)
      (x := ([.agg [.lit (.int .i64 0), .lit (.int .i64 0)], .nil], [], [])) (by kernel_rfl) rfl (by kernel_rfl)) ?_
  intro W base args ds gs before hval hW _ hk _
  exact contract H enc W base args ds gs before hval hW hk
theorem proved : Rows.AggAllUptoSaid :=
  OpenClaim.holds_of_cond 3 Try.f3 rfl rfl rfl rfl rfl rfl rfl ⟨rfl, rfl, rfl, rfl, rfl⟩ rfl rfl rfl rfl rfl (by kernel_rfl) Try.func3 (by kernel_rfl)
    (of_decide_eq_true (by kernel_rfl)) (by unfold Func.isWrapper; first | (rw [if_pos (by decide +kernel)]; kernel_rfl) | (rw [if_neg (by decide +kernel)]; exact ⟨rfl, rfl⟩))
    (fun os started H enc _ F => lifted os started H enc F)
end Go.Proofs.Ytcncagllbkohfaa.all
namespace Go.Proofs.Ytcncagllbkohfaa
/-- The row, under a short name, for the claim. -/
theorem agg_all_holds : Rows.AggAllUptoSaid := all.proved
end Go.Proofs.Ytcncagllbkohfaa
