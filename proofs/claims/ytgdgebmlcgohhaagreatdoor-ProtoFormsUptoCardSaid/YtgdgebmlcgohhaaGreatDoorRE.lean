/- ProtoForms answers true for every input of bulk at most 1048576, and the input reads as it did; its card. Conditions: none. -/
import Derived.Test.YtgdgebmlcgohhaaGreatDoorDO
namespace Go.Proofs.YtgdgebmlcgohhaaGreatDoor.rforms
open Go Go.VC Go.ChangeShapes Go.WideShapes Go.ChangeAt Go.RowKit Go.Proofs.YtgdgebmlcgohhaaGreatDoor.F
set_option linter.unusedSimpArgs false
set_option linter.unusedVariables false

set_option maxRecDepth 100000 in
theorem contract (H : Type) (enc : TypeId × Value → H) (W : World) (base : Nat) (args : Array Value) (ds gs : List (DataW H)) (before : List MemPlace)
    (hval : ∀ (j : Nat) t v, Tryz.f3.params[j]? = some t → args[j]? = some v → Value.okWide Tryz.prog W .any base t v)
    (hW : DataW.Whole enc Tryz.prog Tryz.f3.params.toList Rows.protoFormsSpec.vars false W args.toList ds gs before) (hk : Rows.uptoSmall H (ds ++ gs) = true) (hL : laidMetH Tryz.prog Rows.protoFormsUptoRow.laid W) :
    Calls Tryz.prog 3 args W fun e W' => ∃ v, e = .returned v ∧ Rows.protoFormsSpec.post enc Tryz.prog Tryz.f3 false true false false W args v W' := by
  have hb := bulks.bound hk
  rw [bulks.append] at hb
  have hW' := hW
  obtain ⟨p, q, hA, hV, rfl, hfz, hnd⟩ := hW
  rw [Tryz.params3] at hA hval
  obtain ⟨v0, vs0, d0, ds0, p0, q0, hargs, rfl, rfl, h0, r0⟩ := trodAll_cons hA
  obtain ⟨v1, vs1, d1, ds1, p1, q1, rfl, rfl, rfl, h1, r1⟩ := trodAll_cons r0
  obtain ⟨v2, vs2, d2, ds2, p2, q2, rfl, rfl, rfl, h2, r2⟩ := trodAll_cons r1
  obtain ⟨rfl, rfl, rfl⟩ := trodAll_nil r2
  obtain rfl : args = #[v0, v1, v2] := by cases args; simp_all
  obtain ⟨x0, rfl, ok0, b0⟩ := Sh.arg (Sh.slc ReqS) (by kernel_rfl) (hval 0 _ v0 rfl rfl) h0
  obtain ⟨x1, rfl, ok1, b1⟩ := Sh.arg (Sh.slc RepS) (by kernel_rfl) (hval 1 _ v1 rfl rfl) h1
  obtain ⟨x2, rfl, ok2, b2⟩ := Sh.arg (LL8) (by kernel_rfl) (hval 2 _ v2 rfl rfl) h2
  simp only [Rows.uptoBulkAll] at hb
  refine calls_true (tb := 4) laidOut (by kernel_rfl) (by kernel_rfl) Tryz.underlying4 rfl rfl hW' ?_
  obtain ⟨r0, q0, z0⟩ := reqs_read x0 ok0 (by omega)
  obtain ⟨r1, q1, z1⟩ := reps_read x1 ok1 (by omega)
  obtain ⟨r2, q2, z2⟩ := raws_read x2 ok2 (by omega)
  exact forms_spec (wd_of hL) (spk_of hL) r0 q0 r1 q1 r2 (fun b hb => by have := q2 b hb; omega) (by omega) (by omega) (by omega)
theorem laid_met (os : Os) : laidMet Tryz.prog Rows.protoFormsUptoRow.laid ((laidWorld os).forCall (fun _ _ => 0) ⟨#[], #[.slice none 0 0, .slice none 0 0, .slice none 0 0], []⟩).memory :=
  laidMet_laidAll _ (laidFits os) (laidIfaces os)
theorem reads (os : Os) {H : Type} (enc : TypeId × Value → H) : ∃ places, DataW.whole enc Tryz.prog ((laidWorld os).forCall (fun _ _ => 0) ⟨#[], #[.slice none 0 0, .slice none 0 0, .slice none 0 0], []⟩).memory Tryz.f3.params.toList Rows.protoFormsSpec.vars false #[.slice none 0 0, .slice none 0 0, .slice none 0 0].toList 8 = some ([.nil, .nil, .nil], [], places) :=
  ⟨[], by kernel_rfl⟩
set_option maxRecDepth 100000 in
theorem lifted (os : Os) (started : os.Started) (H : Type) (enc : TypeId × Value → H) (F : Stop.Interp) :
    ReturnsInHanded {} Tryz.checked os 3 .any ((Rows.OpenSpec.upto Rows.protoFormsSpec).preRow enc Tryz.prog Tryz.f3 Rows.protoFormsUptoRow.domain false Rows.protoFormsUptoRow.laid) (((Rows.OpenSpec.upto Rows.protoFormsSpec).at F).post enc Tryz.prog Tryz.f3 false true false false) := by
  obtain ⟨places, hx⟩ := reads os enc
  refine returnsInHanded_of_row (C := Tryz.checked) (s := Rows.OpenSpec.upto Rows.protoFormsSpec) own started (by kernel_rfl) Tryz.func3
    (witness_row_atRef (enc := enc) (C := Tryz.checked) false (laidWorld os) #[.slice none 0 0, .slice none 0 0, .slice none 0 0] rfl (by kernel_rfl) (by kernel_rfl) (by kernel_rfl)
      (OpenSpec.preRow_of_cond 8 hx (by kernel_rfl) (fun k hk => by cases hk; kernel_rfl) (by kernel_rfl) (laid_met os))) ?_
  intro W base args ds gs before hval hW _ hcond _ hL _ _
  exact contract H enc W base args ds gs before hval hW (hcond _ rfl) hL
theorem saidUpto : Rows.ProtoFormsUptoSaid :=
  OpenClaim.holds_of_cond 3 Tryz.f3 rfl rfl rfl rfl rfl rfl rfl ⟨rfl, rfl, rfl, rfl, rfl⟩ rfl rfl rfl rfl rfl (by kernel_rfl) Tryz.func3 (by kernel_rfl)
    (of_decide_eq_true (by kernel_rfl)) (by unfold Func.isWrapper; first | (rw [if_pos (by decide +kernel)]; kernel_rfl) | (rw [if_neg (by decide +kernel)]; exact ⟨rfl, rfl⟩))
    (fun os started H enc _ F => by rw [OpenClaim.pre_eq_preRow]; exact lifted os started H enc F)
theorem plain (f : FuncId) (fn : Func) (hf : Tryz.pinned.checked.prog.funcNamed "refrain/refrainlaw30.ProtoForms" = some f) (hfn : Tryz.pinned.checked.prog.funcs[f]? = some fn) :
    false = Tryz.pinned.checked.prog.looks [] ∧ ∀ (j : Nat) t, fn.params[j]? = some t → Tryz.pinned.checked.prog.wantsStandIn t = false := by
  obtain rfl : f = 3 := Option.some.inj ((show Tryz.prog.funcNamed "refrain/refrainlaw30.ProtoForms" = some 3 by kernel_rfl).symm.trans hf) |>.symm
  obtain rfl : fn = Tryz.f3 := (Option.some.inj (Tryz.func3.symm.trans hfn)).symm
  refine ⟨by kernel_rfl, fun j t ht => ?_⟩
  rw [Tryz.params3] at ht
  have ht := Array.mem_of_getElem? ht
  simp at ht
  rcases ht with rfl | rfl | rfl
  · exact (show Tryz.prog.wantsStandIn 22 = false by kernel_rfl)
  · exact (show Tryz.prog.wantsStandIn 23 = false by kernel_rfl)
  · exact (show Tryz.prog.wantsStandIn 24 = false by kernel_rfl)
theorem cardUpto : Rows.ProtoFormsUptoCardSaid :=
  Claim7.holds_tied_plain_at .later [] _ _ _ _ saidUpto (fun _ h => by cases h) (by kernel_rfl) (fun _ h => by cases h) protoFormsUpto_row_tie rfl ⟨rfl, rfl⟩ (by kernel_rfl) rfl plain (by kernel_rfl)
end Go.Proofs.YtgdgebmlcgohhaaGreatDoor.rforms
namespace Go.Proofs.YtgdgebmlcgohhaaGreatDoor
/-- The card, under a short name, for the claim. -/
theorem proto_forms_holds : Rows.ProtoFormsUptoCardSaid := rforms.cardUpto
end Go.Proofs.YtgdgebmlcgohhaaGreatDoor
