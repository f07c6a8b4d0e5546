/- LogDamage answers true for every input, and the input reads as it did; its card. Conditions: none. -/
import Derived.Test.YtbaglaoefaoaoaaDoorLG
import Derived.Test.YtbaglaoefaoaoaaDoorLQ
import Derived.SizedLaws
namespace Go.Proofs.YtbaglaoefaoaoaaDoor.damage
open Go Go.VC Go.ChangeShapes Go.WideShapes Go.ChangeAt Go.RowKit Go.Proofs.YtbaglaoefaoaoaaDoor.F
set_option linter.unusedSimpArgs false
set_option linter.unusedVariables false

set_option maxRecDepth 100000 in
theorem contract (H : Type) (enc : TypeId × Value → H) (W : World) (base : Nat) (args : Array Value) (ds gs : List (DataW H)) (before : List MemPlace)
    (hval : ∀ (j : Nat) t v, Tryd.f6.params[j]? = some t → args[j]? = some v → Value.okWide Tryd.prog W .any base t v)
    (hW : DataW.Whole enc Tryd.prog Tryd.f6.params.toList Rows.logDamageSpec.vars false W args.toList ds gs before) (hsz : (DataW.weightsEach Tryd.prog (Tryd.f6.params.toList ++ (OpenSpec.ofChange Rows.logDamageSpec).bare.plain.varTypes Tryd.prog) (ds ++ gs)).all (· ≤ reachBytes) = true) (hL : laidMetH Tryd.prog Rows.logDamageRow.laid W) :
    Calls Tryd.prog 6 args W fun e W' => ∃ v, e = .returned v ∧ Rows.logDamageSpec.post enc Tryd.prog Tryd.f6 false true false false W args v W' := by
  have hW' := hW
  obtain ⟨p, q, hA, hV, rfl, hfz, hnd⟩ := hW
  rw [Tryd.params6] at hA hval
  obtain ⟨v0, vs0, d0, ds0, p0, q0, hargs, rfl, rfl, h0, r0⟩ := trodAll_cons hA
  obtain ⟨v1, vs1, d1, ds1, p1, q1, rfl, rfl, rfl, h1, r1⟩ := trodAll_cons r0
  obtain ⟨v2, vs2, d2, ds2, p2, q2, rfl, rfl, rfl, h2, r2⟩ := trodAll_cons r1
  obtain ⟨v3, vs3, d3, ds3, p3, q3, rfl, rfl, rfl, h3, r3⟩ := trodAll_cons r2
  obtain ⟨v4, vs4, d4, ds4, p4, q4, rfl, rfl, rfl, h4, r4⟩ := trodAll_cons r3
  obtain ⟨v5, vs5, d5, ds5, p5, q5, rfl, rfl, rfl, h5, r5⟩ := trodAll_cons r4
  obtain ⟨rfl, rfl, rfl⟩ := trodAll_nil r5
  obtain rfl : args = #[v0, v1, v2, v3, v4, v5] := by cases args; simp_all
  obtain ⟨x0, rfl, ok0, _, b0⟩ := Sh.argW LL8 (by kernel_rfl) (hval 0 _ v0 rfl rfl) h0
  obtain ⟨x1, rfl, ok1, _, b1⟩ := Sh.argW .bool (by kernel_rfl) (hval 1 _ v1 rfl rfl) h1
  obtain ⟨x2, rfl, ok2, _, b2⟩ := Sh.argW (.int .i64) (by kernel_rfl) (hval 2 _ v2 rfl rfl) h2
  obtain ⟨x3, rfl, ok3, _, b3⟩ := Sh.argW (.int .u8) (by kernel_rfl) (hval 3 _ v3 rfl rfl) h3
  obtain ⟨x4, rfl, ok4, _, b4⟩ := Sh.argW (.int .i64) (by kernel_rfl) (hval 4 _ v4 rfl rfl) h4
  obtain ⟨x5, rfl, ok5, _, b5⟩ := Sh.argW (.int .i64) (by kernel_rfl) (hval 5 _ v5 rfl rfl) h5
  refine calls_true (tb := 4) laidOut (by kernel_rfl) (by kernel_rfl) Tryd.underlying4 rfl rfl hW' ?_
  obtain ⟨w1, w2⟩ := lists_read x0 ok0
  exact logDamage_spec (tab_of hL) w1 (wf_u8 ok3) (wf_i64 ok2) (wf_i64 ok4) (wf_i64 ok5)
theorem laid_met (os : Os) : laidMet Tryd.prog Rows.logDamageRow.laid ((laidWorld os).forCall (fun _ _ => 0) ⟨#[], #[.slice none 0 0, .bool false, .int .i64 0, .int .u8 0, .int .i64 0, .int .i64 0], []⟩).memory :=
  laidMet_of_run' 8 (by kernel_rfl) (by kernel_rfl)
theorem reads (os : Os) {H : Type} (enc : TypeId × Value → H) : ∃ places, DataW.whole enc Tryd.prog ((laidWorld os).forCall (fun _ _ => 0) ⟨#[], #[.slice none 0 0, .bool false, .int .i64 0, .int .u8 0, .int .i64 0, .int .i64 0], []⟩).memory Tryd.f6.params.toList Rows.logDamageSpec.vars false #[Value.slice none 0 0, .bool false, .int .i64 0, .int .u8 0, .int .i64 0, .int .i64 0].toList 8 = some ([.nil, .lit (.bool false), .lit (.int .i64 0), .lit (.int .u8 0), .lit (.int .i64 0), .lit (.int .i64 0)], [], places) :=
  ⟨[], by kernel_rfl⟩
set_option maxRecDepth 100000 in
theorem lifted (os : Os) (started : os.Started) (H : Type) (enc : TypeId × Value → H) (F : Stop.Interp) :
    ReturnsInHanded {} Tryd.checked os 6 .any ((OpenSpec.ofChange Rows.logDamageSpec).preRow enc Tryd.prog Tryd.f6 Rows.logDamageRow.domain false Rows.logDamageRow.laid) (((OpenSpec.ofChange Rows.logDamageSpec).at F).post enc Tryd.prog Tryd.f6 false true false false) := by
  obtain ⟨places, hx⟩ := reads os enc
  refine returnsInHanded_of_row (C := Tryd.checked) (s := OpenSpec.ofChange Rows.logDamageSpec) own started (by kernel_rfl) Tryd.func6
    (witness_row_at (enc := enc) (C := Tryd.checked) false (laidWorld os) #[.slice none 0 0, .bool false, .int .i64 0, .int .u8 0, .int .i64 0, .int .i64 0] rfl (by kernel_rfl) (by kernel_rfl) (by kernel_rfl)
      (OpenSpec.preRow_of_cond 8 hx (by kernel_rfl) (fun k hk => by cases hk) (by kernel_rfl) (laid_met os))) ?_
  intro W base args ds gs before hval hW _ _ hsz hL _ _
  exact contract H enc W base args ds gs before hval hW hsz hL
theorem said : Rows.LogDamageSaid :=
  OpenClaim.holds_of_cond 6 Tryd.f6 rfl rfl rfl rfl rfl rfl rfl ⟨rfl, rfl, rfl, rfl, rfl⟩ rfl rfl rfl rfl rfl (by kernel_rfl) Tryd.func6 (by kernel_rfl)
    (of_decide_eq_true (by kernel_rfl)) (by unfold Func.isWrapper; first | (rw [if_pos (by decide +kernel)]; kernel_rfl) | (rw [if_neg (by decide +kernel)]; exact ⟨rfl, rfl⟩))
    (fun os started H enc _ F => by rw [OpenClaim.pre_eq_preRow]; exact lifted os started H enc F)
theorem plain (f : FuncId) (fn : Func) (hf : Tryd.pinned.checked.prog.funcNamed "refrain/refrainlaw23.LogDamage" = some f) (hfn : Tryd.pinned.checked.prog.funcs[f]? = some fn) :
    false = Tryd.pinned.checked.prog.looks [] ∧ ∀ (j : Nat) t, fn.params[j]? = some t → Tryd.pinned.checked.prog.wantsStandIn t = false := by
  obtain rfl : f = 6 := Option.some.inj ((show Tryd.prog.funcNamed "refrain/refrainlaw23.LogDamage" = some 6 by kernel_rfl).symm.trans hf) |>.symm
  obtain rfl : fn = Tryd.f6 := (Option.some.inj (Tryd.func6.symm.trans hfn)).symm
  refine ⟨by kernel_rfl, fun j t ht => ?_⟩
  rw [Tryd.params6] at ht
  have ht := Array.mem_of_getElem? ht
  simp at ht
  rcases ht with rfl | rfl | rfl | rfl | rfl | rfl <;> (show Tryd.prog.wantsStandIn _ = false; kernel_rfl)
theorem card : Rows.LogDamageCardSaid :=
  Claim7.holds_tied_plain_at .later [] _ _ _ _ said (fun _ h => by cases h) (by kernel_rfl) (fun _ h => by cases h) logDamage_row_tie rfl ⟨rfl, rfl⟩ (by kernel_rfl) rfl plain (by kernel_rfl)
end Go.Proofs.YtbaglaoefaoaoaaDoor.damage
namespace Go.Proofs.YtbaglaoefaoaoaaDoor
/-- The card, under a short name, for the claim. -/
theorem log_damage_holds : Rows.LogDamageCardSaid := damage.card
end Go.Proofs.YtbaglaoefaoaoaaDoor
