/- LogFresh answers true for every input of bulk at most 1048576, and the input reads as it did; its card. Conditions: none. -/
import Derived.Test.YtbaglaoefaoaoaaDoorLG
import Derived.Test.YtbaglaoefaoaoaaDoorLX
namespace Go.Proofs.YtbaglaoefaoaoaaDoor.fresh
open Go Go.VC Go.ChangeShapes Go.WideShapes Go.ChangeAt Go.RowKit Go.Proofs.YtbaglaoefaoaoaaDoor.F
set_option linter.unusedSimpArgs false
set_option linter.unusedVariables false

abbrev DkS : Sh := .agg (.cons LL8 .nil)
abbrev I : Sh := .int .i64
abbrev PsS : Sh := .agg (.cons I (.cons I (.cons (.slc B8) (.cons I .nil))))
def toPs (x : PsS.T) : PsM := ⟨x.1, x.2.1, x.2.2.1.a, x.2.2.1.l, x.2.2.1.c, bsOf x.2.2.1.es, x.2.2.2.1⟩
theorem ps_bulk {h : Heap} (y : PsS.T) (ok : PsS.ok h y) : (toPs y).l + 1 ≤ PsS.bulk y := by
  obtain ⟨_, _, v5, _, _⟩ := ok
  have h1 : PsS.bulk y = 1 + (1 + ((Sh.slc B8).bulk y.2.2.1 + (1 + 0))) + 1 := rfl
  have h2 := bytes_bulk y.2.2.1
  have h3 := (bytes_read y.2.2.1 v5).2.1
  show y.2.2.1.l + 1 ≤ _
  omega
set_option maxRecDepth 100000 in
theorem contract (H : Type) (enc : TypeId × Value → H) (W : World) (base : Nat) (args : Array Value) (ds gs : List (DataW H)) (before : List MemPlace)
    (hval : ∀ (j : Nat) t v, Tryd.f7.params[j]? = some t → args[j]? = some v → Value.okWide Tryd.prog W .any base t v)
    (hW : DataW.Whole enc Tryd.prog Tryd.f7.params.toList Rows.logFreshSpec.vars false W args.toList ds gs before) (hk : Rows.uptoSmall H (ds ++ gs) = true) (hL : laidMetH Tryd.prog Rows.logFreshUptoRow.laid W) :
    Calls Tryd.prog 7 args W fun e W' => ∃ v, e = .returned v ∧ Rows.logFreshSpec.post enc Tryd.prog Tryd.f7 false true false false W args v W' := by
  have hb := bulks.bound hk
  rw [bulks.append] at hb
  have hW' := hW
  obtain ⟨p, q, hA, hV, rfl, hfz, hnd⟩ := hW
  rw [Tryd.params7] at hA hval
  obtain ⟨v0, vs0, d0, ds0, p0, q0, hargs, rfl, rfl, h0, r0⟩ := trodAll_cons hA
  obtain ⟨v1, vs1, d1, ds1, p1, q1, rfl, rfl, rfl, h1, r1⟩ := trodAll_cons r0
  obtain ⟨rfl, rfl, rfl⟩ := trodAll_nil r1
  obtain rfl : args = #[v0, v1] := by cases args; simp_all
  obtain ⟨x0, rfl, ok0, b0⟩ := Sh.arg DkS (by kernel_rfl) (hval 0 _ v0 rfl rfl) h0
  obtain ⟨x2, rfl, ok2, b2⟩ := Sh.arg (.slc PsS) (by kernel_rfl) (hval 1 _ v1 rfl rfl) h1
  simp only [Rows.uptoBulkAll] at hb
  refine calls_true (tb := 4) laidOut (by kernel_rfl) (by kernel_rfl) Tryd.underlying4 rfl rfl hW' ?_
  obtain ⟨w0, _⟩ := ok0
  obtain ⟨r0, t0⟩ := lists_read x0.1 w0
  have hbe0 : DkS.bulk x0 = LL8.bulk x0.1 + 0 + 1 := rfl
  have hlen := slc_len (e := PsS) (fun x => Nat.succ_le_succ (Nat.zero_le _)) b2
  have hsum : ((x2.es.map toPs).map fun o => o.l + 25).sum ≤ 25 * (Sh.slc PsS).bulk x2 := by
    have h1 : (Sh.slc PsS).bulk x2 = (x2.es.map PsS.bulk).sum + (x2.c - x2.l) + 1 := rfl
    have h2 : ∀ es : List PsS.T, (∀ y ∈ es, PsS.ok W.heap y) → ((es.map toPs).map fun o => o.l + 25).sum ≤ 25 * (es.map PsS.bulk).sum := by
      intro es
      induction es with
      | nil => intro _; simp
      | cons y es ih =>
        intro hy
        have ih := ih fun z hz => hy z (List.mem_cons_of_mem _ hz)
        have hb := ps_bulk y (hy y List.mem_cons_self)
        simp only [List.map_cons, List.sum_cons]
        show (toPs y).l + 25 + _ ≤ _
        omega
    have h3 := h2 x2.es ok2.2.2.2.2.2
    omega
  obtain ⟨o1, o2, o3, o4, o5, o6⟩ := ok2
  have e : x2.es.flatMap PsS.cells = (x2.es.map toPs).flatMap psC := by
    rw [List.flatMap_map]; rfl
  rw [e] at o4
  refine logFresh_spec (tab_of hL) r0 (by omega) o4 (by rw [List.length_map]; exact o1) ?_ (by omega)
  intro o ho
  obtain ⟨y, hy, rfl⟩ := List.mem_map.1 ho
  obtain ⟨_, _, v5, v6, _⟩ := o6 y hy
  obtain ⟨g1, g2, g3⟩ := bytes_read y.2.2.1 v5
  exact ⟨g1, g2, (wf_i64 v6).2⟩
theorem laid_met (os : Os) : laidMet Tryd.prog Rows.logFreshUptoRow.laid ((laidWorld os).forCall (fun _ _ => 0) ⟨#[], #[.agg #[.slice none 0 0], .slice none 0 0], []⟩).memory :=
  laidMet_of_run' 8 (by kernel_rfl) (by kernel_rfl)
theorem reads (os : Os) {H : Type} (enc : TypeId × Value → H) : ∃ places, DataW.whole enc Tryd.prog ((laidWorld os).forCall (fun _ _ => 0) ⟨#[], #[.agg #[.slice none 0 0], .slice none 0 0], []⟩).memory Tryd.f7.params.toList Rows.logFreshSpec.vars false #[Value.agg #[.slice none 0 0], .slice none 0 0].toList 8 = some ([.agg [.nil], .nil], [], places) :=
  ⟨[], by kernel_rfl⟩
set_option maxRecDepth 100000 in
theorem lifted (os : Os) (started : os.Started) (H : Type) (enc : TypeId × Value → H) (F : Stop.Interp) :
    ReturnsInHanded {} Tryd.checked os 7 .any ((Rows.OpenSpec.upto Rows.logFreshSpec).preRow enc Tryd.prog Tryd.f7 Rows.logFreshUptoRow.domain false Rows.logFreshUptoRow.laid) (((Rows.OpenSpec.upto Rows.logFreshSpec).at F).post enc Tryd.prog Tryd.f7 false true false false) := by
  obtain ⟨places, hx⟩ := reads os enc
  refine returnsInHanded_of_row (C := Tryd.checked) (s := Rows.OpenSpec.upto Rows.logFreshSpec) own started (by kernel_rfl) Tryd.func7
    (witness_row_at (enc := enc) (C := Tryd.checked) false (laidWorld os) #[.agg #[.slice none 0 0], .slice none 0 0] rfl (by kernel_rfl) (by kernel_rfl) (by kernel_rfl)
      (OpenSpec.preRow_of_cond 8 hx (by kernel_rfl) (fun k hk => by cases hk; kernel_rfl) (by kernel_rfl) (laid_met os))) ?_
  intro W base args ds gs before hval hW _ hcond _ hL _ _
  exact contract H enc W base args ds gs before hval hW (hcond _ rfl) hL
theorem saidUpto : Rows.LogFreshUptoSaid :=
  OpenClaim.holds_of_cond 7 Tryd.f7 rfl rfl rfl rfl rfl rfl rfl ⟨rfl, rfl, rfl, rfl, rfl⟩ rfl rfl rfl rfl rfl (by kernel_rfl) Tryd.func7 (by kernel_rfl)
    (of_decide_eq_true (by kernel_rfl)) (by unfold Func.isWrapper; first | (rw [if_pos (by decide +kernel)]; kernel_rfl) | (rw [if_neg (by decide +kernel)]; exact ⟨rfl, rfl⟩))
    (fun os started H enc _ F => by rw [OpenClaim.pre_eq_preRow]; exact lifted os started H enc F)
theorem plain (f : FuncId) (fn : Func) (hf : Tryd.pinned.checked.prog.funcNamed "refrain/refrainlaw23.LogFresh" = some f) (hfn : Tryd.pinned.checked.prog.funcs[f]? = some fn) :
    false = Tryd.pinned.checked.prog.looks [] ∧ ∀ (j : Nat) t, fn.params[j]? = some t → Tryd.pinned.checked.prog.wantsStandIn t = false := by
  obtain rfl : f = 7 := Option.some.inj ((show Tryd.prog.funcNamed "refrain/refrainlaw23.LogFresh" = some 7 by kernel_rfl).symm.trans hf) |>.symm
  obtain rfl : fn = Tryd.f7 := (Option.some.inj (Tryd.func7.symm.trans hfn)).symm
  refine ⟨by kernel_rfl, fun j t ht => ?_⟩
  rw [Tryd.params7] at ht
  have ht := Array.mem_of_getElem? ht
  simp at ht
  rcases ht with rfl | rfl <;> (show Tryd.prog.wantsStandIn _ = false; kernel_rfl)
theorem cardUpto : Rows.LogFreshUptoCardSaid :=
  Claim7.holds_tied_plain_at .later [] _ _ _ _ saidUpto (fun _ h => by cases h) (by kernel_rfl) (fun _ h => by cases h) logFreshUpto_row_tie rfl ⟨rfl, rfl⟩ (by kernel_rfl) rfl plain (by kernel_rfl)
end Go.Proofs.YtbaglaoefaoaoaaDoor.fresh
namespace Go.Proofs.YtbaglaoefaoaoaaDoor
/-- The card, under a short name, for the claim. -/
theorem log_fresh_holds : Rows.LogFreshUptoCardSaid := fresh.cardUpto
end Go.Proofs.YtbaglaoefaoaoaaDoor
