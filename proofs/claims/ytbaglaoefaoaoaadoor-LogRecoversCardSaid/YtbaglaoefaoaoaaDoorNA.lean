/- LogRecovers answers true for every input, and the input reads as it did; its card. Conditions: none. -/
import Derived.Test.YtbaglaoefaoaoaaDoorLG
import Derived.Test.YtbaglaoefaoaoaaDoorLN
import Derived.SizedLaws
namespace Go.Proofs.YtbaglaoefaoaoaaDoor.recov
open Go Go.VC Go.ChangeShapes Go.WideShapes Go.ChangeAt Go.RowKit Go.Proofs.YtbaglaoefaoaoaaDoor.F
set_option linter.unusedSimpArgs false
set_option linter.unusedVariables false

abbrev DkS : Sh := .agg (.cons LL8 .nil)
abbrev I : Sh := .int .i64
abbrev PsS : Sh := .agg (.cons I (.cons I (.cons (.slc B8) (.cons I .nil))))
def toPs (x : PsS.T) : PsM := ⟨x.1, x.2.1, x.2.2.1.a, x.2.2.1.l, x.2.2.1.c, bsOf x.2.2.1.es, x.2.2.2.1⟩
theorem und39 : Tryd.prog.underlying 39 = some (.slice 41) := by kernel_rfl
theorem und26 : Tryd.prog.underlying 26 = some (.slice 5) := by kernel_rfl
theorem und47 : Tryd.prog.underlying 47 = some (.slice 3) := by kernel_rfl
theorem bytes41 : Tryd.prog.bytesOf 41 = 48 := by kernel_rfl
theorem bytes5 : Tryd.prog.bytesOf 5 = 1 := by kernel_rfl
theorem bytes3 : Tryd.prog.bytesOf 3 = 8 := by kernel_rfl
theorem ps_read {h : Heap} (x : (Sh.slc PsS).T) (ok : (Sh.slc PsS).ok h x) (hw : ∀ n ∈ (Sh.slc PsS).ws Tryd.prog (.inl 39) x, n ≤ reachBytes) :
    Sl h x.a ((x.es.map toPs).flatMap psC) ∧ (x.es.map toPs).length = x.l ∧ (∀ o ∈ x.es.map toPs, Sl h o.a (bytesV o.r) ∧ o.r.length = o.l ∧ o.l ≤ 140737488355328) ∧ x.l ≤ 140737488355328 := by
  obtain ⟨o1, o2, o3, o4, o5, o6⟩ := ok
  have e : x.es.flatMap PsS.cells = (x.es.map toPs).flatMap psC := by
    rw [List.flatMap_map]; rfl
  rw [e] at o4
  obtain ⟨m1, m2⟩ := Sh.ws_slc und39 hw
  rw [bytes41] at m1
  simp only [reachBytes] at m1
  refine ⟨o4, by rw [List.length_map]; exact o1, ?_, by omega⟩
  intro o ho
  obtain ⟨y, hy, rfl⟩ := List.mem_map.1 ho
  obtain ⟨_, _, v5, v6, _⟩ := o6 y hy
  obtain ⟨g1, g2, g3⟩ := bytes_read y.2.2.1 v5
  have m3 : ∀ n ∈ (Sh.cons I (.cons I (.cons (.slc B8) (.cons I .nil)))).ws Tryd.prog (.inr [3, 3, 26, 3]) y, n ≤ reachBytes := Sh.ws_struct' (by kernel_rfl) (m2 y hy)
  have m4 := (Sh.ws_slc und26 (Sh.ws_cons (Sh.ws_cons (Sh.ws_cons m3).2).2).1).1
  rw [bytes5] at m4
  simp only [reachBytes] at m4
  have v7 := v5.2.1
  refine ⟨g1, g2, ?_⟩
  show y.2.2.1.l ≤ _
  omega
set_option maxRecDepth 100000 in
theorem contract (H : Type) (enc : TypeId × Value → H) (W : World) (base : Nat) (args : Array Value) (ds gs : List (DataW H)) (before : List MemPlace)
    (hval : ∀ (j : Nat) t v, Tryd.f5.params[j]? = some t → args[j]? = some v → Value.okWide Tryd.prog W .any base t v)
    (hW : DataW.Whole enc Tryd.prog Tryd.f5.params.toList Rows.logRecoversSpec.vars false W args.toList ds gs before) (hsz : (DataW.weightsEach Tryd.prog (Tryd.f5.params.toList ++ (OpenSpec.ofChange Rows.logRecoversSpec).bare.plain.varTypes Tryd.prog) (ds ++ gs)).all (· ≤ reachBytes) = true) (hL : laidMetH Tryd.prog Rows.logRecoversRow.laid W) :
    Calls Tryd.prog 5 args W fun e W' => ∃ v, e = .returned v ∧ Rows.logRecoversSpec.post enc Tryd.prog Tryd.f5 false true false false W args v W' := by
  have hW' := hW
  obtain ⟨p, q, hA, hV, rfl, hfz, hnd⟩ := hW
  rw [Tryd.params5] at hA hval
  obtain ⟨v0, vs0, d0, ds0, p0, q0, hargs, rfl, rfl, h0, r0⟩ := trodAll_cons hA
  obtain ⟨v1, vs1, d1, ds1, p1, q1, rfl, rfl, rfl, h1, r1⟩ := trodAll_cons r0
  obtain ⟨v2, vs2, d2, ds2, p2, q2, rfl, rfl, rfl, h2, r2⟩ := trodAll_cons r1
  obtain ⟨v3, vs3, d3, ds3, p3, q3, rfl, rfl, rfl, h3, r3⟩ := trodAll_cons r2
  obtain ⟨rfl, rfl, rfl⟩ := trodAll_nil r3
  obtain rfl : args = #[v0, v1, v2, v3] := by cases args; simp_all
  obtain ⟨x0, rfl, ok0, _, b0⟩ := Sh.argW (.slc PsS) (by kernel_rfl) (hval 0 _ v0 rfl rfl) h0
  obtain ⟨x1, rfl, ok1, _, b1⟩ := Sh.argW I (by kernel_rfl) (hval 1 _ v1 rfl rfl) h1
  obtain ⟨x2, rfl, ok2, _, b2⟩ := Sh.argW (.slc PsS) (by kernel_rfl) (hval 2 _ v2 rfl rfl) h2
  obtain ⟨x3, rfl, ok3, _, b3⟩ := Sh.argW (.slc I) (by kernel_rfl) (hval 3 _ v3 rfl rfl) h3
  refine calls_true (tb := 4) laidOut (by kernel_rfl) (by kernel_rfl) Tryd.underlying4 rfl rfl hW' ?_
  have w0 : ∀ n ∈ (Sh.slc PsS).ws Tryd.prog (.inl 39) x0, n ≤ reachBytes := fun n hn => (b0 n hn).elim (fun h => by rw [h]; exact Nat.zero_le _) fun h => of_decide_eq_true (List.all_eq_true.1 hsz n (DataW.weights_mem_each (j := 0) (t := 39) rfl rfl n h))
  have w2 : ∀ n ∈ (Sh.slc PsS).ws Tryd.prog (.inl 39) x2, n ≤ reachBytes := fun n hn => (b2 n hn).elim (fun h => by rw [h]; exact Nat.zero_le _) fun h => of_decide_eq_true (List.all_eq_true.1 hsz n (DataW.weights_mem_each (j := 2) (t := 39) rfl rfl n h))
  have w3 : ∀ n ∈ (Sh.slc I).ws Tryd.prog (.inl 47) x3, n ≤ reachBytes := fun n hn => (b3 n hn).elim (fun h => by rw [h]; exact Nat.zero_le _) fun h => of_decide_eq_true (List.all_eq_true.1 hsz n (DataW.weights_mem_each (j := 3) (t := 47) rfl rfl n h))
  obtain ⟨s1, s2, s3, s4⟩ := ps_read x0 ok0 w0
  obtain ⟨t1, t2, t3, t4⟩ := ps_read x2 ok2 w2
  have z3 := (Sh.ws_slc und47 w3).1
  rw [bytes3] at z3
  simp only [reachBytes] at z3
  obtain ⟨o1, o2, o3, o4, o5, o6⟩ := ok3
  have e : x3.es.flatMap (Sh.cells I) = x3.es.map (Value.int .i64) := flat_one (Value.int .i64) x3.es
  have o4 : Sl W.heap x3.a (x3.es.map (Value.int .i64)) := Eq.mp (congrArg (Sl W.heap x3.a) e) o4
  exact logRecovers_spec (tab_of hL) s1 s2 s3 s4 t1 t2 t3 t4 o4 o1 (by omega) (fun x hx => (wf_i64 (o6 x hx)).2) (wf_i64 ok1).2
theorem laid_met (os : Os) : laidMet Tryd.prog Rows.logRecoversRow.laid ((laidWorld os).forCall (fun _ _ => 0) ⟨#[], #[.slice none 0 0, .int .i64 0, .slice none 0 0, .slice none 0 0], []⟩).memory :=
  laidMet_of_run' 8 (by kernel_rfl) (by kernel_rfl)
theorem reads (os : Os) {H : Type} (enc : TypeId × Value → H) : ∃ places, DataW.whole enc Tryd.prog ((laidWorld os).forCall (fun _ _ => 0) ⟨#[], #[.slice none 0 0, .int .i64 0, .slice none 0 0, .slice none 0 0], []⟩).memory Tryd.f5.params.toList Rows.logRecoversSpec.vars false #[Value.slice none 0 0, .int .i64 0, .slice none 0 0, .slice none 0 0].toList 8 = some ([.nil, .lit (.int .i64 0), .nil, .nil], [], places) :=
  ⟨[], by kernel_rfl⟩
set_option maxRecDepth 100000 in
theorem lifted (os : Os) (started : os.Started) (H : Type) (enc : TypeId × Value → H) (F : Stop.Interp) :
    ReturnsInHanded {} Tryd.checked os 5 .any ((OpenSpec.ofChange Rows.logRecoversSpec).preRow enc Tryd.prog Tryd.f5 Rows.logRecoversRow.domain false Rows.logRecoversRow.laid) (((OpenSpec.ofChange Rows.logRecoversSpec).at F).post enc Tryd.prog Tryd.f5 false true false false) := by
  obtain ⟨places, hx⟩ := reads os enc
  refine returnsInHanded_of_row (C := Tryd.checked) (s := OpenSpec.ofChange Rows.logRecoversSpec) own started (by kernel_rfl) Tryd.func5
    (witness_row_at (enc := enc) (C := Tryd.checked) false (laidWorld os) #[.slice none 0 0, .int .i64 0, .slice none 0 0, .slice none 0 0] rfl (by kernel_rfl) (by kernel_rfl) (by kernel_rfl)
      (OpenSpec.preRow_of_cond 8 hx (by kernel_rfl) (fun k hk => by cases hk) (by kernel_rfl) (laid_met os))) ?_
  intro W base args ds gs before hval hW _ _ hsz hL _ _
  exact contract H enc W base args ds gs before hval hW hsz hL
theorem said : Rows.LogRecoversSaid :=
  OpenClaim.holds_of_cond 5 Tryd.f5 rfl rfl rfl rfl rfl rfl rfl ⟨rfl, rfl, rfl, rfl, rfl⟩ rfl rfl rfl rfl rfl (by kernel_rfl) Tryd.func5 (by kernel_rfl)
    (of_decide_eq_true (by kernel_rfl)) (by unfold Func.isWrapper; first | (rw [if_pos (by decide +kernel)]; kernel_rfl) | (rw [if_neg (by decide +kernel)]; exact ⟨rfl, rfl⟩))
    (fun os started H enc _ F => by rw [OpenClaim.pre_eq_preRow]; exact lifted os started H enc F)
theorem plain (f : FuncId) (fn : Func) (hf : Tryd.pinned.checked.prog.funcNamed "refrain/refrainlaw23.LogRecovers" = some f) (hfn : Tryd.pinned.checked.prog.funcs[f]? = some fn) :
    false = Tryd.pinned.checked.prog.looks [] ∧ ∀ (j : Nat) t, fn.params[j]? = some t → Tryd.pinned.checked.prog.wantsStandIn t = false := by
  obtain rfl : f = 5 := Option.some.inj ((show Tryd.prog.funcNamed "refrain/refrainlaw23.LogRecovers" = some 5 by kernel_rfl).symm.trans hf) |>.symm
  obtain rfl : fn = Tryd.f5 := (Option.some.inj (Tryd.func5.symm.trans hfn)).symm
  refine ⟨by kernel_rfl, fun j t ht => ?_⟩
  rw [Tryd.params5] at ht
  have ht := Array.mem_of_getElem? ht
  simp at ht
  rcases ht with rfl | rfl | rfl | rfl
  · exact (show Tryd.prog.wantsStandIn 39 = false by kernel_rfl)
  · exact (show Tryd.prog.wantsStandIn 3 = false by kernel_rfl)
  · exact (show Tryd.prog.wantsStandIn 39 = false by kernel_rfl)
  · exact (show Tryd.prog.wantsStandIn 47 = false by kernel_rfl)
theorem card : Rows.LogRecoversCardSaid :=
  Claim7.holds_tied_plain_at .later [] _ _ _ _ said (fun _ h => by cases h) (by kernel_rfl) (fun _ h => by cases h) logRecovers_row_tie rfl ⟨rfl, rfl⟩ (by kernel_rfl) rfl plain (by kernel_rfl)
end Go.Proofs.YtbaglaoefaoaoaaDoor.recov
namespace Go.Proofs.YtbaglaoefaoaoaaDoor
/-- The card, under a short name, for the claim. -/
theorem log_recovers_holds : Rows.LogRecoversCardSaid := recov.card
end Go.Proofs.YtbaglaoefaoaoaaDoor
