/- ProtoPieces answers true for every input, and the input reads as it did; its card. Conditions: none. -/
import Derived.Test.YtgdgebmlcgohhaaDoorQO
import Derived.SizedLaws
namespace Go.Proofs.YtgdgebmlcgohhaaDoor.rpieces
open Go Go.VC Go.ChangeShapes Go.WideShapes Go.ChangeAt Go.RowKit Go.Proofs.YtgdgebmlcgohhaaDoor.F
set_option linter.unusedSimpArgs false
set_option linter.unusedVariables false

theorem und48 : Tryd.prog.underlying 48 = some (.slice 35) := by kernel_rfl
theorem und63 : Tryd.prog.underlying 63 = some (.slice 3) := by kernel_rfl
theorem bytes35 : Tryd.prog.bytesOf 35 = 24 := by kernel_rfl
theorem bytes3 : Tryd.prog.bytesOf 3 = 8 := by kernel_rfl
set_option maxRecDepth 100000 in
theorem contract (H : Type) (enc : TypeId × Value → H) (W : World) (base : Nat) (args : Array Value) (ds gs : List (DataW H)) (before : List MemPlace)
    (hval : ∀ (j : Nat) t v, Tryd.f5.params[j]? = some t → args[j]? = some v → Value.okWide Tryd.prog W .any base t v)
    (hW : DataW.Whole enc Tryd.prog Tryd.f5.params.toList Rows.protoPiecesSpec.vars false W args.toList ds gs before) (hsz : (DataW.weightsEach Tryd.prog (Tryd.f5.params.toList ++ (OpenSpec.ofChange Rows.protoPiecesSpec).bare.plain.varTypes Tryd.prog) (ds ++ gs)).all (· ≤ reachBytes) = true) (hL : laidMetH Tryd.prog Rows.protoPiecesRow.laid W) :
    Calls Tryd.prog 5 args W fun e W' => ∃ v, e = .returned v ∧ Rows.protoPiecesSpec.post enc Tryd.prog Tryd.f5 false true false false W args v W' := by
  have hW' := hW
  obtain ⟨p, q, hA, hV, rfl, hfz, hnd⟩ := hW
  rw [Tryd.params5] at hA hval
  obtain ⟨v0, vs0, d0, ds0, p0, q0, hargs, rfl, rfl, h0, r0⟩ := trodAll_cons hA
  obtain ⟨v1, vs1, d1, ds1, p1, q1, rfl, rfl, rfl, h1, r1⟩ := trodAll_cons r0
  obtain ⟨v2, vs2, d2, ds2, p2, q2, rfl, rfl, rfl, h2, r2⟩ := trodAll_cons r1
  obtain ⟨rfl, rfl, rfl⟩ := trodAll_nil r2
  obtain rfl : args = #[v0, v1, v2] := by cases args; simp_all
  obtain ⟨x0, rfl, ok0, _, b0⟩ := Sh.argW (LL8) (by kernel_rfl) (hval 0 _ v0 rfl rfl) h0
  obtain ⟨x1, rfl, ok1, _, b1⟩ := Sh.argW (Sh.slc B8) (by kernel_rfl) (hval 1 _ v1 rfl rfl) h1
  obtain ⟨x2, rfl, ok2, _, b2⟩ := Sh.argW (Sh.slc (.int .i64)) (by kernel_rfl) (hval 2 _ v2 rfl rfl) h2
  refine calls_true (tb := 4) laidOut (by kernel_rfl) (by kernel_rfl) Tryd.underlying4 rfl rfl hW' ?_
  obtain ⟨r0, z0⟩ := lists_read x0 ok0
  obtain ⟨s1, l1, c1⟩ := bytes_read x1 ok1
  obtain ⟨_, l2, _, s2⟩ := errs_read x2 ok2
  have w0 : ∀ n ∈ (LL8).ws Tryd.prog (.inl 48) x0, n ≤ reachBytes := fun n hn => (b0 n hn).elim (fun h => by rw [h]; exact Nat.zero_le _) fun h => of_decide_eq_true (List.all_eq_true.1 hsz n (DataW.weights_mem_each (j := 0) (t := 48) rfl rfl n h))
  have w2 : ∀ n ∈ (Sh.slc (.int .i64)).ws Tryd.prog (.inl 63) x2, n ≤ reachBytes := fun n hn => (b2 n hn).elim (fun h => by rw [h]; exact Nat.zero_le _) fun h => of_decide_eq_true (List.all_eq_true.1 hsz n (DataW.weights_mem_each (j := 2) (t := 63) rfl rfl n h))
  have z0 := (Sh.ws_slc und48 w0).1
  have z2 := (Sh.ws_slc und63 w2).1
  rw [bytes35] at z0
  rw [bytes3] at z2
  simp only [reachBytes] at z0 z2
  have y0 := ok0.2.1
  have y2 := ok2.2.1
  exact pieces_spec (wd_of hL) (spk_of hL) r0 s1 l1 c1 s2 l2 (by omega) (by omega)
theorem laid_met (os : Os) : laidMet Tryd.prog Rows.protoPiecesRow.laid ((laidWorld os).forCall (fun _ _ => 0) ⟨#[], #[.slice none 0 0, .slice none 0 0, .slice none 0 0], []⟩).memory :=
  laidMet_laidAll _ (laidFits os) (laidIfaces os)
theorem reads (os : Os) {H : Type} (enc : TypeId × Value → H) : ∃ places, DataW.whole enc Tryd.prog ((laidWorld os).forCall (fun _ _ => 0) ⟨#[], #[.slice none 0 0, .slice none 0 0, .slice none 0 0], []⟩).memory Tryd.f5.params.toList Rows.protoPiecesSpec.vars false #[.slice none 0 0, .slice none 0 0, .slice none 0 0].toList 8 = some ([.nil, .nil, .nil], [], places) :=
  ⟨[], by kernel_rfl⟩
set_option maxRecDepth 100000 in
theorem lifted (os : Os) (started : os.Started) (H : Type) (enc : TypeId × Value → H) (F : Stop.Interp) :
    ReturnsInHanded {} Tryd.checked os 5 .any ((OpenSpec.ofChange Rows.protoPiecesSpec).preRow enc Tryd.prog Tryd.f5 Rows.protoPiecesRow.domain false Rows.protoPiecesRow.laid) (((OpenSpec.ofChange Rows.protoPiecesSpec).at F).post enc Tryd.prog Tryd.f5 false true false false) := by
  obtain ⟨places, hx⟩ := reads os enc
  refine returnsInHanded_of_row (C := Tryd.checked) (s := OpenSpec.ofChange Rows.protoPiecesSpec) own started (by kernel_rfl) Tryd.func5
    (witness_row_atRef (enc := enc) (C := Tryd.checked) false (laidWorld os) #[.slice none 0 0, .slice none 0 0, .slice none 0 0] rfl (by kernel_rfl) (by kernel_rfl) (by kernel_rfl)
      (OpenSpec.preRow_of_cond 8 hx (by kernel_rfl) (fun k hk => by cases hk) (by kernel_rfl) (laid_met os))) ?_
  intro W base args ds gs before hval hW _ _ hsz hL _ _
  exact contract H enc W base args ds gs before hval hW hsz hL
theorem said : Rows.ProtoPiecesSaid :=
  OpenClaim.holds_of_cond 5 Tryd.f5 rfl rfl rfl rfl rfl rfl rfl ⟨rfl, rfl, rfl, rfl, rfl⟩ rfl rfl rfl rfl rfl (by kernel_rfl) Tryd.func5 (by kernel_rfl)
    (of_decide_eq_true (by kernel_rfl)) (by unfold Func.isWrapper; first | (rw [if_pos (by decide +kernel)]; kernel_rfl) | (rw [if_neg (by decide +kernel)]; exact ⟨rfl, rfl⟩))
    (fun os started H enc _ F => by rw [OpenClaim.pre_eq_preRow]; exact lifted os started H enc F)
theorem plain (f : FuncId) (fn : Func) (hf : Tryd.pinned.checked.prog.funcNamed "refrain/refrainlaw30.ProtoPieces" = some f) (hfn : Tryd.pinned.checked.prog.funcs[f]? = some fn) :
    false = Tryd.pinned.checked.prog.looks [] ∧ ∀ (j : Nat) t, fn.params[j]? = some t → Tryd.pinned.checked.prog.wantsStandIn t = false := by
  obtain rfl : f = 5 := Option.some.inj ((show Tryd.prog.funcNamed "refrain/refrainlaw30.ProtoPieces" = some 5 by kernel_rfl).symm.trans hf) |>.symm
  obtain rfl : fn = Tryd.f5 := (Option.some.inj (Tryd.func5.symm.trans hfn)).symm
  refine ⟨by kernel_rfl, fun j t ht => ?_⟩
  rw [Tryd.params5] at ht
  have ht := Array.mem_of_getElem? ht
  simp at ht
  rcases ht with rfl | rfl | rfl
  · exact (show Tryd.prog.wantsStandIn 48 = false by kernel_rfl)
  · exact (show Tryd.prog.wantsStandIn 35 = false by kernel_rfl)
  · exact (show Tryd.prog.wantsStandIn 63 = false by kernel_rfl)
theorem card : Rows.ProtoPiecesCardSaid :=
  Claim7.holds_tied_plain_at .later [] _ _ _ _ said (fun _ h => by cases h) (by kernel_rfl) (fun _ h => by cases h) protoPieces_row_tie rfl ⟨rfl, rfl⟩ (by kernel_rfl) rfl plain (by kernel_rfl)
end Go.Proofs.YtgdgebmlcgohhaaDoor.rpieces
namespace Go.Proofs.YtgdgebmlcgohhaaDoor
/-- The card, under a short name, for the claim. -/
theorem proto_pieces_holds : Rows.ProtoPiecesCardSaid := rpieces.card
end Go.Proofs.YtgdgebmlcgohhaaDoor
