/- ProtoDamage answers true for every input, and the input reads as it did; its card. Conditions: none. -/
import Derived.Test.YtgdgebmlcgohhaaDoorQO
import Derived.SizedLaws
namespace Go.Proofs.YtgdgebmlcgohhaaDoor.rdamage
open Go Go.VC Go.ChangeShapes Go.WideShapes Go.ChangeAt Go.RowKit Go.Proofs.YtgdgebmlcgohhaaDoor.F
set_option linter.unusedSimpArgs false
set_option linter.unusedVariables false

theorem und35 : Tryd.prog.underlying 35 = some (.slice 5) := by kernel_rfl
theorem bytes5 : Tryd.prog.bytesOf 5 = 1 := by kernel_rfl
set_option maxRecDepth 100000 in
theorem contract (H : Type) (enc : TypeId × Value → H) (W : World) (base : Nat) (args : Array Value) (ds gs : List (DataW H)) (before : List MemPlace)
    (hval : ∀ (j : Nat) t v, Tryd.f6.params[j]? = some t → args[j]? = some v → Value.okWide Tryd.prog W .any base t v)
    (hW : DataW.Whole enc Tryd.prog Tryd.f6.params.toList Rows.protoDamageSpec.vars false W args.toList ds gs before) (hsz : (DataW.weightsEach Tryd.prog (Tryd.f6.params.toList ++ (OpenSpec.ofChange Rows.protoDamageSpec).bare.plain.varTypes Tryd.prog) (ds ++ gs)).all (· ≤ reachBytes) = true) (hL : laidMetH Tryd.prog Rows.protoDamageRow.laid W) :
    Calls Tryd.prog 6 args W fun e W' => ∃ v, e = .returned v ∧ Rows.protoDamageSpec.post enc Tryd.prog Tryd.f6 false true false false W args v W' := by
  have hW' := hW
  obtain ⟨p, q, hA, hV, rfl, hfz, hnd⟩ := hW
  rw [Tryd.params6] at hA hval
  obtain ⟨v0, vs0, d0, ds0, p0, q0, hargs, rfl, rfl, h0, r0⟩ := trodAll_cons hA
  obtain ⟨v1, vs1, d1, ds1, p1, q1, rfl, rfl, rfl, h1, r1⟩ := trodAll_cons r0
  obtain ⟨v2, vs2, d2, ds2, p2, q2, rfl, rfl, rfl, h2, r2⟩ := trodAll_cons r1
  obtain ⟨v3, vs3, d3, ds3, p3, q3, rfl, rfl, rfl, h3, r3⟩ := trodAll_cons r2
  obtain ⟨rfl, rfl, rfl⟩ := trodAll_nil r3
  obtain rfl : args = #[v0, v1, v2, v3] := by cases args; simp_all
  obtain ⟨x0, rfl, ok0, _, b0⟩ := Sh.argW (Sh.slc B8) (by kernel_rfl) (hval 0 _ v0 rfl rfl) h0
  obtain ⟨x1, rfl, ok1, _, b1⟩ := Sh.argW (Sh.int .i64) (by kernel_rfl) (hval 1 _ v1 rfl rfl) h1
  obtain ⟨x2, rfl, ok2, _, b2⟩ := Sh.argW (Sh.int .u8) (by kernel_rfl) (hval 2 _ v2 rfl rfl) h2
  obtain ⟨x3, rfl, ok3, _, b3⟩ := Sh.argW (Sh.slc B8) (by kernel_rfl) (hval 3 _ v3 rfl rfl) h3
  refine calls_true (tb := 4) laidOut (by kernel_rfl) (by kernel_rfl) Tryd.underlying4 rfl rfl hW' ?_
  obtain ⟨s0, l0, c0⟩ := bytes_read x0 ok0
  obtain ⟨s3, l3, c3⟩ := bytes_read x3 ok3
  have w0 : ∀ n ∈ (Sh.slc B8).ws Tryd.prog (.inl 35) x0, n ≤ reachBytes := fun n hn => (b0 n hn).elim (fun h => by rw [h]; exact Nat.zero_le _) fun h => of_decide_eq_true (List.all_eq_true.1 hsz n (DataW.weights_mem_each (j := 0) (t := 35) rfl rfl n h))
  have w3 : ∀ n ∈ (Sh.slc B8).ws Tryd.prog (.inl 35) x3, n ≤ reachBytes := fun n hn => (b3 n hn).elim (fun h => by rw [h]; exact Nat.zero_le _) fun h => of_decide_eq_true (List.all_eq_true.1 hsz n (DataW.weights_mem_each (j := 3) (t := 35) rfl rfl n h))
  have z0 := (Sh.ws_slc und35 w0).1
  have z3 := (Sh.ws_slc und35 w3).1
  rw [bytes5] at z0 z3
  simp only [reachBytes] at z0 z3
  have y0 := ok0.2.1
  have y3 := ok3.2.1
  have h2 := wf_u8 ok2
  have e2 : (x2 : Int) = ((UInt8.ofNat (Int.toNat x2)).toNat : Int) := by
    rw [UInt8.toNat_ofNat']
    have e : (x2 : Int) = ((Int.toNat x2 : Nat) : Int) := (Int.toNat_of_nonneg h2.1).symm
    rw [Nat.mod_eq_of_lt (by omega)]
    exact e
  have e3 : Sh.val (.int .u8) x2 = .int .u8 ((UInt8.ofNat (Int.toNat x2)).toNat : Int) := congrArg (Value.int .u8) e2
  rw [e3]
  exact damage_spec (wd_of hL) (spk_of hL) s0 l0 (wf_i64 ok1) s3 l3 (by omega) (by omega)
theorem laid_met (os : Os) : laidMet Tryd.prog Rows.protoDamageRow.laid ((laidWorld os).forCall (fun _ _ => 0) ⟨#[], #[.slice none 0 0, .int .i64 0, .int .u8 0, .slice none 0 0], []⟩).memory :=
  laidMet_laidAll _ (laidFits os) (laidIfaces os)
theorem reads (os : Os) {H : Type} (enc : TypeId × Value → H) : ∃ places, DataW.whole enc Tryd.prog ((laidWorld os).forCall (fun _ _ => 0) ⟨#[], #[.slice none 0 0, .int .i64 0, .int .u8 0, .slice none 0 0], []⟩).memory Tryd.f6.params.toList Rows.protoDamageSpec.vars false #[.slice none 0 0, .int .i64 0, .int .u8 0, .slice none 0 0].toList 8 = some ([.nil, .lit (.int .i64 0), .lit (.int .u8 0), .nil], [], places) :=
  ⟨[], by kernel_rfl⟩
set_option maxRecDepth 100000 in
theorem lifted (os : Os) (started : os.Started) (H : Type) (enc : TypeId × Value → H) (F : Stop.Interp) :
    ReturnsInHanded {} Tryd.checked os 6 .any ((OpenSpec.ofChange Rows.protoDamageSpec).preRow enc Tryd.prog Tryd.f6 Rows.protoDamageRow.domain false Rows.protoDamageRow.laid) (((OpenSpec.ofChange Rows.protoDamageSpec).at F).post enc Tryd.prog Tryd.f6 false true false false) := by
  obtain ⟨places, hx⟩ := reads os enc
  refine returnsInHanded_of_row (C := Tryd.checked) (s := OpenSpec.ofChange Rows.protoDamageSpec) own started (by kernel_rfl) Tryd.func6
    (witness_row_atRef (enc := enc) (C := Tryd.checked) false (laidWorld os) #[.slice none 0 0, .int .i64 0, .int .u8 0, .slice none 0 0] rfl (by kernel_rfl) (by kernel_rfl) (by kernel_rfl)
      (OpenSpec.preRow_of_cond 8 hx (by kernel_rfl) (fun k hk => by cases hk) (by kernel_rfl) (laid_met os))) ?_
  intro W base args ds gs before hval hW _ _ hsz hL _ _
  exact contract H enc W base args ds gs before hval hW hsz hL
theorem said : Rows.ProtoDamageSaid :=
  OpenClaim.holds_of_cond 6 Tryd.f6 rfl rfl rfl rfl rfl rfl rfl ⟨rfl, rfl, rfl, rfl, rfl⟩ rfl rfl rfl rfl rfl (by kernel_rfl) Tryd.func6 (by kernel_rfl)
    (of_decide_eq_true (by kernel_rfl)) (by unfold Func.isWrapper; first | (rw [if_pos (by decide +kernel)]; kernel_rfl) | (rw [if_neg (by decide +kernel)]; exact ⟨rfl, rfl⟩))
    (fun os started H enc _ F => by rw [OpenClaim.pre_eq_preRow]; exact lifted os started H enc F)
theorem plain (f : FuncId) (fn : Func) (hf : Tryd.pinned.checked.prog.funcNamed "refrain/refrainlaw30.ProtoDamage" = some f) (hfn : Tryd.pinned.checked.prog.funcs[f]? = some fn) :
    false = Tryd.pinned.checked.prog.looks [] ∧ ∀ (j : Nat) t, fn.params[j]? = some t → Tryd.pinned.checked.prog.wantsStandIn t = false := by
  obtain rfl : f = 6 := Option.some.inj ((show Tryd.prog.funcNamed "refrain/refrainlaw30.ProtoDamage" = some 6 by kernel_rfl).symm.trans hf) |>.symm
  obtain rfl : fn = Tryd.f6 := (Option.some.inj (Tryd.func6.symm.trans hfn)).symm
  refine ⟨by kernel_rfl, fun j t ht => ?_⟩
  rw [Tryd.params6] at ht
  have ht := Array.mem_of_getElem? ht
  simp at ht
  rcases ht with rfl | rfl | rfl | rfl
  · exact (show Tryd.prog.wantsStandIn 35 = false by kernel_rfl)
  · exact (show Tryd.prog.wantsStandIn 3 = false by kernel_rfl)
  · exact (show Tryd.prog.wantsStandIn 5 = false by kernel_rfl)
  · exact (show Tryd.prog.wantsStandIn 35 = false by kernel_rfl)
theorem card : Rows.ProtoDamageCardSaid :=
  Claim7.holds_tied_plain_at .later [] _ _ _ _ said (fun _ h => by cases h) (by kernel_rfl) (fun _ h => by cases h) protoDamage_row_tie rfl ⟨rfl, rfl⟩ (by kernel_rfl) rfl plain (by kernel_rfl)
end Go.Proofs.YtgdgebmlcgohhaaDoor.rdamage
namespace Go.Proofs.YtgdgebmlcgohhaaDoor
/-- The card, under a short name, for the claim. -/
theorem proto_damage_holds : Rows.ProtoDamageCardSaid := rdamage.card
end Go.Proofs.YtgdgebmlcgohhaaDoor
