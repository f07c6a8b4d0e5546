/- AggCuts answers true for every input and the input reads as it did. Conditions: none. -/
import Derived.Test.YtcncagllbkohfaaB4
import Derived.Test.YtcncagllbkohfaaR2
import Derived.SizedLaws
import Derived.JoinedOf
namespace Go.Proofs.Ytcncagllbkohfaa.cuts
open Go Go.VC Go.ChangeShapes Go.WideShapes Go.ChangeAt Go.RowKit
set_option linter.unusedSimpArgs false
set_option linter.unusedVariables false

theorem own : ownKnob Try.prog.godebug = none := by kernel_rfl
theorem laidOut : laidOutB Try.prog = true := by kernel_rfl
theorem sized_ints {H : Type} {P : Program} {ts : List TypeId} {ds : List (DataW H)} (h : (DataW.weightsEach P ts ds).all (· ≤ reachBytes) = true) {j : Nat} {t e : TypeId} {d : DataW H} {l c : Nat} {a : Option Addr} (ht : ts[j]? = some t) (hd : ds[j]? = some d) (hu : P.underlying t = some (.slice e))
    (hx : d = .nil ∧ l = 0 ∧ c = 0 ∧ a = none ∨ ∃ es sp : List (DataW H), d = .slice es sp ∧ es.length = l ∧ sp.length = c - l) : l * P.bytesOf e ≤ reachBytes := by
  rcases hx with ⟨_, rfl, _⟩ | ⟨es, sp, rfl, h1, h2⟩
  · rw [Nat.zero_mul]; exact Nat.zero_le _
  · have h3 := List.all_eq_true.1 h _ (DataW.weights_mem_each ht hd ((es.length + sp.length) * P.bytesOf e) (by simp [DataW.weights, hu]))
    have h3 := of_decide_eq_true h3
    refine Nat.le_trans (Nat.mul_le_mul_right _ ?_) h3
    omega
theorem bytes2 : Try.prog.bytesOf 2 = 8 := by kernel_rfl
theorem bytes5 : Try.prog.bytesOf 5 = 1 := by kernel_rfl
theorem contract (H : Type) (enc : TypeId × Value → H) (W : World) (base : Nat) (args : Array Value) (ds gs : List (DataW H)) (before : List MemPlace)
    (hval : ∀ (j : Nat) t v, Try.f4.params[j]? = some t → args[j]? = some v → Value.okWide Try.prog W .any base t v)
    (hW : DataW.Whole enc Try.prog Try.f4.params.toList Rows.aggCutsSpec.vars false W args.toList ds gs before) (hsz : (DataW.weightsEach Try.prog (Try.f4.params.toList ++ Rows.aggCutsSpec.plain.varTypes Try.prog) (ds ++ gs)).all (· ≤ reachBytes) = true) :
    Calls Try.prog 4 args W fun e W' => ∃ v, e = .returned v ∧ Rows.aggCutsSpec.post enc Try.prog Try.f4 false true false false W args v W' := by
  have hW' := hW
  obtain ⟨p, q, hA, hV, rfl, hfz, hnd⟩ := hW
  rw [Try.params4] at hA hval hsz
  obtain ⟨v0, vs0, d0, ds0, p0, q0, hargs, rfl, rfl, h0, r0⟩ := trodAll_cons hA
  obtain ⟨v1, vs1, d1, ds1, p1, q1, rfl, rfl, rfl, h1, r1⟩ := trodAll_cons r0
  obtain ⟨v2, vs2, d2, ds2, p2, q2, rfl, rfl, rfl, h2, r2⟩ := trodAll_cons r1
  obtain ⟨rfl, rfl, rfl⟩ := trodAll_nil r2
  obtain rfl : args = #[v0, v1, v2] := by cases args; simp_all
  obtain ⟨a1, l1, c1, ns1, rfl, hlc1, hm1, hlen1, hs1, hw1, hd1⟩ := arg_ints Try.underlying26 Try.underlying2 (by kernel_rfl) (hval 0 _ v0 rfl rfl) h0
  obtain ⟨n, rfl, rfl, rfl, hn⟩ := open_int Try.underlying3 (hval 1 _ v1 rfl rfl) h1
  obtain ⟨t, rfl, rfl, rfl⟩ := open_bool Try.underlying4 (hval 2 _ v2 rfl rfl) h2
  refine calls_true (tb := 4) laidOut (by kernel_rfl) (by kernel_rfl) Try.underlying4 rfl rfl hW' ?_
  have z1 := sized_ints hsz (j := 0) (t := 26) rfl rfl Try.underlying26 hd1
  rw [bytes2] at z1
  simp only [reachBytes] at z1
  exact F.cuts_spec ns1 a1 l1 c1 n t W.heap hs1 hlen1 hlc1 (by omega)
set_option maxRecDepth 100000 in
theorem lifted (os : Os) (started : os.Started) (H : Type) (enc : TypeId × Value → H) :
    ReturnsInHanded {} Try.checked os 4 .any (Rows.aggCutsSpec.pre6 enc Try.prog Try.f4 Rows.aggCutsRow.domain false) (Rows.aggCutsSpec.post enc Try.prog Try.f4 false true false false) := by
  refine returnsInHanded_of_change_sized (C := Try.checked) own started (by kernel_rfl) Try.func4
    (ChangeSpec.witness6 (enc := enc) (C := Try.checked) false ⟨#[], #[.slice none 0 0, .int .i64 0, .bool false], []⟩ 8 (by kernel_rfl) (by kernel_rfl) (by kernel_rfl) (by kernel_rfl)) ?_
  intro W base args ds gs before hval hW _ hsz _
  exact contract H enc W base args ds gs before hval hW hsz
theorem proved : Rows.AggCutsSaid :=
  OpenClaim.holds_of_wide 4 Try.f4 rfl rfl rfl rfl rfl rfl rfl ⟨rfl, rfl, rfl, rfl, rfl⟩ rfl rfl rfl rfl rfl (by kernel_rfl) Try.func4 (by kernel_rfl)
    (of_decide_eq_true (by kernel_rfl)) (by unfold Func.isWrapper; first | (rw [if_pos (by decide +kernel)]; kernel_rfl) | (rw [if_neg (by decide +kernel)]; exact ⟨rfl, rfl⟩))
    (fun os started H enc _ => lifted os started H enc)
end Go.Proofs.Ytcncagllbkohfaa.cuts
namespace Go.Proofs.Ytcncagllbkohfaa
/-- The row, under a short name, for the claim. -/
theorem agg_cuts_holds : Rows.AggCutsSaid := cuts.proved
end Go.Proofs.Ytcncagllbkohfaa
