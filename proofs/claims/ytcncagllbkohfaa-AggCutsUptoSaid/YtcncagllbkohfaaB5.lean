/- AggCuts answers true for every input of bulk at most 1048576, and the input reads as it did. Conditions: none. -/
import Derived.Test.YtcncagllbkohfaaB4
import Derived.Test.YtcncagllbkohfaaR2
import Derived.Test.YtcncagllbkohfaaBulk
namespace Go.Proofs.Ytcncagllbkohfaa.cuts
open Go Go.VC Go.ChangeShapes Go.WideShapes Go.ChangeAt Go.RowKit
set_option linter.unusedSimpArgs false
set_option linter.unusedVariables false

theorem own : ownKnob Try.prog.godebug = none := by kernel_rfl
theorem laidOut : laidOutB Try.prog = true := by kernel_rfl
theorem short {H : Type} {d : DataW H} {l c : Nat} {a : Option Addr} (hb : Rows.uptoBulk d ≤ 1048576) (h : d = .nil ∧ l = 0 ∧ c = 0 ∧ a = none ∨ ∃ ds sp : List (DataW H), d = .slice ds sp ∧ ds.length = l ∧ sp.length = c - l) : l ≤ 1048576 := by
  rcases h with ⟨_, h, _⟩ | ⟨ds, sp, rfl, h1, h2⟩
  · omega
  · have := bulks.slice_le ds sp
    omega
theorem contract (H : Type) (enc : TypeId × Value → H) (W : World) (base : Nat) (args : Array Value) (ds gs : List (DataW H)) (before : List MemPlace)
    (hval : ∀ (j : Nat) t v, Try.f4.params[j]? = some t → args[j]? = some v → Value.okWide Try.prog W .any base t v)
    (hW : DataW.Whole enc Try.prog Try.f4.params.toList Rows.aggCutsSpec.vars false W args.toList ds gs before) (hk : Rows.uptoSmall H (ds ++ gs) = true) :
    Calls Try.prog 4 args W fun e W' => ∃ v, e = .returned v ∧ Rows.aggCutsSpec.post enc Try.prog Try.f4 false true false false W args v W' := by
  have hb := bulks.bound hk
  rw [bulks.append] at hb
  have hW' := hW
  obtain ⟨p, q, hA, hV, rfl, hfz, hnd⟩ := hW
  rw [Try.params4] at hA hval
  obtain ⟨v0, vs0, d0, ds0, p0, q0, hargs, rfl, rfl, h0, r0⟩ := trodAll_cons hA
  obtain ⟨v1, vs1, d1, ds1, p1, q1, rfl, rfl, rfl, h1, r1⟩ := trodAll_cons r0
  obtain ⟨v2, vs2, d2, ds2, p2, q2, rfl, rfl, rfl, h2, r2⟩ := trodAll_cons r1
  obtain ⟨rfl, rfl, rfl⟩ := trodAll_nil r2
  obtain rfl : args = #[v0, v1, v2] := by cases args; simp_all
  obtain ⟨a1, l1, c1, ns1, rfl, hlc1, hm1, hlen1, hs1, hw1, hd1⟩ := arg_ints Try.underlying26 Try.underlying2 (by kernel_rfl) (hval 0 _ v0 rfl rfl) h0
  obtain ⟨n, rfl, rfl, rfl, hn⟩ := open_int Try.underlying3 (hval 1 _ v1 rfl rfl) h1
  obtain ⟨t, rfl, rfl, rfl⟩ := open_bool Try.underlying4 (hval 2 _ v2 rfl rfl) h2
  simp only [Rows.uptoBulkAll] at hb
  refine calls_true (tb := 4) laidOut (by kernel_rfl) (by kernel_rfl) Try.underlying4 rfl rfl hW' ?_
  exact F.cuts_spec ns1 a1 l1 c1 n t W.heap hs1 hlen1 hlc1 (by have := short (by omega) hd1; omega)
set_option maxRecDepth 100000 in
theorem lifted (os : Os) (started : os.Started) (H : Type) (enc : TypeId × Value → H) (F : Stop.Interp) :
    ReturnsInHanded {} Try.checked os 4 .any ((Rows.OpenSpec.upto Rows.aggCutsSpec).pre6 enc Try.prog Try.f4 Rows.aggCutsUptoRow.domain false) (((Rows.OpenSpec.upto Rows.aggCutsSpec).at F).post enc Try.prog Try.f4 false true false false) := by
  refine returnsInHanded_of_cond (C := Try.checked) (s := Rows.OpenSpec.upto Rows.aggCutsSpec) (k := Rows.uptoSmall) rfl own started (by kernel_rfl) Try.func4
    (OpenSpec.witness (enc := enc) (C := Try.checked) (s := Rows.OpenSpec.upto Rows.aggCutsSpec) (k := Rows.uptoSmall) rfl false ⟨#[], #[.slice none 0 0, .int .i64 0, .bool false], []⟩ 8 (by kernel_rfl) (by kernel_rfl) (by kernel_rfl)
      (x := ([.nil, .lit (.int .i64 0), .lit (.bool false)], [], [])) (by kernel_rfl) rfl (by kernel_rfl)) ?_
  intro W base args ds gs before hval hW _ hk _
  exact contract H enc W base args ds gs before hval hW hk
theorem proved : Rows.AggCutsUptoSaid :=
  OpenClaim.holds_of_cond 4 Try.f4 rfl rfl rfl rfl rfl rfl rfl ⟨rfl, rfl, rfl, rfl, rfl⟩ rfl rfl rfl rfl rfl (by kernel_rfl) Try.func4 (by kernel_rfl)
    (of_decide_eq_true (by kernel_rfl)) (by unfold Func.isWrapper; first | (rw [if_pos (by decide +kernel)]; kernel_rfl) | (rw [if_neg (by decide +kernel)]; exact ⟨rfl, rfl⟩))
    (fun os started H enc _ F => lifted os started H enc F)
end Go.Proofs.Ytcncagllbkohfaa.cuts
namespace Go.Proofs.Ytcncagllbkohfaa
/-- The row, under a short name, for the claim. -/
theorem agg_cuts_holds : Rows.AggCutsUptoSaid := cuts.proved
end Go.Proofs.Ytcncagllbkohfaa
