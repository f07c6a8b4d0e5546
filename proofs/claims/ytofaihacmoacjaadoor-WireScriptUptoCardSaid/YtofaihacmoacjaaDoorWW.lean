/- Rows of wire's laws: a script. Conditions: none. -/
import Derived.Test.YtofaihacmoacjaaDoorWP
import Derived.Test.YtofaihacmoacjaaDoorWV
namespace Go.Proofs.YtofaihacmoacjaaDoor.F
open Go Go.VC Go.ChangeShapes Go.WideShapes Go.ChangeAt Go.RowKit
set_option linter.unusedSimpArgs false
set_option linter.unusedVariables false
set_option maxRecDepth 100000

abbrev OpS : Sh := .agg (.cons (.int .i64) (.cons (.int .i64) (.cons (.slc B8) (.cons EvS (.cons (.slc EvS) .nil)))))
def toOm (x : OpS.T) : Om := ⟨x.2.2.1.a, x.2.2.1.c, x.2.2.2.1.2.2.1.a, x.2.2.2.1.2.2.1.c, x.2.2.2.2.1.a, x.2.2.2.2.1.c, ⟨x.1, x.2.1, bsOf x.2.2.1.es, toEv x.2.2.2.1, esOf x.2.2.2.2.1.es⟩⟩
theorem op_bulk (y : OpS.T) : (Sh.slc B8).bulk y.2.2.1 + EvS.bulk y.2.2.2.1 + (Sh.slc EvS).bulk y.2.2.2.2.1 + 3 ≤ OpS.bulk y := by
  have e : OpS.bulk y = 1 + (1 + ((Sh.slc B8).bulk y.2.2.1 + (EvS.bulk y.2.2.2.1 + ((Sh.slc EvS).bulk y.2.2.2.2.1 + 0)))) + 1 := rfl
  omega
theorem op_read {h : Heap} (x : OpS.T) (ok : OpS.ok h x) (hb : OpS.bulk x ≤ 1048576) : OpRo h (toOm x) ∧ OpOk 1048576 (toOm x).o ∧ opC (toOm x) = OpS.cells x := by
  obtain ⟨k0, k1, k2, k3, k4, _⟩ := ok
  obtain ⟨r1, r2, r3⟩ := bytes_read x.2.2.1 k2
  obtain ⟨e1, e2, e3, e4⟩ := event_read x.2.2.2.1 k3
  obtain ⟨f1, f2⟩ := events_read x.2.2.2.2.1 k4
  have hl1 := e1.len
  have hl2 : (esOf x.2.2.2.2.1.es).length = x.2.2.2.2.1.l := by obtain ⟨_, _, _, _, e⟩ := f1; exact e
  have b0 := op_bulk x
  have b1 := bytes_bulk x.2.2.1
  have b2 := event_bulk x.2.2.2.1
  have b3 := events_bulk x.2.2.2.2.1
  have b4 := totE_len (esOf x.2.2.2.2.1.es)
  have hbig : big = 137438953472 := rfl
  refine ⟨⟨r1, by show (bsOf x.2.2.1.es).length ≤ x.2.2.1.c; omega, e1.ro.sl, ?_⟩, ⟨wf_i64 k1, e1.rng, by show (bsOf x.2.2.1.es).length ≤ _; omega, by show (toEv x.2.2.2.1).vs.length ≤ _; omega, by show (toEv x.2.2.2.1).t.length ≤ _; omega, by show (esOf x.2.2.2.2.1.es).length ≤ _; omega, fun e he => ?_⟩, ?_⟩
  · show RoE none_ h x.2.2.2.2.1.a (esOf x.2.2.2.2.1.es).length (esOf x.2.2.2.2.1.es)
    rw [hl2]; exact f1
  · have := totE_mem (show e ∈ esOf x.2.2.2.2.1.es from he)
    obtain ⟨ys, q1, q2, q3, q4⟩ := f1
    have hm : e ∈ ys.map Se.e := by rw [q3]; exact he
    obtain ⟨y, hy, rfl⟩ := List.mem_map.1 hm
    exact ⟨(q2 y hy).rng, by omega, by omega⟩
  · show [Value.int .i64 x.1, Value.int .i64 x.2.1, Value.slice x.2.2.1.a (bsOf x.2.2.1.es).length x.2.2.1.c, Value.string (bA (toEv x.2.2.2.1).t), Value.int .i64 (toEv x.2.2.2.1).tm, Value.slice x.2.2.2.1.2.2.1.a (toEv x.2.2.2.1).vs.length x.2.2.2.1.2.2.1.c, Value.slice x.2.2.2.2.1.a (esOf x.2.2.2.2.1.es).length x.2.2.2.2.1.c] = _
    rw [r2, hl1, hl2]
    rfl
theorem ops_read {h : Heap} (x : (Sh.slc OpS).T) (ok : (Sh.slc OpS).ok h x) (hb : (Sh.slc OpS).bulk x ≤ 1048576) : Sl h x.a ((x.es.map toOm).flatMap opC) ∧ (x.es.map toOm).length = x.l ∧ (∀ m ∈ x.es.map toOm, OpRo h m ∧ OpOk 1048576 m.o) ∧ x.l ≤ 1048576 := by
  obtain ⟨o1, o2, o3, o4, o5, o6⟩ := ok
  have hbm : ∀ y ∈ x.es, OpS.bulk y ≤ 1048576 := fun y hy => by have := slc_mem (e := OpS) hb hy; omega
  have hlen := slc_len (e := OpS) (fun y => by show 1 ≤ _ + 1; omega) hb
  refine ⟨?_, (List.length_map _).trans o1, ?_, by omega⟩
  · have e : x.es.flatMap (Sh.cells OpS) = (x.es.map toOm).flatMap opC := by
      rw [← flat_map opC toOm]
      have key : ∀ xs : List OpS.T, (∀ y ∈ xs, OpS.ok h y ∧ OpS.bulk y ≤ 1048576) → xs.flatMap (Sh.cells OpS) = xs.flatMap fun y => opC (toOm y) := by
        intro xs
        induction xs with
        | nil => intro _; rfl
        | cons y xs ih =>
          intro hk
          obtain ⟨k1, k2⟩ := hk y (by simp)
          rw [List.flatMap_cons, List.flatMap_cons, ih fun z hz => hk z (by simp [hz]), (op_read y k1 k2).2.2]
      exact key x.es fun y hy => ⟨o6 y hy, hbm y hy⟩
    exact Eq.mp (congrArg (Sl h x.a) e) o4
  · intro m hm
    obtain ⟨y, hy, rfl⟩ := List.mem_map.1 hm
    obtain ⟨q1, q2, _⟩ := op_read y (o6 y hy) (hbm y hy)
    exact ⟨q1, q2⟩
end Go.Proofs.YtofaihacmoacjaaDoor.F
