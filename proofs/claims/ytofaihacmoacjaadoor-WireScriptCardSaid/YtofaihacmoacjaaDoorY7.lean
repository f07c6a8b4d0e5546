/- Rows of wire's laws: a script. Conditions: none. -/
import Derived.Test.YtofaihacmoacjaaDoorWP
import Derived.Test.YtofaihacmoacjaaDoorWV
import Derived.Test.YtofaihacmoacjaaDoorWY
namespace Go.Proofs.YtofaihacmoacjaaDoor.F
open Go Go.VC Go.ChangeShapes Go.WideShapes Go.ChangeAt Go.RowKit
set_option linter.unusedSimpArgs false
set_option linter.unusedVariables false
set_option maxRecDepth 100000

abbrev OpS : Sh := .agg (.cons (.int .i64) (.cons (.int .i64) (.cons (.slc B8) (.cons EvS (.cons (.slc EvS) .nil)))))
def toOm (x : OpS.T) : Om := ⟨x.2.2.1.a, x.2.2.1.c, x.2.2.2.1.2.2.1.a, x.2.2.2.1.2.2.1.c, x.2.2.2.2.1.a, x.2.2.2.2.1.c, ⟨x.1, x.2.1, bsOf x.2.2.1.es, toEv x.2.2.2.1, esOf x.2.2.2.2.1.es⟩⟩
theorem uy67 : Tryd.prog.underlying 67 = some (.slice 71) := by kernel_rfl
theorem by71 : Tryd.prog.bytesOf 71 = 112 := by kernel_rfl
theorem uy68 : Tryd.prog.underlying 68 = some (.slice 3) := by kernel_rfl
theorem event_text (x : EvS.T) (hw : ∀ n ∈ EvS.ws Tryd.prog (.inl 27) x, n ≤ reachBytes) : (toEv x).t.length ≤ 140737488351232 := by
  have m : ∀ n ∈ (Sh.cons .str (.cons (.int .i64) (.cons (.slc ValS) .nil))).ws Tryd.prog (.inr [9, 2, 25]) x, n ≤ reachBytes := Sh.ws_struct' (by kernel_rfl) hw
  have h := Sh.ws_str (Sh.ws_cons m).1
  simp only [reachBytes] at h
  exact h
theorem op_reach {h : Heap} (x : OpS.T) (ok : OpS.ok h x) (hw : ∀ n ∈ OpS.ws Tryd.prog (.inl 71) x, n ≤ reachBytes) : OpRo h (toOm x) ∧ OpOk 140737488351232 (toOm x).o := by
  have m : ∀ n ∈ (Sh.cons (.int .i64) (.cons (.int .i64) (.cons (.slc B8) (.cons EvS (.cons (.slc EvS) .nil))))).ws Tryd.prog (.inr [3, 2, 30, 27, 22]) x, n ≤ reachBytes := Sh.ws_struct' (by kernel_rfl) hw
  have c3 := Sh.ws_cons (Sh.ws_cons (Sh.ws_cons m).2).2
  have c4 := Sh.ws_cons c3.2
  have c5 := Sh.ws_cons c4.2
  obtain ⟨k0, k1, k2, k3, k4, _⟩ := ok
  obtain ⟨r1, r2, r3⟩ := bytes_read x.2.2.1 k2
  obtain ⟨e1, e2, e3, e4⟩ := event_read x.2.2.2.1 k3
  obtain ⟨f1, f2⟩ := events_read x.2.2.2.2.1 k4
  have hl2 : (esOf x.2.2.2.2.1.es).length = x.2.2.2.2.1.l := by obtain ⟨_, _, _, _, e⟩ := f1; exact e
  have b1 := bytes_reach x.2.2.1 k2 c3.1
  have b2 := event_reach x.2.2.2.1 k3 c4.1
  have b3 := event_text x.2.2.2.1 c4.1
  obtain ⟨b4, b5, b6⟩ := events_reach x.2.2.2.2.1 k4 c5.1
  refine ⟨⟨r1, by show (bsOf x.2.2.1.es).length ≤ x.2.2.1.c; omega, e1.ro.sl, ?_⟩, ⟨wf_i64 k1, e1.rng, by show (bsOf x.2.2.1.es).length ≤ _; omega, b2, b3, b5, fun e he => ?_⟩⟩
  · show RoE none_ h x.2.2.2.2.1.a (esOf x.2.2.2.2.1.es).length (esOf x.2.2.2.2.1.es)
    rw [hl2]; exact f1
  · have he : e ∈ esOf x.2.2.2.2.1.es := he
    obtain ⟨y, hy, rfl⟩ := List.mem_map.1 he
    refine ⟨(event_read y (k4.2.2.2.2.2 y hy)).1.rng, b6 _ he, event_text y ((Sh.ws_slc uy22 c5.1).2 y hy)⟩
theorem op_cells {h : Heap} (x : OpS.T) (ok : OpS.ok h x) : opC (toOm x) = OpS.cells x := by
  obtain ⟨k0, k1, k2, k3, k4, _⟩ := ok
  obtain ⟨r1, r2, r3⟩ := bytes_read x.2.2.1 k2
  obtain ⟨e1, e2, e3, e4⟩ := event_read x.2.2.2.1 k3
  obtain ⟨f1, f2⟩ := events_read x.2.2.2.2.1 k4
  have hl1 := e1.len
  have hl2 : (esOf x.2.2.2.2.1.es).length = x.2.2.2.2.1.l := by obtain ⟨_, _, _, _, e⟩ := f1; exact e
  show [Value.int .i64 x.1, Value.int .i64 x.2.1, Value.slice x.2.2.1.a (bsOf x.2.2.1.es).length x.2.2.1.c, Value.string (bA (toEv x.2.2.2.1).t), Value.int .i64 (toEv x.2.2.2.1).tm, Value.slice x.2.2.2.1.2.2.1.a (toEv x.2.2.2.1).vs.length x.2.2.2.1.2.2.1.c, Value.slice x.2.2.2.2.1.a (esOf x.2.2.2.2.1.es).length x.2.2.2.2.1.c] = _
  rw [r2, hl1, hl2]
  rfl
theorem ops_reach {h : Heap} (x : (Sh.slc OpS).T) (ok : (Sh.slc OpS).ok h x) (hw : ∀ n ∈ (Sh.slc OpS).ws Tryd.prog (.inl 67) x, n ≤ reachBytes) : Sl h x.a ((x.es.map toOm).flatMap opC) ∧ (x.es.map toOm).length = x.l ∧ (∀ m ∈ x.es.map toOm, OpRo h m ∧ OpOk 140737488351232 m.o) ∧ x.l ≤ 1256584717421 := by
  obtain ⟨o1, o2, o3, o4, o5, o6⟩ := ok
  obtain ⟨m1, m2⟩ := Sh.ws_slc uy67 hw
  rw [by71] at m1
  simp only [reachBytes] at m1
  refine ⟨?_, (List.length_map _).trans o1, ?_, by omega⟩
  · have e : x.es.flatMap (Sh.cells OpS) = (x.es.map toOm).flatMap opC := by
      rw [← flat_map opC toOm]
      have key : ∀ xs : List OpS.T, (∀ y ∈ xs, OpS.ok h y) → xs.flatMap (Sh.cells OpS) = xs.flatMap fun y => opC (toOm y) := by
        intro xs
        induction xs with
        | nil => intro _; rfl
        | cons y xs ih =>
          intro hk
          rw [List.flatMap_cons, List.flatMap_cons, ih fun z hz => hk z (by simp [hz]), op_cells y (hk y (by simp))]
      exact key x.es o6
    exact Eq.mp (congrArg (Sl h x.a) e) o4
  · intro m hm
    obtain ⟨y, hy, rfl⟩ := List.mem_map.1 hm
    exact op_reach y (o6 y hy) (m2 y hy)
end Go.Proofs.YtofaihacmoacjaaDoor.F
