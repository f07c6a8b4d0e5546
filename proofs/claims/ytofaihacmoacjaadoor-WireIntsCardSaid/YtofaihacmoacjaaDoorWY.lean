/- What the arguments of wire's laws reach: how long the lists are at most, where each takes at most reachBytes. Conditions: none. -/
import Derived.Test.YtofaihacmoacjaaDoorWE
import Derived.SizedLaws
namespace Go.Proofs.YtofaihacmoacjaaDoor.F
open Go Go.VC Go.ChangeShapes Go.WideShapes Go.ChangeAt Go.RowKit
set_option linter.unusedSimpArgs false
set_option linter.unusedVariables false
set_option maxRecDepth 100000

theorem uy22 : Tryd.prog.underlying 22 = some (.slice 27) := by kernel_rfl
theorem uy23 : Tryd.prog.underlying 23 = some (.slice 30) := by kernel_rfl
theorem uy25 : Tryd.prog.underlying 25 = some (.slice 83) := by kernel_rfl
theorem uy30 : Tryd.prog.underlying 30 = some (.slice 5) := by kernel_rfl
theorem uy41 : Tryd.prog.underlying 41 = some (.slice 2) := by kernel_rfl
theorem uy48 : Tryd.prog.underlying 48 = some (.slice 22) := by kernel_rfl
theorem by27 : Tryd.prog.bytesOf 27 = 48 := by kernel_rfl
theorem by30 : Tryd.prog.bytesOf 30 = 24 := by kernel_rfl
theorem by83 : Tryd.prog.bytesOf 83 = 40 := by kernel_rfl
theorem by5 : Tryd.prog.bytesOf 5 = 1 := by kernel_rfl
theorem by2 : Tryd.prog.bytesOf 2 = 8 := by kernel_rfl
theorem by22 : Tryd.prog.bytesOf 22 = 24 := by kernel_rfl
theorem bytes_reach {h : Heap} (x : (Sh.slc B8).T) (ok : (Sh.slc B8).ok h x) (hw : ∀ n ∈ (Sh.slc B8).ws Tryd.prog (.inl 30) x, n ≤ reachBytes) : x.l ≤ 140737488351232 := by
  have m := (Sh.ws_slc uy30 hw).1
  rw [by5] at m
  simp only [reachBytes] at m
  have := ok.2.1
  omega
theorem lists_reach {h : Heap} (x : LL8.T) (ok : LL8.ok h x) (hw : ∀ n ∈ LL8.ws Tryd.prog (.inl 23) x, n ≤ reachBytes) : Lim (bssOf x) 140737488351233 := by
  obtain ⟨m1, m2⟩ := Sh.ws_slc uy23 hw
  rw [by30] at m1
  simp only [reachBytes] at m1
  have o1 := ok.1
  have o2 := ok.2.1
  refine ⟨?_, fun b hb => ?_⟩
  · unfold bssOf
    rw [List.length_map]
    omega
  · obtain ⟨y, hy, rfl⟩ := List.mem_map.1 hb
    have oy := ok.2.2.2.2.2 y hy
    have h1 := bytes_reach y oy (m2 y hy)
    have h2 := (bytes_read y oy).2.1
    omega
theorem event_reach {h : Heap} (x : EvS.T) (ok : EvS.ok h x) (hw : ∀ n ∈ EvS.ws Tryd.prog (.inl 27) x, n ≤ reachBytes) : (toEv x).vs.length ≤ 3518437208780 := by
  obtain ⟨_, _, h3, _⟩ := ok
  have m : ∀ n ∈ (Sh.cons .str (.cons (.int .i64) (.cons (.slc ValS) .nil))).ws Tryd.prog (.inr [9, 2, 25]) x, n ≤ reachBytes := Sh.ws_struct' (by kernel_rfl) hw
  have m1 := (Sh.ws_slc uy25 (Sh.ws_cons (Sh.ws_cons (Sh.ws_cons m).2).2).1).1
  rw [by83] at m1
  simp only [reachBytes] at m1
  obtain ⟨_, r2, r3, _⟩ := vals_read x.2.2.1 h3
  show (x.2.2.1.es.map toVal).length ≤ _
  omega
theorem events_reach {h : Heap} (x : (Sh.slc EvS).T) (ok : (Sh.slc EvS).ok h x) (hw : ∀ n ∈ (Sh.slc EvS).ws Tryd.prog (.inl 22) x, n ≤ reachBytes) : x.l ≤ 2932031007317 ∧ (esOf x.es).length ≤ 2932031007317 ∧ ∀ e ∈ esOf x.es, e.vs.length ≤ 3518437208780 := by
  obtain ⟨m1, m2⟩ := Sh.ws_slc uy22 hw
  rw [by27] at m1
  simp only [reachBytes] at m1
  have o1 := ok.1
  have o2 := ok.2.1
  refine ⟨by omega, ?_, fun e he => ?_⟩
  · unfold esOf
    rw [List.length_map]
    omega
  · obtain ⟨y, hy, rfl⟩ := List.mem_map.1 he
    exact event_reach y (ok.2.2.2.2.2 y hy) (m2 y hy)
end Go.Proofs.YtofaihacmoacjaaDoor.F
