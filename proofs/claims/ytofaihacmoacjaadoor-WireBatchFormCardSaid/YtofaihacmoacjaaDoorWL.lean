/- Rows of wire's laws: batches. Conditions: none. -/
import Derived.Test.YtofaihacmoacjaaDoorWE
import Derived.Test.YtofaihacmoacjaaDoorWK
namespace Go.Proofs.YtofaihacmoacjaaDoor.F
open Go Go.VC Go.ChangeShapes Go.WideShapes Go.ChangeAt Go.RowKit
set_option linter.unusedSimpArgs false
set_option linter.unusedVariables false
set_option maxRecDepth 100000

abbrev LLE : Sh := .slc (.slc EvS)
theorem batches_read {h : Heap} (x : LLE.T) (ok : LLE.ok h x) : RoB h x.a x.l (x.es.map fun y => esOf y.es) := by
  obtain ⟨o1, o2, o3, o4, o5, o6⟩ := ok
  refine ⟨x.es.map fun y => ⟨y.a, y.l, y.c, esOf y.es⟩, ?_, ?_, ?_, ?_⟩
  · have e : x.es.flatMap (Sh.cells (.slc EvS)) = (x.es.map fun y => (⟨y.a, y.l, y.c, esOf y.es⟩ : Sb)).map sbV := by
      rw [List.map_map]
      exact flat_one (fun y : (Sh.slc EvS).T => Value.slice y.a y.l y.c) x.es
    rw [← e]; exact o4
  · intro z hz
    obtain ⟨y, hy, rfl⟩ := List.mem_map.1 hz
    exact (events_read y (o6 y hy)).1
  · rw [List.map_map]; rfl
  · rw [List.length_map]; exact o1
end Go.Proofs.YtofaihacmoacjaaDoor.F
