/- Rows of the log's laws: the table, what the arguments hold. Conditions: none. -/
import Derived.Test.YtbaglaoefaoaoaaDoorLF
import Derived.Test.YtbaglaoefaoaoaaDoorR3
import Derived.Test.YtbaglaoefaoaoaaDoorCards
import Derived.Test.YtbaglaoefaoaoaaDoorTie
import Derived.Deep.DeepHandedRow
import Derived.Lib.LaidTab
namespace Go.Proofs.YtbaglaoefaoaoaaDoor.F
open Go Go.VC Go.ChangeShapes Go.WideShapes Go.ChangeAt Go.RowKit
set_option linter.unusedSimpArgs false
set_option linter.unusedVariables false
set_option maxRecDepth 100000

theorem own : ownKnob Tryd.prog.godebug = none := by kernel_rfl
theorem laidOut : laidOutB Tryd.prog = true := by kernel_rfl
theorem gTab : Tryd.prog.globalNamed "refrain/log.halves" = some 0 := by kernel_rfl
theorem gTabType : (Tryd.prog.globals[0]?).map (·.type) = some 116 := by kernel_rfl
theorem undT : Tryd.prog.underlying 116 = some (.array 16 79) := by kernel_rfl
theorem undU : Tryd.prog.underlying 79 = some (.int .u32) := by kernel_rfl
theorem cellsT : Tryd.prog.cellsOf 116 = 16 := by kernel_rfl
theorem cellsU : Tryd.prog.cellsOf 79 = 1 := by kernel_rfl
def nums : List Int := [0, 498536548, 997073096, 651767980, 1994146192, 1802195444, 1303535960, 1342533948, 3988292384, 4027552580, 3604390888, 3412177804, 2607071920, 2262029012, 2685067896, 3183342108]
theorem tab_of {W : World} (h : laidMetH Tryd.prog [("refrain/log.halves", Rows.laid_refrain_log_halves)] W) : Tab none_ W.heap := by
  have t : Lib.TabIs Tryd.prog W "refrain/log.halves" .u32 nums := Lib.tabIs_of_head (rest := []) gTab gTabType undT undU cellsU cellsT h
  intro j v hj
  have hlt : j < 16 := (List.getElem?_eq_some_iff.1 hj).1
  refine ⟨_, rfl, ?_, id⟩
  rw [VC.add_plain, Nat.zero_add]
  have h1 := t.cell gTab j hlt
  rw [cell_eq] at h1
  rw [h1]
  have key : ∀ j, j < 16 → (halves.map u32V)[j]? = some (.int .u32 (nums.getD j 0)) := by
    intro j hj
    have : j = 0 ∨ j = 1 ∨ j = 2 ∨ j = 3 ∨ j = 4 ∨ j = 5 ∨ j = 6 ∨ j = 7 ∨ j = 8 ∨ j = 9 ∨ j = 10 ∨ j = 11 ∨ j = 12 ∨ j = 13 ∨ j = 14 ∨ j = 15 := by omega
    rcases this with rfl | rfl | rfl | rfl | rfl | rfl | rfl | rfl | rfl | rfl | rfl | rfl | rfl | rfl | rfl | rfl <;> rfl
  rw [key j hlt] at hj
  exact hj
noncomputable def laidWorld (os : Os) : World :=
  { World.holding Tryd.prog os ⟨#[], #[], []⟩ with heap := (World.holding Tryd.prog os ⟨#[], #[], []⟩).heap.modify 0 fun
      | .cells _ t frozen => .cells (nums.map fun z => Value.int .u32 z).toArray t frozen
      | o => o }
def bsOf (es : List Int) : Bytes := es.map fun n => UInt8.ofNat n.toNat
abbrev B8 : Sh := .int .u8
theorem wf_u8 {n : Int} (h : (Lit.int .u8 n).wf = true) : 0 ≤ n ∧ n < 256 := by
  simp only [Lit.wf, Bool.and_eq_true, decide_eq_true_eq] at h
  have h1 : IntKind.u8.min = 0 := by decide
  have h2 : IntKind.u8.max = 255 := by decide
  omega
theorem bytes_cells : ∀ (es : List Int), (∀ n ∈ es, (Lit.int .u8 n).wf = true) → es.map (Value.int .u8) = bytesV (bsOf es)
  | [], _ => rfl
  | n :: es, h => by
    have hn := wf_u8 (h n (by simp))
    have ih := bytes_cells es fun m hm => h m (by simp [hm])
    show Value.int .u8 n :: es.map (Value.int .u8) = byteV (UInt8.ofNat n.toNat) :: bytesV (bsOf es)
    rw [ih, byteV_of]
    congr 2
    omega
theorem bytes_read {h : Heap} (x : (Sh.slc B8).T) (ok : (Sh.slc B8).ok h x) : Sl h x.a (bytesV (bsOf x.es)) ∧ (bsOf x.es).length = x.l ∧ x.l ≤ x.c := by
  obtain ⟨o1, o2, o3, o4, o5, o6⟩ := ok
  have e : x.es.flatMap (Sh.cells B8) = bytesV (bsOf x.es) := (flat_one (Value.int .u8) x.es).trans (bytes_cells x.es o6)
  refine ⟨Eq.mp (congrArg (Sl h x.a) e) o4, ?_, o2⟩
  exact (show (bsOf x.es).length = x.es.length from List.length_map _).trans o1
abbrev LL8 : Sh := .slc (.slc B8)
def bssOf (x : LL8.T) : List Bytes := x.es.map fun y => bsOf y.es
theorem bytes_bulk (y : (Sh.slc B8).T) : (bsOf y.es).length + 1 ≤ (Sh.slc B8).bulk y := by
  have h := slc_len (e := B8) (x := y) (fun _ => Nat.le_refl _) (Nat.le_refl _)
  have e : (bsOf y.es).length = y.es.length := List.length_map _
  omega
theorem lists_read {h : Heap} (x : LL8.T) (ok : LL8.ok h x) : RoL none_ h x.a x.l (bssOf x) ∧ tot (bssOf x) ≤ LL8.bulk x := by
  obtain ⟨o1, o2, o3, o4, o5, o6⟩ := ok
  refine ⟨⟨x.es.map fun y => ⟨y.a, y.l, y.c, bsOf y.es⟩, ?_, ?_, ?_, ?_⟩, ?_⟩
  · have e : x.es.flatMap (Sh.cells (.slc B8)) = (x.es.map fun y => (⟨y.a, y.l, y.c, bsOf y.es⟩ : Sg)).map sgV := by
      rw [List.map_map]
      exact flat_one (fun y : (Sh.slc B8).T => Value.slice y.a y.l y.c) x.es
    rw [← e]; exact o4.ro
  · intro z hz
    obtain ⟨y, hy, rfl⟩ := List.mem_map.1 hz
    obtain ⟨r1, r2, r3⟩ := bytes_read y (o6 y hy)
    exact ⟨r1.ro, r2, r3⟩
  · rw [List.map_map]; rfl
  · unfold bssOf; rw [List.length_map]; exact o1
  · have h1 : LL8.bulk x = (x.es.map (Sh.bulk (.slc B8))).sum + (x.c - x.l) + 1 := rfl
    have h2 : tot (bssOf x) ≤ (x.es.map (Sh.bulk (.slc B8))).sum := by
      unfold bssOf
      generalize x.es = es
      induction es with
      | nil => simp [tot]
      | cons y es ih =>
        rw [List.map_cons, List.map_cons, List.sum_cons, tot_cons]
        have := bytes_bulk y
        omega
    omega
end Go.Proofs.YtbaglaoefaoaoaaDoor.F
