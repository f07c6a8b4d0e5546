/- Rows of wire's laws: the words, what the arguments hold. Conditions: none. -/
import Derived.Test.YtofaihacmoacjaaDoorWD
import Derived.Test.YtofaihacmoacjaaDoorR3
import Derived.Test.YtofaihacmoacjaaDoorCards
import Derived.Test.YtofaihacmoacjaaDoorTie
import Derived.Deep.DeepHandedRow
import Derived.Lib.LaidTab
namespace Go.Proofs.YtofaihacmoacjaaDoor.F
open Go Go.VC Go.ChangeShapes Go.WideShapes Go.ChangeAt Go.RowKit
set_option linter.unusedSimpArgs false
set_option linter.unusedVariables false
set_option maxRecDepth 100000

theorem own : ownKnob Tryd.prog.godebug = none := by kernel_rfl
theorem laidOut : laidOutB Tryd.prog = true := by kernel_rfl
theorem gTab : Tryd.prog.globalNamed "refrain/schema.words" = some 0 := by kernel_rfl
theorem gTabType : (Tryd.prog.globals[0]?).map (·.type) = some 118 := by kernel_rfl
theorem und118 : Tryd.prog.underlying 118 = some (.array 16 9) := by kernel_rfl
theorem cells9 : Tryd.prog.cellsOf 9 = 1 := by kernel_rfl
theorem laid_words : (Rows.laid_refrain_schema_words : DataW Unit) = .agg (words.map fun w => .lit (.string w)) := rfl
theorem wd_of {W : World} (h : laidMetH Tryd.prog [("refrain/schema.words", Rows.laid_refrain_schema_words)] W) : Wd none_ W.heap := by
  have h : laidMet Tryd.prog [("refrain/schema.words", Rows.laid_refrain_schema_words)] W := h
  obtain ⟨ps, ⟨g', t', cs, fuel, p, q, hg', ht', hvar, hd, _, _⟩, _⟩ := h
  obtain rfl := Option.some.inj (gTab.symm.trans hg')
  obtain rfl := Option.some.inj (gTabType.symm.trans ht')
  rw [laid_words] at hd
  obtain ⟨xs, m, _, hx, hl, hlen, hf⟩ := DataW.trod_array und118 hd
  simp only [Prod.mk.injEq, DataW.agg.injEq] at hx
  obtain ⟨hx, _⟩ := hx
  intro j v hj
  have hlt : j < 16 := (List.getElem?_eq_some_iff.1 hj).1
  refine ⟨_, rfl, ?_, id⟩
  rw [VC.add_plain, Nat.zero_add]
  have h1 := hf j hlt
  rw [cells9, Nat.mul_one, List.getElem?_eq_getElem (by omega)] at h1
  obtain ⟨s, hc, hs, _⟩ := DataW.trod_string und9 h1
  have h2 : (xs.map (·.1))[j]? = some (.lit (.string s.data.toList)) := by
    rw [List.getElem?_map, List.getElem?_eq_getElem (by omega), hs]; rfl
  rw [← hx, List.getElem?_map] at h2
  rw [List.getElem?_map] at hj
  obtain ⟨w, hw, hw2⟩ := Option.map_eq_some_iff.1 h2
  rw [hw] at hj
  have hj := (Option.some.inj hj).symm
  simp only [DataW.lit.injEq, Lit.string.injEq] at hw2
  have h3 : cs[j]? = some (.string s) := by
    have := congrArg (·[0]?) hc
    simpa [List.getElem?_take, List.getElem?_drop] using this
  have h4 := World.var?_cell gTab hvar j
  rw [cell_eq, h3] at h4
  rw [h4, hj]
  unfold strV bA
  rw [hw2]
noncomputable def laidWorld (os : Os) : World :=
  { World.holding Tryd.prog os ⟨#[], #[], []⟩ with heap := (World.holding Tryd.prog os ⟨#[], #[], []⟩).heap.modify 0 fun
      | .cells _ t frozen => .cells (words.map strV).toArray t frozen
      | o => o }
/-! ### Bytes -/
def bsOf (es : List Int) : Bytes := es.map fun n => UInt8.ofNat n.toNat
abbrev B8 : Sh := .int .u8
theorem wf_u8 {n : Int} (h : (Lit.int .u8 n).wf = true) : 0 ≤ n ∧ n < 256 := by
  simp only [Lit.wf, Bool.and_eq_true, decide_eq_true_eq] at h
  have h1 : IntKind.u8.min = 0 := by decide
  have h2 : IntKind.u8.max = 255 := by decide
  omega
theorem bytes_cells : ∀ (es : List Int), (∀ n ∈ es, (Lit.int .u8 n).wf = true) → es.map (Value.int .u8) = bytesV (bsOf es)
  | [], _ => rfl
  | n :: es, h => by
    have hn := wf_u8 (h n (by simp))
    have ih := bytes_cells es fun m hm => h m (by simp [hm])
    show Value.int .u8 n :: es.map (Value.int .u8) = byteV (UInt8.ofNat n.toNat) :: bytesV (bsOf es)
    rw [ih, byteV_of]
    congr 2
    omega
theorem bytes_read {h : Heap} (x : (Sh.slc B8).T) (ok : (Sh.slc B8).ok h x) : Sl h x.a (bytesV (bsOf x.es)) ∧ (bsOf x.es).length = x.l ∧ x.l ≤ x.c := by
  obtain ⟨o1, o2, o3, o4, o5, o6⟩ := ok
  have e : x.es.flatMap (Sh.cells B8) = bytesV (bsOf x.es) := (flat_one (Value.int .u8) x.es).trans (bytes_cells x.es o6)
  refine ⟨Eq.mp (congrArg (Sl h x.a) e) o4, ?_, o2⟩
  exact (show (bsOf x.es).length = x.es.length from List.length_map _).trans o1
abbrev LL8 : Sh := .slc (.slc B8)
def bssOf (x : LL8.T) : List Bytes := x.es.map fun y => bsOf y.es
theorem bytes_bulk (y : (Sh.slc B8).T) : (bsOf y.es).length + 1 ≤ (Sh.slc B8).bulk y := by
  have h := slc_len (e := B8) (x := y) (fun _ => Nat.le_refl _) (Nat.le_refl _)
  have e : (bsOf y.es).length = y.es.length := List.length_map _
  omega
theorem lists_read {h : Heap} (x : LL8.T) (ok : LL8.ok h x) : RoL none_ h x.a x.l (bssOf x) ∧ tot (bssOf x) ≤ LL8.bulk x := by
  obtain ⟨o1, o2, o3, o4, o5, o6⟩ := ok
  refine ⟨⟨x.es.map fun y => ⟨y.a, y.l, y.c, bsOf y.es⟩, ?_, ?_, ?_, ?_⟩, ?_⟩
  · have e : x.es.flatMap (Sh.cells (.slc B8)) = (x.es.map fun y => (⟨y.a, y.l, y.c, bsOf y.es⟩ : Sg)).map sgV := by
      rw [List.map_map]
      exact flat_one (fun y : (Sh.slc B8).T => Value.slice y.a y.l y.c) x.es
    rw [← e]; exact o4.ro
  · intro z hz
    obtain ⟨y, hy, rfl⟩ := List.mem_map.1 hz
    obtain ⟨r1, r2, r3⟩ := bytes_read y (o6 y hy)
    exact ⟨r1.ro, r2, r3⟩
  · rw [List.map_map]; rfl
  · unfold bssOf; rw [List.length_map]; exact o1
  · have h1 : LL8.bulk x = (x.es.map (Sh.bulk (.slc B8))).sum + (x.c - x.l) + 1 := rfl
    have h2 : tot (bssOf x) ≤ (x.es.map (Sh.bulk (.slc B8))).sum := by
      unfold bssOf
      generalize x.es = es
      induction es with
      | nil => simp [tot]
      | cons y es ih =>
        rw [List.map_cons, List.map_cons, List.sum_cons, tot_cons]
        have := bytes_bulk y
        omega
    omega
/-! ### Events -/
abbrev ValS : Sh := .agg (.cons (.int .i64) (.cons (.int .i64) (.cons .str (.cons .bool .nil))))
abbrev EvS : Sh := .agg (.cons .str (.cons (.int .i64) (.cons (.slc ValS) .nil)))
def toVal (x : ValS.T) : Val := ⟨x.1, x.2.1, x.2.2.1.data.toList, x.2.2.2.1⟩
def toEv (x : EvS.T) : Ev := ⟨x.1.data.toList, x.2.1, x.2.2.1.es.map toVal⟩
def toSe (x : EvS.T) : Se := ⟨x.2.2.1.a, x.2.2.1.c, toEv x⟩
theorem flat_map {α β : Type} (f : β → List Value) (g : α → β) : ∀ xs : List α, xs.flatMap (fun x => f (g x)) = (xs.map g).flatMap f
  | [] => rfl
  | x :: xs => by rw [List.flatMap_cons, List.map_cons, List.flatMap_cons, flat_map f g xs]
theorem vals_read {h : Heap} (x : (Sh.slc ValS).T) (ok : (Sh.slc ValS).ok h x) : Sl h x.a ((x.es.map toVal).flatMap valV) ∧ (x.es.map toVal).length = x.l ∧ x.l ≤ x.c ∧ ∀ v ∈ x.es.map toVal, rngV v := by
  obtain ⟨o1, o2, o3, o4, o5, o6⟩ := ok
  refine ⟨?_, (List.length_map _).trans o1, o2, ?_⟩
  · have e : x.es.flatMap (Sh.cells ValS) = (x.es.map toVal).flatMap valV := flat_map valV toVal x.es
    exact Eq.mp (congrArg (Sl h x.a) e) o4
  · intro v hv
    obtain ⟨y, hy, rfl⟩ := List.mem_map.1 hv
    have := o6 y hy
    exact wf_i64 this.2.1
theorem event_read {h : Heap} (x : EvS.T) (ok : EvS.ok h x) : EvRo none_ h x.2.2.1.a x.2.2.1.l (toEv x) ∧ x.2.2.1.l ≤ x.2.2.1.c ∧ -9223372036854775808 ≤ (toEv x).tm ∧ (toEv x).tm < 9223372036854775808 := by
  obtain ⟨_, h2, h3, _⟩ := ok
  obtain ⟨r1, r2, r3, r4⟩ := vals_read x.2.2.1 h3
  exact ⟨⟨r1.ro, r2, r4⟩, r3, wf_i64 h2⟩
def esOf (xs : List EvS.T) : List Ev := xs.map toEv
theorem events_read {h : Heap} (x : (Sh.slc EvS).T) (ok : (Sh.slc EvS).ok h x) : RoE none_ h x.a x.l (esOf x.es) ∧ x.l ≤ x.c := by
  obtain ⟨o1, o2, o3, o4, o5, o6⟩ := ok
  refine ⟨⟨x.es.map toSe, ?_, ?_, ?_, ?_⟩, o2⟩
  · have e : x.es.flatMap (Sh.cells EvS) = (x.es.map toSe).flatMap seV := by
      rw [← flat_map seV toSe]
      have key : ∀ xs : List EvS.T, (∀ y ∈ xs, EvS.ok h y) → xs.flatMap (Sh.cells EvS) = xs.flatMap fun y => seV (toSe y) := by
        intro xs
        induction xs with
        | nil => intro _; rfl
        | cons y xs ih =>
          intro hk
          have hl := (event_read y (hk y (by simp))).1.len
          rw [List.flatMap_cons, List.flatMap_cons, ih fun z hz => hk z (by simp [hz])]
          congr 1
          unfold seV toSe
          simp only
          rw [hl]
          rfl
      exact key x.es o6
    exact Eq.mp (congrArg (Ro none_ h x.a) e) o4.ro
  · intro z hz
    obtain ⟨y, hy, rfl⟩ := List.mem_map.1 hz
    have r := (event_read y (o6 y hy)).1
    have hl := r.len
    unfold toSe
    simp only
    rw [hl]; exact r
  · rw [List.map_map]; rfl
  · unfold esOf; rw [List.length_map]; exact o1
theorem vals_bulk (y : (Sh.slc ValS).T) : (y.es.map toVal).length + 1 ≤ (Sh.slc ValS).bulk y := by
  have h := slc_len (e := ValS) (x := y) (fun x => by show 1 ≤ _ + 1; omega) (Nat.le_refl _)
  have e : (y.es.map toVal).length = y.es.length := List.length_map _
  omega
theorem event_bulk (y : EvS.T) : (toEv y).vs.length + (toEv y).t.length + 3 ≤ EvS.bulk y := by
  have h := vals_bulk y.2.2.1
  have e1 : (toEv y).vs.length = (y.2.2.1.es.map toVal).length := rfl
  have e2 : EvS.bulk y = y.1.size + 1 + (1 + ((Sh.slc ValS).bulk y.2.2.1 + 0)) + 1 := rfl
  have e3 : (toEv y).t.length = y.1.size := rfl
  omega
/-- How much some events hold. -/
def totE (es : List Ev) : Nat := (es.map fun e => e.vs.length + e.t.length + 3).sum
theorem events_bulk (x : (Sh.slc EvS).T) : totE (esOf x.es) ≤ (Sh.slc EvS).bulk x := by
  have h1 : (Sh.slc EvS).bulk x = (x.es.map (Sh.bulk EvS)).sum + (x.c - x.l) + 1 := rfl
  have h2 : totE (esOf x.es) ≤ (x.es.map (Sh.bulk EvS)).sum := by
    unfold esOf totE
    generalize x.es = es
    induction es with
    | nil => simp
    | cons y es ih =>
      rw [List.map_cons, List.map_cons, List.map_cons, List.sum_cons, List.sum_cons]
      have := event_bulk y
      omega
  omega
theorem totE_len (es : List Ev) : es.length ≤ totE es := len_le_bulk _ (fun _ => by omega) es
theorem totE_mem {es : List Ev} {e : Ev} (h : e ∈ es) : e.vs.length + e.t.length + 3 ≤ totE es := mem_le_bulk (fun e : Ev => e.vs.length + e.t.length + 3) h
end Go.Proofs.YtofaihacmoacjaaDoor.F
