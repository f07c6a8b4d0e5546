/- Rows of proto's laws: the tables, what the arguments hold. Conditions: none. -/
import Derived.Test.YtgdgebmlcgohhaaDoorQM
import Derived.Test.YtgdgebmlcgohhaaDoorR3
import Derived.Test.YtgdgebmlcgohhaaDoorCards
import Derived.Test.YtgdgebmlcgohhaaDoorTie
import Derived.Deep.DeepHandedRow
import Derived.Lib.LaidTab
import Derived.Lay
import Derived.Deep.DeepWitnessRowRef
namespace Go.Proofs.YtgdgebmlcgohhaaDoor.F
open Go Go.VC Go.ChangeShapes Go.WideShapes Go.ChangeAt Go.RowKit
set_option linter.unusedSimpArgs false
set_option linter.unusedVariables false
set_option maxRecDepth 100000

theorem own : ownKnob Tryd.prog.godebug = none := by kernel_rfl
theorem laidOut : laidOutB Tryd.prog = true := by kernel_rfl
theorem gTab : Tryd.prog.globalNamed "refrain/schema.words" = some 1 := by kernel_rfl
theorem gTabType : (Tryd.prog.globals[1]?).map (·.type) = some 161 := by kernel_rfl
theorem und161 : Tryd.prog.underlying 161 = some (.array 16 9) := by kernel_rfl
theorem cells9 : Tryd.prog.cellsOf 9 = 1 := by kernel_rfl
theorem gSpk : Tryd.prog.globalNamed "refrain/proto.spoken" = some 0 := by kernel_rfl
theorem gSpkType : (Tryd.prog.globals[0]?).map (·.type) = some 84 := by kernel_rfl
theorem und84 : Tryd.prog.underlying 84 = some (.array 13 63) := by kernel_rfl
theorem und63 : Tryd.prog.underlying 63 = some (.slice 3) := by kernel_rfl
theorem cells63 : Tryd.prog.cellsOf 63 = 1 := by kernel_rfl
theorem cells3 : Tryd.prog.cellsOf 3 = 1 := by kernel_rfl
abbrev laidL : List (String × DataW Unit) := [("refrain/schema.words", Rows.laid_refrain_schema_words), ("refrain/proto.spoken", Rows.laid_refrain_proto_spoken)]
theorem laid_words : (Rows.laid_refrain_schema_words : DataW Unit) = .agg (words.map fun w => .lit (.string w)) := rfl
def spkD (k : Nat) : DataW Unit := if k = 0 then .nil else .slice ((spk k).map fun i : Nat => .lit (.int .i64 (i : Int))) []
theorem laid_spoken : (Rows.laid_refrain_proto_spoken : DataW Unit) = .agg ((List.range 13).map spkD) := rfl
theorem wd_of {W : World} (h : laidMetH Tryd.prog laidL W) : Wd none_ W.heap := by
  have h : laidMet Tryd.prog laidL W := h
  obtain ⟨ps, ⟨g', t', cs, fuel, p, q, hg', ht', hvar, hd, _, _⟩, _⟩ := h
  obtain rfl := Option.some.inj (gTab.symm.trans hg')
  obtain rfl := Option.some.inj (gTabType.symm.trans ht')
  rw [laid_words] at hd
  obtain ⟨xs, m, _, hx, hl, hlen, hf⟩ := DataW.trod_array und161 hd
  simp only [Prod.mk.injEq, DataW.agg.injEq] at hx
  obtain ⟨hx, _⟩ := hx
  intro j v hj
  have hlt : j < 16 := (List.getElem?_eq_some_iff.1 hj).1
  refine ⟨_, rfl, ?_, id⟩
  rw [VC.add_plain, Nat.zero_add]
  have h1 := hf j hlt
  rw [cells9, Nat.mul_one, List.getElem?_eq_getElem (by omega)] at h1
  obtain ⟨s, hc, hs, _⟩ := DataW.trod_string und9 h1
  have h2 : (xs.map (·.1))[j]? = some (.lit (.string s.data.toList)) := by
    rw [List.getElem?_map, List.getElem?_eq_getElem (by omega), hs]; rfl
  rw [← hx, List.getElem?_map] at h2
  rw [List.getElem?_map] at hj
  obtain ⟨w, hw, hw2⟩ := Option.map_eq_some_iff.1 h2
  rw [hw] at hj
  have hj := (Option.some.inj hj).symm
  simp only [DataW.lit.injEq, Lit.string.injEq] at hw2
  have h3 : cs[j]? = some (.string s) := by
    have := congrArg (·[0]?) hc
    simpa [List.getElem?_take, List.getElem?_drop] using this
  have h4 := World.var?_cell gTab hvar j
  rw [cell_eq, h3] at h4
  rw [h4, hj]
  unfold strV bA
  rw [hw2]
theorem ints_laid {H : Type} {enc : TypeId × Value → H} {P : Program} {w : World} {t e : TypeId} {n : Nat} {held : Bool} {cs : List Value} {p : List MemPlace} {ns : List Nat} (ht : P.underlying t = some (.slice e)) (he : P.underlying e = some (.int .i64)) (hc : P.cellsOf e = 1)
    (h : DataW.trod enc P w 0 (fun _ => true) held n t cs = some (.slice (ns.map fun i : Nat => .lit (.int .i64 (i : Int))) [], p)) : ∃ a c, cs = [.slice a ns.length c] ∧ Sl w.heap a (ns.map fun i : Nat => Value.int .i64 (i : Int)) := by
  rcases Deep.open_slice ht h with ⟨rfl, hx⟩ | ⟨a, len, cap, m, n, D, Pl, rfl, hb, hl, hm, hmm, hx, hel⟩
  · simp only [Prod.mk.injEq] at hx
    cases hx.1
  · rw [if_pos rfl] at hmm
    subst hmm
    simp only [Prod.mk.injEq, DataW.slice.injEq] at hx
    obtain ⟨⟨hx, _⟩, _⟩ := hx
    have hlen : ns.length = len := by simpa using congrArg List.length hx
    subst hlen
    refine ⟨some a, _, rfl, fun j v hj => ⟨a, rfl, ?_⟩⟩
    rw [List.getElem?_map] at hj
    obtain ⟨i, hi, rfl⟩ := Option.map_eq_some_iff.1 hj
    have hlt := (List.getElem?_eq_some_iff.1 hi).1
    obtain ⟨cs', h1, h2⟩ := hel j (by omega)
    obtain ⟨z, rfl, hz, _⟩ := DataW.trod_int he h2
    simp only [Prod.mk.injEq] at hz
    have h3 := congrArg (·[j]?) hx
    simp only [List.getElem?_map, hi, Option.map_some, List.getElem?_range hlt, hz.1, Option.some.injEq, DataW.lit.injEq, Lit.int.injEq, true_and] at h3
    have h4 := (World.cells?_some h1).2.2 0 (by omega)
    rw [cell_eq, hc, Nat.mul_one] at h4
    have e0 : (a.add j).add 0 = a.add j := by unfold Addr.add; simp
    rw [e0] at h4
    rw [h4, h3]; rfl
theorem nil_laid {H : Type} {enc : TypeId × Value → H} {P : Program} {w : World} {t e : TypeId} {n : Nat} {held : Bool} {cs : List Value} {p : List MemPlace} (ht : P.underlying t = some (.slice e))
    (h : DataW.trod enc P w 0 (fun _ => true) held n t cs = some (.nil, p)) : cs = [.slice none 0 0] := by
  rcases Deep.open_slice ht h with ⟨rfl, hx⟩ | ⟨a, len, cap, m, n, D, Pl, rfl, hb, hl, hm, hmm, hx, hel⟩
  · rfl
  · simp only [Prod.mk.injEq] at hx
    cases hx.1
theorem spk_of {W : World} (h : laidMetH Tryd.prog laidL W) : Spk none_ W.heap := by
  have h : laidMet Tryd.prog laidL W := h
  obtain ⟨ps, ⟨_, _, _, _, _, _, _, _, _, _, ⟨g', t', cs, fuel, p, q, hg', ht', hvar, hd, _, _⟩, _⟩, _⟩ := h
  obtain rfl := Option.some.inj (gSpk.symm.trans hg')
  obtain rfl := Option.some.inj (gSpkType.symm.trans ht')
  rw [laid_spoken] at hd
  obtain ⟨xs, m, _, hx, hl, hlen, hf⟩ := DataW.trod_array und84 hd
  simp only [Prod.mk.injEq, DataW.agg.injEq] at hx
  obtain ⟨hx, _⟩ := hx
  intro k hk
  have h1 := hf k hk
  rw [cells63, Nat.mul_one, List.getElem?_eq_getElem (by omega)] at h1
  have h2 : (xs.map (·.1))[k]? = some xs[k].1 := by rw [List.getElem?_map, List.getElem?_eq_getElem (by omega)]; rfl
  rw [← hx, List.getElem?_map, List.getElem?_range hk] at h2
  simp only [Option.map_some, Option.some.injEq] at h2
  have h1 : DataW.trod (fun _ => ()) Tryd.prog W 0 (fun _ => true) false m 63 ((cs.toList.drop k).take 1) = some (spkD k, xs[k].2) := by rw [h1, h2]
  have key : ∃ a c, (cs.toList.drop k).take 1 = [.slice a (spk k).length c] ∧ Sl W.heap a ((spk k).map fun i : Nat => Value.int .i64 (i : Int)) := by
    by_cases h0 : k = 0
    · subst h0
      rw [show spkD 0 = .nil from rfl] at h1
      exact ⟨none, 0, nil_laid und63 h1, Sl.nil _ _⟩
    · unfold spkD at h1
      rw [if_neg h0] at h1
      exact ints_laid und63 und3i cells3 h1
  obtain ⟨a, c, hc, hs⟩ := key
  have h3 : cs[k]? = some (.slice a (spk k).length c) := by
    have := congrArg (·[0]?) hc
    simpa [List.getElem?_take, List.getElem?_drop] using this
  refine ⟨a, c, fun j v hj => ?_, hs.ro⟩
  cases j with
  | succ j => simp at hj
  | zero =>
    simp at hj
    subst hj
    refine ⟨_, rfl, ?_, id⟩
    have h4 := World.var?_cell gSpk hvar k
    rw [cell_eq, h3] at h4
    rw [VC.add_plain, Nat.add_zero]
    exact h4
noncomputable def laidWorld (os : Os) : World := World.laidAll Tryd.prog os laidL
theorem laidFits (os : Os) : (World.holding Tryd.prog os ⟨#[], #[], []⟩).layFits Tryd.prog laidL [] = true := by kernel_rfl
theorem laidIfaces (os : Os) : (World.holding Tryd.prog os ⟨#[], #[], []⟩).layIfaces Tryd.prog laidL (World.laidAll Tryd.prog os laidL) = true := by kernel_rfl
/-! ### Lists that arguments hold -/
theorem El.read {α : Type} {E : El α} {e : Sh} {h : Heap} (x : (Sh.slc e).T) (ok : (Sh.slc e).ok h x) (g : e.T → E.σ) (hc : ∀ y, e.ok h y → e.cells y = E.cells (g y)) (hr : ∀ y, e.ok h y → E.rd none_ h (g y)) :
    RoX E none_ h x.a x.l (x.es.map fun y => E.val (g y)) ∧ (x.es.map fun y => E.val (g y)).length = x.l ∧ x.l ≤ x.c := by
  obtain ⟨o1, o2, o3, o4, o5, o6⟩ := ok
  have hl : (x.es.map fun y => E.val (g y)).length = x.l := (List.length_map _).trans o1
  refine ⟨⟨x.es.map g, ?_, ?_, ?_, hl⟩, hl, o2⟩
  · have e1 : x.es.flatMap (Sh.cells e) = (x.es.map g).flatMap E.cells := by
      clear o1 o2 o3 o4 o5 hl
      generalize x.es = es at o6
      induction es with
      | nil => rfl
      | cons y es ih => rw [List.flatMap_cons, List.map_cons, List.flatMap_cons, hc y (o6 y (by simp)), ih fun z hz => o6 z (by simp [hz])]
    exact Eq.mp (congrArg (Ro none_ h x.a) e1) o4.ro
  · intro s hs
    obtain ⟨y, hy, rfl⟩ := List.mem_map.1 hs
    exact hr y (o6 y hy)
  · rw [List.map_map]; rfl
/-! ### Bytes -/
def bsOf (es : List Int) : Bytes := es.map fun n => UInt8.ofNat n.toNat
abbrev B8 : Sh := .int .u8
theorem wf_u8 {n : Int} (h : (Lit.int .u8 n).wf = true) : 0 ≤ n ∧ n < 256 := by
  simp only [Lit.wf, Bool.and_eq_true, decide_eq_true_eq] at h
  have h1 : IntKind.u8.min = 0 := by decide
  have h2 : IntKind.u8.max = 255 := by decide
  omega
theorem wf_u32 {n : Int} (h : (Lit.int .u32 n).wf = true) : 0 ≤ n ∧ n < 4294967296 := by
  simp only [Lit.wf, Bool.and_eq_true, decide_eq_true_eq] at h
  have h1 : IntKind.u32.min = 0 := by decide
  have h2 : IntKind.u32.max = 4294967295 := by decide
  omega
theorem bytes_cells : ∀ (es : List Int), (∀ n ∈ es, (Lit.int .u8 n).wf = true) → es.map (Value.int .u8) = bytesV (bsOf es)
  | [], _ => rfl
  | n :: es, h => by
    have hn := wf_u8 (h n (by simp))
    have ih := bytes_cells es fun m hm => h m (by simp [hm])
    show Value.int .u8 n :: es.map (Value.int .u8) = byteV (UInt8.ofNat n.toNat) :: bytesV (bsOf es)
    rw [ih, byteV_of]
    congr 2
    omega
theorem bytes_read {h : Heap} (x : (Sh.slc B8).T) (ok : (Sh.slc B8).ok h x) : Sl h x.a (bytesV (bsOf x.es)) ∧ (bsOf x.es).length = x.l ∧ x.l ≤ x.c := by
  obtain ⟨o1, o2, o3, o4, o5, o6⟩ := ok
  have e : x.es.flatMap (Sh.cells B8) = bytesV (bsOf x.es) := (flat_one (Value.int .u8) x.es).trans (bytes_cells x.es o6)
  refine ⟨Eq.mp (congrArg (Sl h x.a) e) o4, ?_, o2⟩
  exact (show (bsOf x.es).length = x.es.length from List.length_map _).trans o1
abbrev LL8 : Sh := .slc (.slc B8)
def toSb (y : (Sh.slc B8).T) : Sb := ⟨y.a, y.c, bsOf y.es⟩
def bssOf (x : LL8.T) : List Bytes := x.es.map fun y => bsOf y.es
theorem bytes_bulk (y : (Sh.slc B8).T) : (bsOf y.es).length + 1 ≤ (Sh.slc B8).bulk y := by
  have h := slc_len (e := B8) (x := y) (fun _ => Nat.le_refl _) (Nat.le_refl _)
  have e : (bsOf y.es).length = y.es.length := List.length_map _
  omega
theorem lists_read {h : Heap} (x : LL8.T) (ok : LL8.ok h x) : RoX bytE none_ h x.a x.l (bssOf x) ∧ tot (bssOf x) ≤ LL8.bulk x := by
  refine ⟨(El.read (E := bytE) x ok toSb (fun y oy => ?_) fun y oy => (bytes_read y oy).1.ro).1, ?_⟩
  · have := (bytes_read y oy).2.1
    show [Value.slice y.a y.l y.c] = [Value.slice y.a (bsOf y.es).length y.c]
    rw [this]
  · have h1 : LL8.bulk x = (x.es.map (Sh.bulk (.slc B8))).sum + (x.c - x.l) + 1 := rfl
    have h2 : tot (bssOf x) ≤ (x.es.map (Sh.bulk (.slc B8))).sum := by
      unfold bssOf tot
      generalize x.es = es
      induction es with
      | nil => simp
      | cons y es ih =>
        rw [List.map_cons, List.map_cons, List.map_cons, List.sum_cons, List.sum_cons]
        have := bytes_bulk y
        omega
    omega
/-! ### Texts, values, events -/
abbrev ValS : Sh := .agg (.cons (.int .i64) (.cons (.int .i64) (.cons .str (.cons .bool .nil))))
abbrev EvS : Sh := .agg (.cons .str (.cons (.int .i64) (.cons (.slc ValS) .nil)))
abbrev HitS : Sh := .agg (.cons .str (.cons (.slc ValS) .nil))
def toVal (x : ValS.T) : Val := ⟨x.1, x.2.1, x.2.2.1.data.toList, x.2.2.2.1⟩
def vsOf (x : (Sh.slc ValS).T) : List Val := x.es.map toVal
def toEv (x : EvS.T) : Ev := ⟨x.1.data.toList, x.2.1, vsOf x.2.2.1⟩
def toSe (x : EvS.T) : Se := ⟨x.2.2.1.a, x.2.2.1.c, toEv x⟩
def toSr (x : (Sh.slc ValS).T) : Sr := ⟨x.a, x.c, vsOf x⟩
def toHi (x : HitS.T) : Hi := ⟨x.1.data.toList, vsOf x.2.1⟩
def toSx (x : HitS.T) : Sx := ⟨x.2.1.a, x.2.1.c, toHi x⟩
def toTx (x : ByteArray) : Bytes := x.data.toList
end Go.Proofs.YtgdgebmlcgohhaaDoor.F
