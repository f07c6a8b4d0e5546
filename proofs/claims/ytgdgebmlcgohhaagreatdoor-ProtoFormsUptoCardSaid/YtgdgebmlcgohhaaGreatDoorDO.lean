/- Rows of ProtoForms and ProtoFresh: lists of requests, of replies, of payloads. Conditions: none. -/
import Derived.Test.YtgdgebmlcgohhaaGreatDoorZQO
namespace Go.Proofs.YtgdgebmlcgohhaaGreatDoor.F
open Go Go.VC Go.ChangeShapes Go.WideShapes Go.ChangeAt Go.RowKit
set_option linter.unusedSimpArgs false
set_option linter.unusedVariables false
set_option maxRecDepth 100000

theorem reqs_read {h : Heap} (x : (Sh.slc ReqS).T) (ok : (Sh.slc ReqS).ok h x) (hb : (Sh.slc ReqS).bulk x ≤ 1048576) : RoX rqE none_ h x.a x.l (x.es.map toRq) ∧ (∀ q ∈ x.es.map toRq, RqOk q) ∧ x.l ≤ 1048576 := by
  have hm : ∀ y ∈ x.es, ReqS.bulk y ≤ 1048576 := fun y hy => by have := slc_mem (n := 1048576) hb hy; omega
  have hl := slc_len (e := ReqS) (x := x) (fun y => by show 1 ≤ _ + 1; omega) hb
  obtain ⟨o1, o2, o3, o4, o5, o6⟩ := ok
  have key : ∀ y ∈ x.es, ReqS.cells y = rqE.cells ⟨toRq y, y.2.2.2.2.1.a, y.2.2.2.2.1.c, y.2.2.2.2.2.1.a, y.2.2.2.2.2.1.c⟩ := fun y hy => by
    have e := (req_read y (o6 y hy) (hm y hy)).1
    have e : Value.agg (ReqS.cells y).toArray = .agg (rqV (toRq y) y.2.2.2.2.1.a y.2.2.2.2.1.c y.2.2.2.2.2.1.a y.2.2.2.2.2.1.c).toArray := e
    simp only [Value.agg.injEq] at e
    have e2 := congrArg Array.toList e
    simpa using e2
  refine ⟨⟨x.es.map fun y => ⟨toRq y, y.2.2.2.2.1.a, y.2.2.2.2.1.c, y.2.2.2.2.2.1.a, y.2.2.2.2.2.1.c⟩, ?_, ?_, ?_, (List.length_map _).trans o1⟩, ?_, by omega⟩
  · have e1 : x.es.flatMap (Sh.cells ReqS) = (x.es.map fun y : ReqS.T => (⟨toRq y, y.2.2.2.2.1.a, y.2.2.2.2.1.c, y.2.2.2.2.2.1.a, y.2.2.2.2.2.1.c⟩ : Sq)).flatMap rqE.cells := by
      clear o1 o2 o3 o4 o5 o6 hl hb hm
      generalize x.es = es at key
      induction es with
      | nil => rfl
      | cons y es ih => rw [List.flatMap_cons, List.map_cons, List.flatMap_cons, key y (by simp), ih fun z hz => key z (by simp [hz])]
    exact Eq.mp (congrArg (Ro none_ h x.a) e1) o4.ro
  · intro s hs
    obtain ⟨y, hy, rfl⟩ := List.mem_map.1 hs
    exact (req_read y (o6 y hy) (hm y hy)).2.1
  · rw [List.map_map]; rfl
  · intro q hq
    obtain ⟨y, hy, rfl⟩ := List.mem_map.1 hq
    exact (req_read y (o6 y hy) (hm y hy)).2.2
theorem reps_read {h : Heap} (x : (Sh.slc RepS).T) (ok : (Sh.slc RepS).ok h x) (hb : (Sh.slc RepS).bulk x ≤ 1048576) : RoX rpE none_ h x.a x.l (x.es.map toRp) ∧ (∀ q ∈ x.es.map toRp, RpOk q) ∧ x.l ≤ 1048576 := by
  have hm : ∀ y ∈ x.es, RepS.bulk y ≤ 1048576 := fun y hy => by have := slc_mem (n := 1048576) hb hy; omega
  have hl := slc_len (e := RepS) (x := x) (fun y => by show 1 ≤ _ + 1; omega) hb
  obtain ⟨o1, o2, o3, o4, o5, o6⟩ := ok
  have key : ∀ y ∈ x.es, RepS.cells y = rpE.cells ⟨toRp y, y.2.2.2.2.1.a, y.2.2.2.2.1.c, y.2.2.2.2.2.1.a, y.2.2.2.2.2.1.c, y.2.2.2.2.2.2.1.a, y.2.2.2.2.2.2.1.c, y.2.2.2.2.2.2.2.1.a, y.2.2.2.2.2.2.2.1.c⟩ := fun y hy => by
    have e := (rep_read y (o6 y hy) (hm y hy)).1
    have e : Value.agg (RepS.cells y).toArray = .agg (rpV (toRp y) y.2.2.2.2.1.a y.2.2.2.2.1.c y.2.2.2.2.2.1.a y.2.2.2.2.2.1.c y.2.2.2.2.2.2.1.a y.2.2.2.2.2.2.1.c y.2.2.2.2.2.2.2.1.a y.2.2.2.2.2.2.2.1.c).toArray := e
    simp only [Value.agg.injEq] at e
    have e2 := congrArg Array.toList e
    simpa using e2
  refine ⟨⟨x.es.map fun y => ⟨toRp y, y.2.2.2.2.1.a, y.2.2.2.2.1.c, y.2.2.2.2.2.1.a, y.2.2.2.2.2.1.c, y.2.2.2.2.2.2.1.a, y.2.2.2.2.2.2.1.c, y.2.2.2.2.2.2.2.1.a, y.2.2.2.2.2.2.2.1.c⟩, ?_, ?_, ?_, (List.length_map _).trans o1⟩, ?_, by omega⟩
  · have e1 : x.es.flatMap (Sh.cells RepS) = (x.es.map fun y : RepS.T => (⟨toRp y, y.2.2.2.2.1.a, y.2.2.2.2.1.c, y.2.2.2.2.2.1.a, y.2.2.2.2.2.1.c, y.2.2.2.2.2.2.1.a, y.2.2.2.2.2.2.1.c, y.2.2.2.2.2.2.2.1.a, y.2.2.2.2.2.2.2.1.c⟩ : Sp)).flatMap rpE.cells := by
      clear o1 o2 o3 o4 o5 o6 hl hb hm
      generalize x.es = es at key
      induction es with
      | nil => rfl
      | cons y es ih => rw [List.flatMap_cons, List.map_cons, List.flatMap_cons, key y (by simp), ih fun z hz => key z (by simp [hz])]
    exact Eq.mp (congrArg (Ro none_ h x.a) e1) o4.ro
  · intro s hs
    obtain ⟨y, hy, rfl⟩ := List.mem_map.1 hs
    exact (rep_read y (o6 y hy) (hm y hy)).2.1
  · rw [List.map_map]; rfl
  · intro q hq
    obtain ⟨y, hy, rfl⟩ := List.mem_map.1 hq
    exact (rep_read y (o6 y hy) (hm y hy)).2.2
theorem raws_read {h : Heap} (x : LL8.T) (ok : LL8.ok h x) (hb : LL8.bulk x ≤ 1048576) : RoX bytC none_ h x.a x.l (bssOf x) ∧ (∀ b ∈ bssOf x, b.length ≤ 1048576) ∧ x.l ≤ 1048576 := by
  have hm : ∀ y ∈ x.es, (Sh.slc B8).bulk y ≤ 1048576 := fun y hy => by have := slc_mem (n := 1048576) hb hy; omega
  have hl := slc_len (e := .slc B8) (x := x) (fun y => by have := bytes_bulk y; omega) hb
  have h1 := ok.1
  refine ⟨(El.read (E := bytC) x ok toSb (fun y oy => ?_) fun y oy => ⟨(bytes_read y oy).1.ro, ?_⟩).1, fun b hb => ?_, by omega⟩
  · have := (bytes_read y oy).2.1
    show [Value.slice y.a y.l y.c] = [Value.slice y.a (bsOf y.es).length y.c]
    rw [this]
  · obtain ⟨_, q1, q2⟩ := bytes_read y oy
    show (bsOf y.es).length ≤ y.c
    omega
  · obtain ⟨y, hy, rfl⟩ := List.mem_map.1 hb
    have := bytes_bulk y
    have := hm y hy
    omega
end Go.Proofs.YtgdgebmlcgohhaaGreatDoor.F
