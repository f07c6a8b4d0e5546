/- Rows of proto's laws: what requests and replies hold, how much they make. Conditions: none. -/
import Derived.Test.YtgdgebmlcgohhaaDoorQN
namespace Go.Proofs.YtgdgebmlcgohhaaDoor.F
open Go Go.VC Go.ChangeShapes Go.WideShapes Go.ChangeAt Go.RowKit
set_option linter.unusedSimpArgs false
set_option linter.unusedVariables false
set_option maxRecDepth 100000

theorem flat_map {α β : Type} (f : β → List Value) (g : α → β) : ∀ xs : List α, xs.flatMap (fun x => f (g x)) = (xs.map g).flatMap f
  | [] => rfl
  | x :: xs => by rw [List.flatMap_cons, List.map_cons, List.flatMap_cons, flat_map f g xs]
theorem vals_read {h : Heap} (x : (Sh.slc ValS).T) (ok : (Sh.slc ValS).ok h x) : Ro none_ h x.a ((vsOf x).flatMap valV) ∧ (vsOf x).length = x.l ∧ ∀ v ∈ vsOf x, rngV v := by
  obtain ⟨o1, o2, o3, o4, o5, o6⟩ := ok
  refine ⟨?_, (List.length_map _).trans o1, ?_⟩
  · have e : x.es.flatMap (Sh.cells ValS) = (vsOf x).flatMap valV := flat_map valV toVal x.es
    exact (Eq.mp (congrArg (Sl h x.a) e) o4).ro
  · intro v hv
    obtain ⟨y, hy, rfl⟩ := List.mem_map.1 hv
    have := o6 y hy
    exact wf_i64 this.2.1
theorem texs_read {h : Heap} (x : (Sh.slc .str).T) (ok : (Sh.slc .str).ok h x) : RoX texE none_ h x.a x.l (x.es.map toTx) ∧ (x.es.map toTx).length = x.l := by
  obtain ⟨q1, q2, _⟩ := El.read (E := texE) x ok toTx (fun y oy => rfl) fun y oy => trivial
  exact ⟨q1, q2⟩
theorem ev_ok {h : Heap} (y : EvS.T) (ok : EvS.ok h y) : (toEv y).vs.length = y.2.2.1.l ∧ rngE (toEv y) ∧ Ro none_ h y.2.2.1.a ((toEv y).vs.flatMap valV) := by
  obtain ⟨_, h2, h3, _⟩ := ok
  obtain ⟨r1, r2, r3⟩ := vals_read y.2.2.1 h3
  exact ⟨r2, r3, r1⟩
theorem evs_read {h : Heap} (x : (Sh.slc EvS).T) (ok : (Sh.slc EvS).ok h x) : RoX evE none_ h x.a x.l (x.es.map toEv) ∧ (x.es.map toEv).length = x.l := by
  have key : ∀ y : EvS.T, EvS.ok h y → EvS.cells y = evE.cells (toSe y) := fun y oy => by
    have := (ev_ok y oy).1
    show [Value.string y.1, .int .i64 y.2.1, .slice y.2.2.1.a y.2.2.1.l y.2.2.1.c] = [.string y.1, .int .i64 y.2.1, .slice y.2.2.1.a (toEv y).vs.length y.2.2.1.c]
    rw [this]
  obtain ⟨q1, q2, _⟩ := El.read (E := evE) x ok toSe key fun y oy => (ev_ok y oy).2.2
  exact ⟨q1, q2⟩
theorem rows_read {h : Heap} (x : (Sh.slc (.slc ValS)).T) (ok : (Sh.slc (.slc ValS)).ok h x) : RoX rowE none_ h x.a x.l (x.es.map vsOf) ∧ (x.es.map vsOf).length = x.l := by
  have key : ∀ y : (Sh.slc ValS).T, (Sh.slc ValS).ok h y → (Sh.slc ValS).cells y = rowE.cells (toSr y) := fun y oy => by
    have := (vals_read y oy).2.1
    show [Value.slice y.a y.l y.c] = [.slice y.a (vsOf y).length y.c]
    rw [this]
  obtain ⟨q1, q2, _⟩ := El.read (E := rowE) x ok toSr key fun y oy => (vals_read y oy).1
  exact ⟨q1, q2⟩
theorem hits_read {h : Heap} (x : (Sh.slc HitS).T) (ok : (Sh.slc HitS).ok h x) : RoX hitE none_ h x.a x.l (x.es.map toHi) ∧ (x.es.map toHi).length = x.l := by
  have key : ∀ y : HitS.T, HitS.ok h y → HitS.cells y = hitE.cells (toSx y) := fun y oy => by
    have := (vals_read y.2.1 oy.2.1).2.1
    show [Value.string y.1, .slice y.2.1.a y.2.1.l y.2.1.c] = [.string y.1, .slice y.2.1.a (vsOf y.2.1).length y.2.1.c]
    rw [this]
  obtain ⟨q1, q2, _⟩ := El.read (E := hitE) x ok toSx key fun y oy => (vals_read y.2.1 oy.2.1).1
  exact ⟨q1, q2⟩
theorem errs_read {h : Heap} (x : (Sh.slc (.int .i64)).T) (ok : (Sh.slc (.int .i64)).ok h x) : RoX errE none_ h x.a x.l x.es ∧ x.es.length = x.l ∧ (∀ n ∈ x.es, rng64 n) ∧ Sl h x.a (x.es.map fun n : Int => Value.int .i64 n) := by
  obtain ⟨q1, q2, _⟩ := El.read (E := errE) x ok id (fun y oy => rfl) fun y oy => trivial
  have e : (x.es.map fun y => errE.val (id y)) = x.es := List.map_id (α := Int) x.es
  refine ⟨Eq.mp (congrArg (RoX errE none_ h x.a x.l) e) q1, ok.1, fun n hn => wf_i64 (ok.2.2.2.2.2 n hn), ?_⟩
  · exact Eq.mp (congrArg (Sl h x.a) (flat_one (fun n : Int => Value.int .i64 n) x.es)) ok.2.2.2.1
theorem bools_read {h : Heap} (x : (Sh.slc .bool).T) (ok : (Sh.slc .bool).ok h x) : Sl h x.a (x.es.map fun b : Bool => Value.bool b) ∧ x.es.length = x.l :=
  ⟨Eq.mp (congrArg (Sl h x.a) (flat_one (fun b : Bool => Value.bool b) x.es)) ok.2.2.2.1, ok.1⟩
/-! ### How much they make -/
theorem putN_le (n : Int) : (putN n).length ≤ 10 := (putZ_len 9 (zig n)).2
theorem putL_le {α β : Type} {p : α → Bytes} {g : β → α} {b : β → Nat} (h : ∀ y, (p (g y)).length ≤ 100 * b y) (xs : List β) : (putL p (xs.map g)).length ≤ 10 + 100 * (xs.map b).sum := by
  unfold putL
  rw [List.length_append]
  have h1 := putN_le ((xs.map g).length : Nat)
  have h2 : ((xs.map g).flatMap p).length ≤ 100 * (xs.map b).sum := by
    clear h1
    induction xs with
    | nil => simp
    | cons y xs ih =>
      have := h y
      rw [List.map_cons, List.flatMap_cons, List.length_append, List.map_cons, List.sum_cons]
      omega
  omega
theorem slc_le {α : Type} {p : α → Bytes} {e : Sh} {g : e.T → α} (h : ∀ y, (p (g y)).length ≤ 100 * e.bulk y) (x : (Sh.slc e).T) : (putL p (x.es.map g)).length ≤ 100 * (Sh.slc e).bulk x := by
  have h1 := putL_le (b := e.bulk) h x.es
  have h2 : (Sh.slc e).bulk x = (x.es.map e.bulk).sum + (x.c - x.l) + 1 := rfl
  omega
theorem putS_le (s : ByteArray) : (putS s.data.toList).length ≤ 10 + s.size := by
  unfold putS
  have := putN_le (s.data.toList.length : Nat)
  have e : s.data.toList.length = s.size := rfl
  rw [List.length_append]; omega
theorem tx_le (s : Sh.str.T) : (putS (toTx s)).length ≤ 100 * Sh.str.bulk s := by
  have h1 := putS_le s
  have h2 : Sh.str.bulk s = ByteArray.size s + 1 := rfl
  have h3 : toTx s = (s : ByteArray).data.toList := rfl
  rw [h3, h2]; omega
theorem val_bulk (y : ValS.T) : ValS.bulk y = 1 + (1 + (ByteArray.size y.2.2.1 + 1 + (1 + 0))) + 1 := rfl
theorem encV_le (y : ValS.T) : (encV (toVal y)).length ≤ 100 * ValS.bulk y := by
  rw [val_bulk]
  unfold encV
  rw [List.length_cons]
  have h1 := putN_le (toVal y).n
  have h2 : (putS (toVal y).s).length ≤ 10 + ByteArray.size y.2.2.1 := putS_le y.2.2.1
  split
  · omega
  · split
    · omega
    · simp only [List.length_cons, List.length_nil]; omega
theorem encW_le (y : ValS.T) : (encW (toVal y)).length ≤ 100 * ValS.bulk y := by
  rw [val_bulk]
  unfold encW
  rw [List.length_cons]
  have h1 := putN_le (toVal y).n
  have h2 : (putS (toVal y).s).length ≤ 10 + ByteArray.size y.2.2.1 := putS_le y.2.2.1
  split
  · omega
  · split
    · omega
    · unfold truB; simp only [List.length_cons, List.length_nil]; omega
theorem vsV_le (x : (Sh.slc ValS).T) : (putL encV (vsOf x)).length ≤ 100 * (Sh.slc ValS).bulk x := slc_le (e := ValS) (g := toVal) encV_le x
theorem vsW_le (x : (Sh.slc ValS).T) : (putL encW (vsOf x)).length ≤ 100 * (Sh.slc ValS).bulk x := slc_le (e := ValS) (g := toVal) encW_le x
theorem ev_bulk (y : EvS.T) : EvS.bulk y = ByteArray.size y.1 + 1 + (1 + ((Sh.slc ValS).bulk y.2.2.1 + 0)) + 1 := rfl
theorem encF_le (y : EvS.T) : (encF (toEv y)).length ≤ 100 * EvS.bulk y := by
  rw [ev_bulk]
  unfold encF
  split
  · unfold encE
    have h1 : (putS (toEv y).t).length ≤ 10 + ByteArray.size y.1 := putS_le y.1
    have h2 := putN_le (toEv y).tm
    have h3 : (putN (toEv y).vs.length ++ (toEv y).vs.flatMap encV).length ≤ 100 * (Sh.slc ValS).bulk y.2.2.1 := vsV_le y.2.2.1
    rw [List.length_append, List.length_append]
    omega
  · exact Nat.zero_le _
theorem hit_bulk (y : HitS.T) : HitS.bulk y = ByteArray.size y.1 + 1 + ((Sh.slc ValS).bulk y.2.1 + 0) + 1 := rfl
theorem hit_le (y : HitS.T) : (putHW (toHi y)).length ≤ 100 * HitS.bulk y := by
  rw [hit_bulk]
  unfold putHW
  have h1 : (putS (toHi y).q).length ≤ 10 + ByteArray.size y.1 := putS_le y.1
  have h3 : (putL encW (toHi y).row).length ≤ 100 * (Sh.slc ValS).bulk y.2.1 := vsW_le y.2.1
  rw [List.length_append]
  omega
theorem texs_le (x : (Sh.slc .str).T) : (putL putS (x.es.map toTx)).length ≤ 100 * (Sh.slc .str).bulk x := slc_le (e := .str) (g := toTx) tx_le x
theorem evs_le (x : (Sh.slc EvS).T) : (putL encF (x.es.map toEv)).length ≤ 100 * (Sh.slc EvS).bulk x := slc_le (e := EvS) (g := toEv) encF_le x
theorem hits_le (x : (Sh.slc HitS).T) : (putL putHW (x.es.map toHi)).length ≤ 100 * (Sh.slc HitS).bulk x := slc_le (e := HitS) (g := toHi) hit_le x
theorem rows_le (x : (Sh.slc (.slc ValS)).T) : (putL (putL encW) (x.es.map vsOf)).length ≤ 100 * (Sh.slc (.slc ValS)).bulk x := slc_le (e := .slc ValS) (g := vsOf) vsW_le x
theorem errs_le (x : (Sh.slc (.int .i64)).T) : (putL putN x.es).length ≤ 100 * (Sh.slc (.int .i64)).bulk x := by
  have t := slc_le (e := .int .i64) (p := putN) (g := id) (fun y => by have := putN_le y; show (putN y).length ≤ 100 * 1; omega) x
  exact Eq.mp (congrArg (fun y => (putL putN y).length ≤ 100 * (Sh.slc (.int .i64)).bulk x) (List.map_id (α := Int) x.es)) t
/-! ### Requests -/
abbrev ReqS : Sh := .agg (.cons (.int .u32) (.cons (.int .i64) (.cons .str (.cons .str (.cons (.slc .str) (.cons (.slc EvS) .nil))))))
def toRq (x : ReqS.T) : Rq := ⟨Int.toNat x.1, x.2.1, toTx x.2.2.1, toTx x.2.2.2.1, x.2.2.2.2.1.es.map toTx, x.2.2.2.2.2.1.es.map toEv⟩
theorem req_bulk (x : ReqS.T) : ReqS.bulk x = 1 + (1 + (Sh.str.bulk x.2.2.1 + (Sh.str.bulk x.2.2.2.1 + ((Sh.slc .str).bulk x.2.2.2.2.1 + ((Sh.slc EvS).bulk x.2.2.2.2.2.1 + 0))))) + 1 := rfl
theorem req_read {h : Heap} (x : ReqS.T) (ok : ReqS.ok h x) (hb : ReqS.bulk x ≤ 1048576) :
    ReqS.val x = aggQ (toRq x) x.2.2.2.2.1.a x.2.2.2.2.1.c x.2.2.2.2.2.1.a x.2.2.2.2.2.1.c ∧ RqRo none_ h (toRq x) x.2.2.2.2.1.a x.2.2.2.2.2.1.a ∧ RqOk (toRq x) := by
  rw [req_bulk] at hb
  have t1 := tx_le x.2.2.1
  have t2 := tx_le x.2.2.2.1
  have t3 := texs_le x.2.2.2.2.1
  have t4 := evs_le x.2.2.2.2.2.1
  have t5 := slc_len (e := EvS) (x := x.2.2.2.2.2.1) (fun y => by rw [ev_bulk]; omega) (Nat.le_refl _)
  have t6 : ∀ y ∈ x.2.2.2.2.2.1.es, EvS.bulk y + 1 ≤ (Sh.slc EvS).bulk x.2.2.2.2.2.1 := fun y hy => slc_mem (Nat.le_refl _) hy
  obtain ⟨o1, o2, o3, o4, o5, o6, _⟩ := ok
  obtain ⟨q1, q2⟩ := texs_read _ o5
  obtain ⟨q3, q4⟩ := evs_read _ o6
  have o1 := wf_u32 o1
  refine ⟨?_, ⟨?_, ?_⟩, ⟨?_, wf_i64 o2, ?_, ?_, ?_⟩⟩
  · show Value.agg #[.int .u32 x.1, .int .i64 x.2.1, .string x.2.2.1, .string x.2.2.2.1, .slice x.2.2.2.2.1.a x.2.2.2.2.1.l x.2.2.2.2.1.c, .slice x.2.2.2.2.2.1.a x.2.2.2.2.2.1.l x.2.2.2.2.2.1.c] =
      .agg #[.int .u32 ((Int.toNat x.1 : Nat) : Int), .int .i64 x.2.1, .string x.2.2.1, .string x.2.2.2.1, .slice x.2.2.2.2.1.a (x.2.2.2.2.1.es.map toTx).length x.2.2.2.2.1.c, .slice x.2.2.2.2.2.1.a (x.2.2.2.2.2.1.es.map toEv).length x.2.2.2.2.2.1.c]
    rw [q2, q4, Int.toNat_of_nonneg o1.1]
  · show RoX texE none_ h _ (x.2.2.2.2.1.es.map toTx).length (x.2.2.2.2.1.es.map toTx)
    rw [q2]; exact q1
  · show RoX evE none_ h _ (x.2.2.2.2.2.1.es.map toEv).length (x.2.2.2.2.2.1.es.map toEv)
    rw [q4]; exact q3
  · show Int.toNat x.1 < 4294967296
    omega
  · intro e he
    obtain ⟨y, hy, rfl⟩ := List.mem_map.1 he
    obtain ⟨r1, r2, _⟩ := ev_ok y (o6.2.2.2.2.2 y hy)
    refine ⟨r2, ?_⟩
    have h1 := t6 y hy
    rw [ev_bulk] at h1
    have h2 := slc_len (e := ValS) (x := y.2.2.1) (fun y => by rw [val_bulk]; omega) (Nat.le_refl _)
    have h3 : (toEv y).vs.length = y.2.2.1.es.length := List.length_map _
    omega
  · show (x.2.2.2.2.2.1.es.map toEv).length ≤ _
    rw [List.length_map]; omega
  · show (putS (toTx x.2.2.1)).length + (putS (toTx x.2.2.2.1)).length + (putL putS (x.2.2.2.2.1.es.map toTx)).length + (putL encF (x.2.2.2.2.2.1.es.map toEv)).length ≤ _
    omega
/-! ### Replies -/
abbrev StatS : Sh := .agg (.cons (.int .i64) (.cons (.int .i64) (.cons (.int .i64) (.cons .bool .nil))))
abbrev RepS : Sh := .agg (.cons (.int .u32) (.cons .bool (.cons (.int .i64) (.cons (.int .i64) (.cons (.slc (.int .i64)) (.cons (.slc HitS) (.cons (.slc .str) (.cons (.slc (.slc ValS)) (.cons StatS .nil)))))))))
def toRp (x : RepS.T) : Rp := ⟨Int.toNat x.1, x.2.1, x.2.2.1, x.2.2.2.1, x.2.2.2.2.1.es, x.2.2.2.2.2.1.es.map toHi, x.2.2.2.2.2.2.1.es.map toTx, x.2.2.2.2.2.2.2.1.es.map vsOf, x.2.2.2.2.2.2.2.2.1.1, x.2.2.2.2.2.2.2.2.1.2.1, x.2.2.2.2.2.2.2.2.1.2.2.1, x.2.2.2.2.2.2.2.2.1.2.2.2.1⟩
theorem rep_bulk (x : RepS.T) : RepS.bulk x = 1 + (1 + (1 + (1 + ((Sh.slc (.int .i64)).bulk x.2.2.2.2.1 + ((Sh.slc HitS).bulk x.2.2.2.2.2.1 + ((Sh.slc .str).bulk x.2.2.2.2.2.2.1 + ((Sh.slc (.slc ValS)).bulk x.2.2.2.2.2.2.2.1 + (1 + (1 + (1 + (1 + 0))) + 1 + 0)))))))) + 1 := rfl
theorem rep_read {h : Heap} (x : RepS.T) (ok : RepS.ok h x) (hb : RepS.bulk x ≤ 1048576) :
    RepS.val x = aggP (toRp x) x.2.2.2.2.1.a x.2.2.2.2.1.c x.2.2.2.2.2.1.a x.2.2.2.2.2.1.c x.2.2.2.2.2.2.1.a x.2.2.2.2.2.2.1.c x.2.2.2.2.2.2.2.1.a x.2.2.2.2.2.2.2.1.c ∧
      RpRo none_ h (toRp x) x.2.2.2.2.1.a x.2.2.2.2.2.1.a x.2.2.2.2.2.2.1.a x.2.2.2.2.2.2.2.1.a ∧ RpOk (toRp x) := by
  rw [rep_bulk] at hb
  have t1 := errs_le x.2.2.2.2.1
  have t2 := hits_le x.2.2.2.2.2.1
  have t3 := texs_le x.2.2.2.2.2.2.1
  have t4 := rows_le x.2.2.2.2.2.2.2.1
  obtain ⟨o1, _, o3, o4, o5, o6, o7, o8, ⟨o9, o10, o11, _, _⟩, _⟩ := ok
  obtain ⟨e1, e2, e3, _⟩ := errs_read _ o5
  obtain ⟨h1, h2⟩ := hits_read _ o6
  obtain ⟨n1, n2⟩ := texs_read _ o7
  obtain ⟨r1, r2⟩ := rows_read _ o8
  have o1 := wf_u32 o1
  refine ⟨?_, ⟨?_, ?_, ?_, ?_⟩, ⟨?_, wf_i64 o3, wf_i64 o4, e3, ?_, ?_, wf_i64 o9, wf_i64 o10, wf_i64 o11, ?_⟩⟩
  · show Value.agg #[.int .u32 x.1, .bool x.2.1, .int .i64 x.2.2.1, .int .i64 x.2.2.2.1, .slice x.2.2.2.2.1.a x.2.2.2.2.1.l x.2.2.2.2.1.c, .slice x.2.2.2.2.2.1.a x.2.2.2.2.2.1.l x.2.2.2.2.2.1.c, .slice x.2.2.2.2.2.2.1.a x.2.2.2.2.2.2.1.l x.2.2.2.2.2.2.1.c, .slice x.2.2.2.2.2.2.2.1.a x.2.2.2.2.2.2.2.1.l x.2.2.2.2.2.2.2.1.c, .int .i64 x.2.2.2.2.2.2.2.2.1.1, .int .i64 x.2.2.2.2.2.2.2.2.1.2.1, .int .i64 x.2.2.2.2.2.2.2.2.1.2.2.1, .bool x.2.2.2.2.2.2.2.2.1.2.2.2.1] =
      .agg #[.int .u32 ((Int.toNat x.1 : Nat) : Int), .bool x.2.1, .int .i64 x.2.2.1, .int .i64 x.2.2.2.1, .slice x.2.2.2.2.1.a (x.2.2.2.2.1.es.length) x.2.2.2.2.1.c, .slice x.2.2.2.2.2.1.a (x.2.2.2.2.2.1.es.map toHi).length x.2.2.2.2.2.1.c, .slice x.2.2.2.2.2.2.1.a (x.2.2.2.2.2.2.1.es.map toTx).length x.2.2.2.2.2.2.1.c, .slice x.2.2.2.2.2.2.2.1.a (x.2.2.2.2.2.2.2.1.es.map vsOf).length x.2.2.2.2.2.2.2.1.c, .int .i64 x.2.2.2.2.2.2.2.2.1.1, .int .i64 x.2.2.2.2.2.2.2.2.1.2.1, .int .i64 x.2.2.2.2.2.2.2.2.1.2.2.1, .bool x.2.2.2.2.2.2.2.2.1.2.2.2.1]
    rw [e2, h2, n2, r2, Int.toNat_of_nonneg o1.1]
  · show RoX errE none_ h _ x.2.2.2.2.1.es.length x.2.2.2.2.1.es
    rw [e2]; exact e1
  · show RoX hitE none_ h _ (x.2.2.2.2.2.1.es.map toHi).length (x.2.2.2.2.2.1.es.map toHi)
    rw [h2]; exact h1
  · show RoX texE none_ h _ (x.2.2.2.2.2.2.1.es.map toTx).length (x.2.2.2.2.2.2.1.es.map toTx)
    rw [n2]; exact n1
  · show RoX rowE none_ h _ (x.2.2.2.2.2.2.2.1.es.map vsOf).length (x.2.2.2.2.2.2.2.1.es.map vsOf)
    rw [r2]; exact r1
  · show Int.toNat x.1 < 4294967296
    omega
  · intro z hz
    obtain ⟨y, hy, rfl⟩ := List.mem_map.1 hz
    exact (vals_read y.2.1 (o6.2.2.2.2.2 y hy).2.1).2.2
  · intro z hz
    obtain ⟨y, hy, rfl⟩ := List.mem_map.1 hz
    exact (vals_read y (o8.2.2.2.2.2 y hy)).2.2
  · show (truB x.2.1 ++ (be4 (Int.toNat x.1) ++ (putN x.2.2.1 ++ (putN x.2.2.2.1 ++ (putL putN x.2.2.2.2.1.es ++ (putL putHW (x.2.2.2.2.2.1.es.map toHi) ++ (putL putS (x.2.2.2.2.2.2.1.es.map toTx) ++ (putL (putL encW) (x.2.2.2.2.2.2.2.1.es.map vsOf) ++ (putN x.2.2.2.2.2.2.2.2.1.1 ++ (putN x.2.2.2.2.2.2.2.2.1.2.1 ++ (putN x.2.2.2.2.2.2.2.2.1.2.2.1 ++ truB x.2.2.2.2.2.2.2.2.1.2.2.2.1))))))))))).length ≤ _
    have u1 := putN_le x.2.2.1
    have u2 := putN_le x.2.2.2.1
    have u3 := putN_le x.2.2.2.2.2.2.2.2.1.1
    have u4 := putN_le x.2.2.2.2.2.2.2.2.1.2.1
    have u5 := putN_le x.2.2.2.2.2.2.2.2.1.2.2.1
    have u6 : (be4 (Int.toNat x.1)).length = 4 := rfl
    have u7 : ∀ t : Bool, (truB t).length = 1 := fun _ => rfl
    have v1 := u7 x.2.1
    have v2 := u7 x.2.2.2.2.2.2.2.2.1.2.2.2.1
    simp only [List.length_append]
    omega
theorem lists_len (x : LL8.T) : (bssOf x).length ≤ tot (bssOf x) := len_le_bulk _ (fun _ => by omega) (bssOf x)
end Go.Proofs.YtgdgebmlcgohhaaDoor.F
