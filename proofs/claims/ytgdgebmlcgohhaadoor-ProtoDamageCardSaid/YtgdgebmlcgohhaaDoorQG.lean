/- The laws of proto: comparing. Conditions: none. -/
import Derived.Test.YtgdgebmlcgohhaaDoorQF
namespace Go.Proofs.YtgdgebmlcgohhaaDoor.F
open Go Go.VC Go.Proofs
set_option linter.unusedSimpArgs false
set_option linter.unusedVariables false
set_option maxRecDepth 100000
attribute [local irreducible] CallsH RunsTo PureTo

variable {S F G : Nat → Prop} {h0 h h1 : Heap} {L R L' : List A} {a b a1 a2 na ea nb eb : Option Addr} {l c l1 c1 l2 c2 p t b1 nc ec nd ed : Nat} {bs cs bs1 bs2 w : List UInt8} {err e1 : Int} {v : Val} {bad bad1 sp : Bool}
theorem take_ne {α : Type} {xs ys : List α} {j : Nat} {x y : α} (hx : xs[j]? = some x) (hy : ys[j]? = some y) (h : x ≠ y) : xs ≠ ys := fun e => by
  subst e
  rw [hx] at hy
  exact h (Option.some.inj hy)
theorem take_eq {α : Type} {xs ys : List α} {j : Nat} {x y : α} (hx : xs[j]? = some x) (hy : ys[j]? = some y) (he : xs.take j = ys.take j) (h : x = y) : xs.take (j + 1) = ys.take (j + 1) := by rw [take_next hx, take_next hy, he, h]
theorem texts_eq {xs ys : List Bytes} (hs : RoX texE none_ h a l xs) (ht : RoX texE none_ h b l2 ys) (hb : l < 9223372036854775807) : CallsH Tryd.prog 31 #[.slice a l c, .slice b l2 c2] h (fun v h' => v = .bool (decide (xs = ys)) ∧ h' = h) := by
  refine vf31 _ _ _ _ _ _ h _ ?_
  unfold F31
  have hl := hs.len
  have hl2 := ht.len
  refine cond_split (fun hc => ?_) (fun hc => ?_)
  · have hne : (l : Int) ≠ l2 := by simpa using hc
    refine ⟨?_, rfl⟩
    rw [decide_eq_false (fun e => hne (by subst e; omega))]
  have hll : l = l2 := by
    have : (l : Int) = l2 := by simpa using hc
    omega
  subst hll
  clear hc
  refine ⟨fun n hh _ i => ∃ j : Nat, i = j ∧ j ≤ l ∧ n = l - j ∧ hh = h ∧ xs.take j = ys.take j, ⟨_, 0, rfl, by omega, rfl, rfl, rfl⟩, ?_⟩
  rintro n hh _ _ i ⟨j, rfl, hj, rfl, rfl, he⟩
  refine cond_split (fun hc => ?_) (fun hc => ?_)
  · have hjl : j < l := Int.ofNat_lt.1 (of_decide_eq_true hc)
    refine hs.one (.refl _ _) (by omega) (by omega) fun ad x hx hcx _ => ⟨_, hcx 0 _ rfl, ?_⟩
    refine ht.one (.refl _ _) (by omega) (by omega) fun ad y hy hcy _ => ⟨_, hcy 0 _ rfl, ?_⟩
    rw [Int.toNat_natCast] at hx hy
    rw [eqStr]
    refine cond_split (fun hd => ?_) (fun hd => ?_)
    · have hne : x ≠ y := by simpa using hd
      exact ⟨by rw [decide_eq_false (take_ne hx hy hne)], rfl⟩
    · have hxy : x = y := by simpa using hd
      exact ⟨_, by omega, j + 1, wrap_nat hjl (by omega), hjl, rfl, rfl, take_eq hx hy he hxy⟩
  · have hjl : j = l := by
      have : ¬ (j : Int) < l := of_decide_eq_false hc
      omega
    subst hjl
    rw [List.take_of_length_le (by omega), List.take_of_length_le (by omega)] at he
    exact ⟨by rw [decide_eq_true he], rfl⟩
theorem vals_eq {vs ws : List Val} (hs : Sl h a (vs.flatMap valV)) (hl : vs.length = l) (ht : Sl h b (ws.flatMap valV)) (hl2 : ws.length = l2) (hb : l < 9223372036854775807) : CallsH Tryd.prog 53 #[.slice a l c, .slice b l2 c2] h (fun v h' => v = .bool (decide (vs = ws)) ∧ h' = h) := by
  refine vf53 _ _ _ _ _ _ h _ ?_
  unfold F53
  refine cond_split (fun hc => ?_) (fun hc => ?_)
  · have hne : (l : Int) ≠ l2 := by simpa using hc
    refine ⟨?_, rfl⟩
    rw [decide_eq_false (fun e => hne (by subst e; omega))]
  have hll : l = l2 := by
    have : (l : Int) = l2 := by simpa using hc
    omega
  subst hll
  clear hc
  refine ⟨fun n hh _ i => ∃ j : Nat, i = j ∧ j ≤ l ∧ n = l - j ∧ hh = h ∧ vs.take j = ws.take j, ⟨_, 0, rfl, by omega, rfl, rfl, rfl⟩, ?_⟩
  rintro n hh _ _ i ⟨j, rfl, hj, rfl, rfl, he⟩
  refine cond_split (fun hc => ?_) (fun hc => ?_)
  · have hjl : j < l := Int.ofNat_lt.1 (of_decide_eq_true hc)
    refine valRow hs hl (by omega) (by omega) fun ad x hx c0 c1 c2 c3 => ⟨_, c0, _, c1, _, c2, _, c3, ?_⟩
    refine valRow ht hl2 (by omega) (by omega) fun ad y hy d0 d1 d2 d3 => ⟨_, d0, _, d1, _, d2, _, d3, ?_⟩
    rw [Int.toNat_natCast] at hx hy
    refine val_neq (x := x) (y := y) ⟨_, rfl, cond_split (fun hd => ?_) (fun hd => ?_)⟩
    · have hne : x ≠ y := by simpa using hd
      exact ⟨by rw [decide_eq_false (take_ne hx hy hne)], rfl⟩
    · have hxy : x = y := by simpa using hd
      exact ⟨_, by omega, j + 1, wrap_nat hjl (by omega), hjl, rfl, rfl, take_eq hx hy he hxy⟩
  · have hjl : j = l := by
      have : ¬ (j : Int) < l := of_decide_eq_false hc
      omega
    subst hjl
    rw [List.take_of_length_le (by omega), List.take_of_length_le (by omega)] at he
    exact ⟨by rw [decide_eq_true he], rfl⟩
theorem lists_eq {xs ys : List Bytes} (hs : RoX bytE none_ h a l xs) (ht : RoX bytE none_ h b l2 ys) (hb : l < 9223372036854775807) (hbs : ∀ x ∈ xs, x.length < 9223372036854775807) : CallsH Tryd.prog 22 #[.slice a l c, .slice b l2 c2] h (fun v h' => v = .bool (decide (xs = ys)) ∧ h' = h) := by
  refine vf22 _ _ _ _ _ _ h _ ?_
  unfold F22
  have hl := hs.len
  have hl2 := ht.len
  refine cond_split (fun hc => ?_) (fun hc => ?_)
  · have hne : (l : Int) ≠ l2 := by simpa using hc
    refine ⟨?_, rfl⟩
    rw [decide_eq_false (fun e => hne (by subst e; omega))]
  have hll : l = l2 := by
    have : (l : Int) = l2 := by simpa using hc
    omega
  subst hll
  clear hc
  refine ⟨fun n hh _ i => ∃ j : Nat, i = j ∧ j ≤ l ∧ n = l - j ∧ hh = h ∧ xs.take j = ys.take j, ⟨_, 0, rfl, by omega, rfl, rfl, rfl⟩, ?_⟩
  rintro n hh _ _ i ⟨j, rfl, hj, rfl, rfl, he⟩
  refine cond_split (fun hc => ?_) (fun hc => ?_)
  · have hjl : j < l := Int.ofNat_lt.1 (of_decide_eq_true hc)
    refine hs.one (.refl _ _) (by omega) (by omega) fun ad x hx hcx rx => ⟨_, _, _, hcx 0 _ rfl, ?_⟩
    refine ht.one (.refl _ _) (by omega) (by omega) fun ad y hy hcy ry => ⟨_, _, _, hcy 0 _ rfl, ?_⟩
    rw [Int.toNat_natCast] at hx hy
    refine CallsH.mono (same_spec rx.sl rfl ry.sl rfl (hbs _ (List.mem_of_getElem? hx))) ?_
    rintro _ _ ⟨rfl, rfl⟩
    refine ⟨_, rfl, cond_split (fun hd => ?_) (fun hd => ?_)⟩
    · have hne : x.bs ≠ y.bs := by simpa using hd
      exact ⟨by rw [decide_eq_false (take_ne hx hy hne)], rfl⟩
    · have hxy : x.bs = y.bs := by simpa using hd
      exact ⟨_, by omega, j + 1, wrap_nat hjl (by omega), hjl, rfl, rfl, take_eq hx hy he hxy⟩
  · have hjl : j = l := by
      have : ¬ (j : Int) < l := of_decide_eq_false hc
      omega
    subst hjl
    rw [List.take_of_length_le (by omega), List.take_of_length_le (by omega)] at he
    exact ⟨by rw [decide_eq_true he], rfl⟩
theorem ne_int (x y : Int) : (x != y) = decide (x ≠ y) := by
  by_cases h : x = y <;> simp [h]
theorem eq_int (x y : Int) : (x == y) = decide (x = y) := by
  by_cases h : x = y <;> simp [h]
theorem events_eq {xs ys : List Ev} (hs : RoX evE none_ h a l xs) (ht : RoX evE none_ h b l2 ys) (hb : l < 9223372036854775807) (hbs : ∀ x ∈ xs, x.vs.length < 9223372036854775807) : CallsH Tryd.prog 32 #[.slice a l c, .slice b l2 c2] h (fun v h' => v = .bool (decide (xs = ys)) ∧ h' = h) := by
  refine vf32 _ _ _ _ _ _ h _ ?_
  unfold F32
  have hl := hs.len
  have hl2 := ht.len
  refine cond_split (fun hc => ?_) (fun hc => ?_)
  · have hne : (l : Int) ≠ l2 := by simpa using hc
    refine ⟨?_, rfl⟩
    rw [decide_eq_false (fun e => hne (by subst e; omega))]
  have hll : l = l2 := by
    have : (l : Int) = l2 := by simpa using hc
    omega
  subst hll
  clear hc
  refine ⟨fun n hh _ i => ∃ j : Nat, i = j ∧ j ≤ l ∧ n = l - j ∧ hh = h ∧ xs.take j = ys.take j, ⟨_, 0, rfl, by omega, rfl, rfl, rfl⟩, ?_⟩
  rintro n hh _ _ i ⟨j, rfl, hj, rfl, rfl, he⟩
  refine cond_split (fun hc => ?_) (fun hc => ?_)
  · have hjl : j < l := Int.ofNat_lt.1 (of_decide_eq_true hc)
    refine hs.one (.refl _ _) (by omega) (by omega) fun ad x hx hcx rx => ⟨_, _, _, hcx 2 _ rfl, ?_⟩
    refine ht.one (.refl _ _) (by omega) (by omega) fun ad y hy hcy ry => ⟨_, _, _, hcy 2 _ rfl, ?_⟩
    rw [Int.toNat_natCast] at hx hy
    refine CallsH.mono (vals_eq rx.sl rfl ry.sl rfl (hbs _ (List.mem_of_getElem? hx))) ?_
    rintro _ _ ⟨rfl, rfl⟩
    refine ⟨_, rfl, cond_split (fun hd => ?_) (fun hd => ?_)⟩
    · have hne : x.e.vs ≠ y.e.vs := by simpa using hd
      exact ⟨by rw [decide_eq_false (take_ne hx hy fun e => hne (congrArg Ev.vs e))], rfl⟩
    have h1 : x.e.vs = y.e.vs := by simpa using hd
    refine hs.one (.refl _ _) (by omega) (by omega) fun ad x1 hx1 hcx1 _ => ⟨_, hcx1 0 _ rfl, ?_⟩
    refine ht.one (.refl _ _) (by omega) (by omega) fun ad y1 hy1 hcy1 _ => ⟨_, hcy1 0 _ rfl, ?_⟩
    rw [Int.toNat_natCast] at hx1 hy1
    have ex1 : x1.e = x.e := Option.some.inj (hx1.symm.trans hx)
    have ey1 : y1.e = y.e := Option.some.inj (hy1.symm.trans hy)
    rw [eqStr, ex1, ey1]
    refine cond_split (fun hd => ?_) (fun hd => ?_)
    · have hne : x.e.t ≠ y.e.t := by simpa using hd
      exact ⟨by rw [decide_eq_false (take_ne hx hy fun e => hne (congrArg Ev.t e))], rfl⟩
    have h2 : x.e.t = y.e.t := by simpa using hd
    refine hs.one (.refl _ _) (by omega) (by omega) fun ad x2 hx2 hcx2 _ => ⟨_, hcx2 1 _ rfl, ?_⟩
    refine ht.one (.refl _ _) (by omega) (by omega) fun ad y2 hy2 hcy2 _ => ⟨_, hcy2 1 _ rfl, ?_⟩
    rw [Int.toNat_natCast] at hx2 hy2
    have ex2 : x2.e = x.e := Option.some.inj (hx2.symm.trans hx)
    have ey2 : y2.e = y.e := Option.some.inj (hy2.symm.trans hy)
    rw [ex2, ey2, ne_int]
    refine cond_split (fun hd => ?_) (fun hd => ?_)
    · have hne : x.e.tm ≠ y.e.tm := of_decide_eq_true hd
      exact ⟨by rw [decide_eq_false (take_ne hx hy fun e => hne (congrArg Ev.tm e))], rfl⟩
    have h3 : x.e.tm = y.e.tm := by simpa using hd
    have hxy : x.e = y.e := by
      cases hxe : x.e; cases hye : y.e
      rw [hxe, hye] at h1 h2 h3
      simp only at h1 h2 h3
      rw [h1, h2, h3]
    exact ⟨_, by omega, j + 1, wrap_nat hjl (by omega), hjl, rfl, rfl, take_eq hx hy he hxy⟩
  · have hjl : j = l := by
      have : ¬ (j : Int) < l := of_decide_eq_false hc
      omega
    subst hjl
    rw [List.take_of_length_le (by omega), List.take_of_length_le (by omega)] at he
    exact ⟨by rw [decide_eq_true he], rfl⟩
theorem RqRo.in {q : Rq} (k : RqRo S h0 q na ea) (s : St S h0 h L) : RqRo none_ h q na ea := k.at s.ext fun _ h => h.elim
theorem RpRo.in {q : Rp} {ga ha na ra : Option Addr} (k : RpRo S h0 q ga ha na ra) (s : St S h0 h L) : RpRo none_ h q ga ha na ra := k.at s.ext fun _ h => h.elim
theorem requests_eq {q1 q2 : Rq} (hs : RqRo none_ h q1 na ea) (ht : RqRo none_ h q2 nb eb) (hb1 : q1.names.length < 9223372036854775807) (hb2 : q1.evs.length < 9223372036854775807) (hbs : ∀ x ∈ q1.evs, x.vs.length < 9223372036854775807) :
    CallsH Tryd.prog 10 #[aggQ q1 na nc ea ec, aggQ q2 nb nd eb ed] h (fun v h' => v = .bool (decide (q1 = q2)) ∧ Ext h h') := by
  refine vf10 _ _ _ _ _ _ _ _ _ _ _ _ _ _ _ _ _ _ _ _ h _ ?_
  unfold F10
  have k := St.fresh h
  have key : decide (q1 = q2) = (decide (q1.names = q2.names) && (decide (q1.evs = q2.evs) && (decide (q1.id = q2.id) && (decide (q1.k = q2.k) && (decide (q1.name = q2.name) && decide (q1.text = q2.text)))))) := by
    cases q1; cases q2
    rw [Bool.eq_iff_iff]
    simp [Rq.mk.injEq]
    constructor
    · rintro ⟨a, b, c, d, e, f⟩; exact ⟨e, f, a, b, c, d⟩
    · rintro ⟨e, f, a, b, c, d⟩; exact ⟨a, b, c, d, e, f⟩
  refine k.vnew fun b1 h2 k => k.vnew fun b3 h4 k => ⟨_, _, _, k.rd (by rfl), _, _, _, k.rd (by rfl), ?_⟩
  have hs := hs.in k
  have ht := ht.in k
  refine CallsH.mono (texts_eq (hs.names) (ht.names) hb1) ?_
  rintro _ _ ⟨rfl, rfl⟩
  refine ⟨_, rfl, _, _, _, k.rd (by rfl), _, _, _, k.rd (by rfl), ?_⟩
  refine CallsH.mono (events_eq (hs.evs) (ht.evs) hb2 hbs) ?_
  rintro _ _ ⟨rfl, rfl⟩
  refine ⟨_, rfl, ?_⟩
  have eid : (((q1.id : Nat) : Int) == ((q2.id : Nat) : Int)) = decide (q1.id = q2.id) := by rw [eq_int]; exact decide_eq_decide.2 Int.ofNat_inj
  rw [key]
  refine cond_split (fun h1 => ?_) (fun h1 => ⟨by rw [h1]; rfl, k.ext⟩)
  refine cond_split (fun h2 => ?_) (fun h2 => ⟨by rw [h2]; simp, k.ext⟩)
  refine ⟨_, k.rd (by rfl), _, k.rd (by rfl), cond_split (fun h3 => ?_) (fun h3 => ⟨by rw [← eid, h3]; simp, k.ext⟩)⟩
  refine ⟨_, k.rd (by rfl), _, k.rd (by rfl), cond_split (fun h4 => ?_) (fun h4 => ⟨by rw [← eq_int q1.k, h4]; simp, k.ext⟩)⟩
  refine ⟨_, k.rd (by rfl), _, k.rd (by rfl), ?_⟩
  rw [eqStr]
  refine cond_split (fun h5 => ?_) (fun h5 => ⟨by rw [h5]; simp, k.ext⟩)
  refine ⟨_, k.rd (by rfl), _, k.rd (by rfl), ?_⟩
  rw [eqStr, h1, h2, h5, ← eid, h3, ← eq_int q1.k, h4]
  exact ⟨by simp, k.ext⟩
/-! ### Replies -/
def statV (q : Rp) : List Value := [.int .i64 q.since, .int .i64 q.open_, .int .i64 q.nodes, .bool q.over]
theorem und32 : Tryd.prog.underlying 32 = some (.struct (Tryd.prog.fieldsOf 32)) := by kernel_rfl
def eqS (a b : Rp) : Bool := (a.since == b.since) && ((a.open_ == b.open_) && ((a.nodes == b.nodes) && ((a.over == b.over) && true)))
theorem stat_fields (x y : Rp) (w : World) : (Op.eqFields 9999 (statV x).toArray (statV y).toArray (Tryd.prog.fieldsOf 32).toList).run Tryd.prog w = .ok (eqS x y) w := by
  have e : (Tryd.prog.fieldsOf 32).toList = [Field.mk "Since" 2 0 false "" "" 0, Field.mk "Open" 3 1 false "" "" 8, Field.mk "Nodes" 3 2 false "" "" 16, Field.mk "Over" 4 3 false "" "" 24] := by kernel_rfl
  rw [e]
  unfold eqS
  exact eqF_cons rfl (by kernel_rfl) (by kernel_rfl) (run_equalIn_int w _ _ .i64 _ _ _ und2i) (eqF_cons rfl (by kernel_rfl) (by kernel_rfl) (run_equalIn_int w _ _ .i64 _ _ _ und3i) (eqF_cons rfl (by kernel_rfl) (by kernel_rfl) (run_equalIn_int w _ _ .i64 _ _ _ und3i) (eqF_cons rfl (by kernel_rfl) (by kernel_rfl) (run_equalIn_bool' w _ _ _ _ und4b) eqF_nil)))
theorem stat_eql {x y : Rp} {o1 o2 : Operand} {R : Value → Prop} (q : R (.bool (eqS x y))) : PureTo Tryd.prog (do eqGuard .eql 32 o1 o2 (.agg (statV x).toArray) (.agg (statV y).toArray); binOp .eql 32 (.agg (statV x).toArray) (.agg (statV y).toArray)) R :=
  eql_struct (fs := Tryd.prog.fieldsOf 32) und32 (by kernel_rfl) (by kernel_rfl) (stat_fields x y) q
theorem rp_key (q1 q2 : Rp) : decide (q1 = q2) = (decide (q1.errs = q2.errs) && (decide (q1.hits = q2.hits) && (decide (q1.rows = q2.rows) && (decide (q1.names = q2.names) && (decide (q1.id = q2.id) && ((q1.note == q2.note) && (decide (q1.err = q2.err) && (decide (q1.at_ = q2.at_) && eqS q1 q2)))))))) := by
  unfold eqS
  cases q1; cases q2
  rw [Bool.eq_iff_iff]
  simp [Rp.mk.injEq]
  constructor
  · rintro ⟨a, b, c, d, e, f, g, h, i, j, k, l⟩; exact ⟨e, f, h, g, a, b, c, d, i, j, k, l⟩
  · rintro ⟨e, f, h, g, a, b, c, d, i, j, k, l⟩; exact ⟨a, b, c, d, e, f, g, h, i, j, k, l⟩
theorem len_ne {α : Type} [DecidableEq α] {xs ys : List α} (h : ((xs.length : Int) != (ys.length : Int)) = true) : decide (xs = ys) = false :=
  decide_eq_false fun e => by subst e; simp at h
theorem len_eq {α : Type} {xs ys : List α} (h : ((xs.length : Int) != (ys.length : Int)) = false) : xs.length = ys.length := by
  have : (xs.length : Int) = ys.length := by simpa using h
  omega
/-- What is asked of a reply's size, to be compared. -/
structure RpSz (q : Rp) : Prop where
  errs : q.errs.length < 9223372036854775807
  hits : q.hits.length < 9223372036854775807
  names : q.names.length < 9223372036854775807
  rows : q.rows.length < 9223372036854775807
  hit : ∀ x ∈ q.hits, x.row.length < 9223372036854775807
  row : ∀ x ∈ q.rows, x.length < 9223372036854775807
set_option maxHeartbeats 1000000 in
theorem replies_eq {q1 q2 : Rp} {ga ha na ra gb hb nb rb : Option Addr} {gc hc nc rc gd hd nd rd : Nat} (hs : RpRo none_ h q1 ga ha na ra) (ht : RpRo none_ h q2 gb hb nb rb) (sz : RpSz q1) :
    CallsH Tryd.prog 13 #[aggP q1 ga gc ha hc na nc ra rc, aggP q2 gb gd hb hd nb nd rb rd] h (fun v h' => v = .bool (decide (q1 = q2)) ∧ Ext h h') := by
  refine vf13 _ _ _ _ _ _ _ _ _ _ _ _ _ _ _ _ _ _ _ _ _ _ _ _ _ _ _ _ _ _ _ _ _ _ _ _ _ _ _ _ h _ ?_
  unfold F13
  have k := St.fresh h
  rw [rp_key]
  refine k.vnew fun b1 h2 k => k.vnew fun b3 h4 k => ⟨_, _, _, k.rd (by rfl), _, _, _, k.rd (by rfl), ?_⟩
  have hs := hs.in k
  have ht := ht.in k
  refine cond_split (fun hl => ⟨by rw [len_ne hl]; rfl, k.ext⟩) (fun hl => ?_)
  have hl1 := len_eq hl
  clear hl
  refine ⟨_, _, _, k.rd (by rfl), _, _, _, k.rd (by rfl), cond_split (fun hl => ⟨by rw [len_ne hl]; simp, k.ext⟩) (fun hl => ?_)⟩
  have hl2 := len_eq hl
  clear hl
  refine ⟨_, _, _, k.rd (by rfl), _, _, _, k.rd (by rfl), cond_split (fun hl => ⟨by rw [len_ne hl]; simp, k.ext⟩) (fun hl => ?_)⟩
  have hl3 := len_eq hl
  clear hl
  refine ⟨fun n hh _ i => ∃ j : Nat, i = j ∧ j ≤ q1.errs.length ∧ n = q1.errs.length - j ∧ hh = h4 ∧ q1.errs.take j = q2.errs.take j, ⟨_, 0, rfl, by omega, rfl, rfl, rfl⟩, ?_⟩
  rintro n hh _ _ i ⟨j, rfl, hj, rfl, rfl, he⟩
  have z1 := sz.errs
  refine ⟨_, _, _, k.rd (by rfl), cond_split (fun hc => ?_) (fun hc => ?_)⟩
  · have hjl : j < q1.errs.length := Int.ofNat_lt.1 (of_decide_eq_true hc)
    refine ⟨_, _, _, k.rd (by rfl), hs.errs.one (.refl _ _) (by omega) (by omega) fun ad x hx hcx _ => ⟨_, hcx 0 _ rfl, _, _, _, k.rd (by rfl), ?_⟩⟩
    refine ht.errs.one (.refl _ _) (by omega) (by omega) fun ad y hy hcy _ => ⟨_, hcy 0 _ rfl, ?_⟩
    rw [Int.toNat_natCast] at hx hy
    rw [ne_int]
    refine cond_split (fun hd => ?_) (fun hd => ?_)
    · have hne : x ≠ y := of_decide_eq_true hd
      exact ⟨by rw [decide_eq_false (take_ne hx hy hne)]; rfl, k.ext⟩
    · have hxy : x = y := by simpa using hd
      exact ⟨_, by omega, j + 1, wrap_nat hjl (by omega), hjl, rfl, rfl, take_eq hx hy he hxy⟩
  have hjl : j = q1.errs.length := by
    have : ¬ (j : Int) < q1.errs.length := of_decide_eq_false hc
    omega
  subst hjl
  rw [List.take_of_length_le (by omega), List.take_of_length_le (by omega)] at he
  have q1e : decide (q1.errs = q2.errs) = true := decide_eq_true he
  rw [q1e, Bool.true_and]
  clear he hj hc q1e
  refine ⟨fun n h' _ i => ∃ j : Nat, i = j ∧ j ≤ q1.hits.length ∧ n = q1.hits.length - j ∧ h' = hh ∧ q1.hits.take j = q2.hits.take j, ⟨_, 0, rfl, by omega, rfl, rfl, rfl⟩, ?_⟩
  rintro n h' _ _ i ⟨j, rfl, hj, rfl, rfl, he⟩
  have z2 := sz.hits
  refine ⟨_, _, _, k.rd (by rfl), cond_split (fun hc => ?_) (fun hc => ?_)⟩
  · have hjl : j < q1.hits.length := Int.ofNat_lt.1 (of_decide_eq_true hc)
    refine ⟨_, _, _, k.rd (by rfl), hs.hits.one (.refl _ _) (by omega) (by omega) fun ad x hx hcx rx => ⟨_, _, _, hcx 1 _ rfl, _, _, _, k.rd (by rfl), ?_⟩⟩
    refine ht.hits.one (.refl _ _) (by omega) (by omega) fun ad y hy hcy ry => ⟨_, _, _, hcy 1 _ rfl, ?_⟩
    rw [Int.toNat_natCast] at hx hy
    refine CallsH.mono (vals_eq rx.sl rfl ry.sl rfl (sz.hit _ (List.mem_of_getElem? hx))) ?_
    rintro _ _ ⟨rfl, rfl⟩
    refine ⟨_, rfl, cond_split (fun hd => ?_) (fun hd => ?_)⟩
    · have hne : x.x.row ≠ y.x.row := by simpa using hd
      exact ⟨by rw [decide_eq_false (take_ne hx hy fun e => hne (congrArg Hi.row e))]; rfl, k.ext⟩
    have e1 : x.x.row = y.x.row := by simpa using hd
    refine ⟨_, _, _, k.rd (by rfl), hs.hits.one (.refl _ _) (by omega) (by omega) fun ad x1 hx1 hcx1 _ => ⟨_, hcx1 0 _ rfl, _, _, _, k.rd (by rfl), ?_⟩⟩
    refine ht.hits.one (.refl _ _) (by omega) (by omega) fun ad y1 hy1 hcy1 _ => ⟨_, hcy1 0 _ rfl, ?_⟩
    rw [Int.toNat_natCast] at hx1 hy1
    have ex1 : x1.x = x.x := Option.some.inj (hx1.symm.trans hx)
    have ey1 : y1.x = y.x := Option.some.inj (hy1.symm.trans hy)
    rw [eqStr, ex1, ey1]
    refine cond_split (fun hd => ?_) (fun hd => ?_)
    · have hne : x.x.q ≠ y.x.q := by simpa using hd
      exact ⟨by rw [decide_eq_false (take_ne hx hy fun e => hne (congrArg Hi.q e))]; rfl, k.ext⟩
    have e2 : x.x.q = y.x.q := by simpa using hd
    have hxy : x.x = y.x := by
      cases hxe : x.x; cases hye : y.x
      rw [hxe, hye] at e1 e2
      simp only at e1 e2
      rw [e1, e2]
    exact ⟨_, by omega, j + 1, wrap_nat hjl (by omega), hjl, rfl, rfl, take_eq hx hy he hxy⟩
  have hjl : j = q1.hits.length := by
    have : ¬ (j : Int) < q1.hits.length := of_decide_eq_false hc
    omega
  subst hjl
  rw [List.take_of_length_le (by omega), List.take_of_length_le (by omega)] at he
  have q1e : decide (q1.hits = q2.hits) = true := decide_eq_true he
  rw [q1e, Bool.true_and]
  clear he hj hc q1e
  refine ⟨fun n hh _ i => ∃ j : Nat, i = j ∧ j ≤ q1.rows.length ∧ n = q1.rows.length - j ∧ hh = h' ∧ q1.rows.take j = q2.rows.take j, ⟨_, 0, rfl, by omega, rfl, rfl, rfl⟩, ?_⟩
  rintro n hh _ _ i ⟨j, rfl, hj, rfl, rfl, he⟩
  have z3 := sz.rows
  refine ⟨_, _, _, k.rd (by rfl), cond_split (fun hc => ?_) (fun hc => ?_)⟩
  · have hjl : j < q1.rows.length := Int.ofNat_lt.1 (of_decide_eq_true hc)
    refine ⟨_, _, _, k.rd (by rfl), hs.rows.one (.refl _ _) (by omega) (by omega) fun ad x hx hcx rx => ⟨_, _, _, hcx 0 _ rfl, _, _, _, k.rd (by rfl), ?_⟩⟩
    refine ht.rows.one (.refl _ _) (by omega) (by omega) fun ad y hy hcy ry => ⟨_, _, _, hcy 0 _ rfl, ?_⟩
    rw [Int.toNat_natCast] at hx hy
    refine CallsH.mono (vals_eq rx.sl rfl ry.sl rfl (sz.row _ (List.mem_of_getElem? hx))) ?_
    rintro _ _ ⟨rfl, rfl⟩
    refine ⟨_, rfl, cond_split (fun hd => ?_) (fun hd => ?_)⟩
    · have hne : x.vs ≠ y.vs := by simpa using hd
      exact ⟨by rw [decide_eq_false (take_ne hx hy hne)]; rfl, k.ext⟩
    · have hxy : x.vs = y.vs := by simpa using hd
      exact ⟨_, by omega, j + 1, wrap_nat hjl (by omega), hjl, rfl, rfl, take_eq hx hy he hxy⟩
  have hjl : j = q1.rows.length := by
    have : ¬ (j : Int) < q1.rows.length := of_decide_eq_false hc
    omega
  subst hjl
  rw [List.take_of_length_le (by omega), List.take_of_length_le (by omega)] at he
  have q1e : decide (q1.rows = q2.rows) = true := decide_eq_true he
  rw [q1e, Bool.true_and]
  clear he hj hc q1e
  refine ⟨_, _, _, k.rd (by rfl), _, _, _, k.rd (by rfl), ?_⟩
  refine CallsH.mono (texts_eq (hs.names) (ht.names) sz.names) ?_
  rintro _ _ ⟨rfl, rfl⟩
  have eid : (((q1.id : Nat) : Int) == ((q2.id : Nat) : Int)) = decide (q1.id = q2.id) := by rw [eq_int]; exact decide_eq_decide.2 Int.ofNat_inj
  refine ⟨_, rfl, ?_⟩
  refine cond_split (fun h1 => ?_) (fun h1 => ⟨by rw [h1]; rfl, k.ext⟩)
  rw [h1, Bool.true_and]
  refine ⟨_, k.rd (by rfl), _, k.rd (by rfl), cond_split (fun h3 => ?_) (fun h3 => ⟨by rw [← eid, h3]; rfl, k.ext⟩)⟩
  rw [← eid, h3, Bool.true_and]
  refine ⟨_, k.rd (by rfl), _, k.rd (by rfl), cond_split (fun h4 => ?_) (fun h4 => ⟨by rw [h4]; rfl, k.ext⟩)⟩
  rw [h4, Bool.true_and]
  refine ⟨_, k.rd (by rfl), _, k.rd (by rfl), cond_split (fun h5 => ?_) (fun h5 => ⟨by rw [← eq_int q1.err, h5]; rfl, k.ext⟩)⟩
  rw [← eq_int q1.err, h5, Bool.true_and]
  refine ⟨_, k.rd (by rfl), _, k.rd (by rfl), cond_split (fun h6 => ?_) (fun h6 => ⟨by rw [← eq_int q1.at_, h6]; rfl, k.ext⟩)⟩
  rw [← eq_int q1.at_, h6, Bool.true_and]
  refine ⟨_, k.rd (by rfl), _, k.rd (by rfl), _, k.rd (by rfl), _, k.rd (by rfl), _, k.rd (by rfl), _, k.rd (by rfl), _, k.rd (by rfl), _, k.rd (by rfl), ?_⟩
  exact stat_eql (x := q1) (y := q2) ⟨_, rfl, rfl, k.ext⟩
end Go.Proofs.YtgdgebmlcgohhaaDoor.F
