/- A reply over, with marks in spare room. Conditions: none. -/
import Derived.Test.YtgdgebmlcgohhaaGreatDoorDK
namespace Go.Proofs.YtgdgebmlcgohhaaGreatDoor.F
open Go Go.VC Go.Proofs
set_option linter.unusedSimpArgs false
set_option linter.unusedVariables false
set_option maxRecDepth 100000
attribute [local irreducible] CallsH RunsTo PureTo

variable {S F G : Nat → Prop} {h0 h h1 : Heap} {L R L' : List A} {a b a1 a2 x ga ha na ra ea tn te tv th tr : Option Addr} {l c l1 c1 l2 c2 p t b1 lx cx gc hc nc rc ec e sz bt n cn ce cv ch cr : Nat} {vs : List Val} {news W : List Value} {err e1 : Int} {v : Val} {bad bad1 bad2 : Bool} {q : Rq} {u : Rp} {z : Value} {bs : Bytes}
theorem err_ro {xs : List Int} (r : RoX errE F h a l xs) : Ro F h a (xs.map fun n : Int => Value.int .i64 n) := by
  obtain ⟨ss, q1, q2, q3, q4⟩ := r
  have key : ∀ ys : List Int, ys.flatMap (fun s => [Value.int .i64 s]) = (ys.map id).map fun n : Int => Value.int .i64 n := fun ys => by
    induction ys with
    | nil => rfl
    | cons y ys ih => rw [List.flatMap_cons, ih]; rfl
  rw [← q3]
  exact (key ss) ▸ q1
theorem err_of {xs : List Int} (r : Ro F h a (xs.map fun n : Int => Value.int .i64 n)) (hl : xs.length = l) : RoX errE F h a l xs := by
  have key : ∀ ys : List Int, (ys.map fun n : Int => Value.int .i64 n) = ys.flatMap fun s => [Value.int .i64 s] := fun ys => by
    induction ys with
    | nil => rfl
    | cons y ys ih => rw [List.flatMap_cons, ← ih]; rfl
  exact ⟨xs, (key xs) ▸ r, fun _ _ => trivial, List.map_id xs, hl⟩
theorem oneC_ints (xs : List Int) : ∀ v ∈ xs.map (fun n : Int => Value.int .i64 n), oneC v = true := fun v hv => by obtain ⟨_, _, rfl⟩ := List.mem_map.1 hv; rfl
/-- A list of a reply's values over. -/
theorem list_spec {w0 w1 w2 w3 w4 w5 w6 w7 w8 w9 w10 w11 w12 w13 w14 w15 : Value} {tb : Nat} (k0 : Holds [A.blk b1 #[w0, w1, w2, w3, w4, w5, w6, w7, w8, w9, w10, w11, w12, w13, w14, w15, .slice tv n cv] tb, A.vec 112 1 tv n cv W] F h) (hr : Ro F h x (vs.flatMap valV)) (hl : vs.length = lx) (hlb : lx ≤ 1099511627776) (hn : n ≤ 1099511627776 * 4) :
    CallsH Tryz.prog 89 #[.pointer (some ⟨b1, 0, none⟩), .slice x lx cx] h (fun v h' => ∃ (a : Option Addr) (vc' : Nat) (tv' : Option Addr) (cv' : Nat), v = .slice a lx (lx + 12) ∧
      St F h h' [A.blk b1 #[w0, w1, w2, w3, w4, w5, w6, w7, w8, w9, w10, w11, w12, w13, w14, w15, .slice tv' (n + 1) cv'] tb, A.vec 112 1 tv' (n + 1) cv' (W ++ vc ⟨a, vc', vs⟩), vwE.own ⟨a, vc', vs⟩]) := by
  subst hl
  refine vf89 _ _ _ _ h _ ?_
  unfold F89
  have k := St.start k0
  refine copyV T25 (by omega) (n := vs.length) k hr.sl (vals_len _) (oneC_vals _) (by omega) fun va c0 h2 k => ⟨_, _, _, rfl, ?_⟩
  refine marksV k rfl hlb fun va vcc h6 k => ?_
  have hvl := (St.vec (a := va) k).1.le
  refine VSome.mk ⟨_, _, _, k.rd (by rfl), k.vnew fun b18 h19 k => ?_⟩
  have k := k.sel 4 [0, 3, 1, 2] rfl (by decide) (L' := [A.blk b18 (vc ⟨va, vcc, vs⟩).toArray 112, A.vec 112 1 tv n cv W, _, _]) (by rfl)
  refine app1 TR30 k rfl (fun v hv => by simp [vc] at hv; subst hv; rfl) (by omega) fun tv' cv' h21 k => ⟨_, _, _, rfl, VSome.mk (k.vst (Nat.le_of_ble_eq_true (by rfl)) fun h24 k => ?_)⟩
  refine vfront rfl rfl (by omega) hvl ⟨va, vcc, tv', cv', rfl, ?_⟩
  exact k.sel 3 [2, 0, 1] rfl (by decide) (L' := [_, _, _]) (by rfl)
/-- A tale's parts. -/
abbrev taV (u : Rp) (ga : Option Addr) (gl gc : Nat) (ha : Option Addr) (hl hc : Nat) (na : Option Addr) (nl nc : Nat) (ra : Option Addr) (rl rc : Nat) (te : Option Addr) (le ce : Nat) (tn : Option Addr) (ln cn : Nat) (th : Option Addr) (lh ch : Nat) (tr : Option Addr) (lr cr : Nat) (tv : Option Addr) (lv cv : Nat) : List Value :=
  [.int .u32 (u.id : Int), .bool u.note, .int .i64 u.err, .int .i64 u.at_, .slice ga gl gc, .slice ha hl hc, .slice na nl nc, .slice ra rl rc, .int .i64 u.since, .int .i64 u.open_, .int .i64 u.nodes, .bool u.over, .slice te le ce, .slice tn ln cn, .slice th lh ch, .slice tr lr cr, .slice tv lv cv]
structure H3 where
  a : Option Addr
  l : Nat
  c : Nat
  t : Bytes
def hC (x : H3) : List Value := [.string (bA x.t), .slice x.a x.l x.c]
abbrev mkH : H3 := ⟨none, 0, 0, mkS⟩
def h3 (y : Hi) (s : Sw) : H3 := ⟨s.a, y.row.length, y.row.length + 12, y.q⟩
def rC (s : Sw) : List Value := [.slice s.a s.vs.length (s.vs.length + 12)]
abbrev mkRowE : El (List Val) := ⟨Nat, fun _ => [mkV], 112, 1, fun b => [.slice (some ⟨b, 0, none⟩) 1 1], fun b => A.blk b (valV mkV).toArray 127, fun _ => rfl, fun s v hv => by simp at hv; subst hv; rfl, by omega,
  fun F h b => Ro F h (some ⟨b, 0, none⟩) (valV mkV), fun r m hf => r.at m hf, fun {_ _ _ _ s} k => (k.slB (b := s)).ro⟩
/-- A tale in memory, to be read. -/
structure Ta (h : Heap) (u : Rp) (b : Nat) (te : Option Addr) (ce : Nat) (tn : Option Addr) (cn : Nat) (th : Option Addr) (ch : Nat) (tr : Option Addr) (cr : Nat) (tv : Option Addr) (cv : Nat) : Prop where
  blk : Ro none_ h (some ⟨b, 0, none⟩) (taV u te u.errs.length (u.errs.length + 12) th u.hits.length (u.hits.length + 12) tn u.names.length (u.names.length + 12) tr u.rows.length (u.rows.length + 12) te (u.errs.length + 12) ce tn (u.names.length + 12) cn th (u.hits.length + 12) ch tr (u.rows.length + 12) cr tv (u.hits.length + u.rows.length) cv)
  capE : u.errs.length + 12 ≤ ce
  capN : u.names.length + 12 ≤ cn
  capH : u.hits.length + 12 ≤ ch
  capR : u.rows.length + 12 ≤ cr
  errs : Ro none_ h te ((u.errs ++ m12 777).map fun n : Int => Value.int .i64 n)
  names : Ro none_ h tn ((u.names ++ m12 mkS).map strV)
  rest : ∃ (s1 s2 : List Sw) (ms : List Nat), s1.map (·.vs) = u.hits.map (·.row) ∧ s2.map (·.vs) = u.rows ∧ ms.length = 12 ∧ Ro none_ h th ((List.zipWith h3 u.hits s1 ++ m12 mkH).flatMap hC) ∧ Ro none_ h tr (s2.flatMap rC ++ ms.flatMap mkRowE.cells) ∧
    Ro none_ h tv ((s1 ++ s2).flatMap vc) ∧ (∀ s ∈ s1 ++ s2, Ro none_ h s.a ((s.vs ++ m12 mkV).flatMap valV) ∧ s.vs.length + 12 ≤ s.c) ∧ ∀ b ∈ ms, Ro none_ h (some ⟨b, 0, none⟩) (valV mkV)
theorem zip_nextH {es : List Hi} {ss : List Sw} {j : Nat} {y : Hi} {s : Sw} (hs : ss.length = j) (hy : es[j]? = some y) : List.zipWith h3 (es.take (j + 1)) (ss ++ [s]) = List.zipWith h3 (es.take j) ss ++ [h3 y s] := by
  rw [take_next hy, List.zipWith_append (by rw [List.length_take]; have := (List.getElem?_eq_some_iff.1 hy).1; omega)]
  rfl
/-- What is asked of a reply's lists' lengths. -/
structure RpB (u : Rp) : Prop where
  errs : u.errs.length ≤ 1099511627776
  hits : u.hits.length ≤ 1099511627776
  names : u.names.length ≤ 1099511627776
  rows : u.rows.length ≤ 1099511627776
  hit : ∀ y ∈ u.hits, y.row.length ≤ 1099511627776
  row : ∀ y ∈ u.rows, y.length ≤ 1099511627776
set_option maxHeartbeats 8000000 in
theorem taleOf_spec (B : RpB u) (r : RpRo none_ h u ga ha na ra) : CallsH Tryz.prog 33 #[aggP u ga gc ha hc na nc ra rc] h
    (fun v h' => ∃ b te ce tn cn th ch tr cr tv cv, v = .pointer (some ⟨b, 0, none⟩) ∧ Ext h h' ∧ Ta h' u b te ce tn cn th ch tr cr tv cv) := by
  refine vf33 _ _ _ _ _ _ _ _ _ _ _ _ _ _ _ _ _ _ _ _ h _ ?_
  unfold F33
  have bE := B.errs
  have bH := B.hits
  have bN := B.names
  have bR := B.rows
  have k := St.fresh h
  refine k.vnew fun b1 h2 k => ?_
  refine ⟨_, k.rd (by rfl), _, k.rd (by rfl), _, k.rd (by rfl), _, k.rd (by rfl), _, _, _, k.rd (by rfl), _, _, _, k.rd (by rfl), _, _, _, k.rd (by rfl), _, _, _, k.rd (by rfl), _, k.rd (by rfl), _, k.rd (by rfl), _, k.rd (by rfl), _, k.rd (by rfl), k.vnew fun b15 h16 k => ⟨_, _, _, k.rd (by rfl), ?_⟩⟩
  have k : St none_ h h16 [A.blk b15 (taV u ga u.errs.length gc ha u.hits.length hc na u.names.length nc ra u.rows.length rc none 0 0 none 0 0 none 0 0 none 0 0 none 0 0).toArray 83, A.blk b1 (rpV u ga gc ha hc na nc ra rc).toArray 65] := k
  refine copyV T28 (by omega) (n := u.errs.length) k ((err_ro r.errs).mod k.ext).sl (by rw [List.length_map, Nat.mul_one]) (oneC_ints _) (by omega) fun te ce h19 k => ⟨_, _, _, rfl, k.vst (Nat.le_of_ble_eq_true (by rfl)) fun h21 k => ?_⟩
  refine ⟨_, _, _, k.rd (by rfl), copyV T23 (by omega) (n := u.names.length) k ((tex_ro r.names).mod k.ext).sl (by rw [List.length_map, Nat.mul_one]) (oneC_strs _) (by omega) fun tn cn h24 k => ⟨_, _, _, rfl, k.vst (Nat.le_of_ble_eq_true (by rfl)) fun h26 k => ?_⟩⟩
  have k := (((k.vnil 112 (sz := 1) (by omega)).vnil 112 (sz := 1) (by omega)).vnil 114 (sz := 2) (by omega)).all0
  -- [all, hits, rows, vals, names, errs, b15, b1]
  have k := k.sel 8 [6, 3, 7, 5, 4, 1, 2, 0] rfl (by decide) (L' := [A.blk b15 (taV u ga u.errs.length gc ha u.hits.length hc na u.names.length nc ra u.rows.length rc te u.errs.length ce tn u.names.length cn none 0 0 none 0 0 none 0 0).toArray 83, A.vec 112 1 none 0 0 [], A.blk b1 (rpV u ga gc ha hc na nc ra rc).toArray 65, _, _, A.vec 114 2 none 0 0 [], A.vec 112 1 none 0 0 [], _]) (by rfl)
  refine ⟨fun m h' i => ∃ (j : Nat) (ss : List Sw) (th : Option Addr) (ch : Nat) (tv : Option Addr) (cv : Nat), i = j ∧ j ≤ u.hits.length ∧ m = u.hits.length - j ∧ ss.map (·.vs) = (u.hits.take j).map (·.row) ∧
    St none_ h h' [A.blk b15 (taV u ga u.errs.length gc ha u.hits.length hc na u.names.length nc ra u.rows.length rc te u.errs.length ce tn u.names.length cn th j ch none 0 0 tv j cv).toArray 83, A.vec 112 1 tv j cv (ss.flatMap vc), A.blk b1 (rpV u ga gc ha hc na nc ra rc).toArray 65, A.vec 38 1 te u.errs.length ce (u.errs.map fun n : Int => Value.int .i64 n), A.vec 9 1 tn u.names.length cn (u.names.map strV), A.vec 114 2 th j ch ((List.zipWith h3 (u.hits.take j) ss).flatMap hC), A.vec 112 1 none 0 0 [], A.all (ss.map vwE.own)],
    ⟨_, 0, [], none, 0, none, 0, rfl, Nat.zero_le _, rfl, rfl, k⟩, ?_⟩
  clear k
  rintro m h29 _ i ⟨j, ss, th, ch, tv, cv, rfl, hj, rfl, hss, k⟩
  refine ⟨_, _, _, k.rd (by rfl), cond_split (fun hcd => ?_) (fun hcd => ?_)⟩
  · have hjl : j < u.hits.length := Int.ofNat_lt.1 (of_decide_eq_true hcd)
    have hsl : ss.length = j := by
      have := congrArg List.length hss
      rw [List.length_map, List.length_map, List.length_take] at this
      omega
    refine ⟨_, _, _, k.rd (by rfl), ?_⟩
    refine r.hits.one k.ext (by omega) (by omega) fun ad z hz hcz hrd => ⟨_, _, _, hcz 1 _ rfl, ?_⟩
    rw [Int.toNat_natCast] at hz
    have hzl : z.x.row.length ≤ 1099511627776 := B.hit _ (List.mem_of_getElem? hz)
    have hrd : Ro none_ h z.a (z.x.row.flatMap valV) := hrd
    obtain ⟨F', G, kF, kG, d, hF, back⟩ := St.frame (L := [A.blk b15 (taV u ga u.errs.length gc ha u.hits.length hc na u.names.length nc ra u.rows.length rc te u.errs.length ce tn u.names.length cn th j ch none 0 0 tv j cv).toArray 83, A.vec 112 1 tv j cv (ss.flatMap vc)]) k
    refine CallsH.mono (list_spec kF (hrd.at k.ext hF) rfl hzl (by omega)) ?_
    rintro _ h38 ⟨va, vcc, tv', cv', rfl, k2⟩
    have k := back (L' := [_, _, _]) k2
    clear back kF kG d hF
    have k : St none_ h h38 [A.blk b15 (taV u ga u.errs.length gc ha u.hits.length hc na u.names.length nc ra u.rows.length rc te u.errs.length ce tn u.names.length cn th j ch none 0 0 tv' (j + 1) cv').toArray 83, A.vec 112 1 tv' (j + 1) cv' (ss.flatMap vc ++ vc ⟨va, vcc, z.x.row⟩), vwE.own ⟨va, vcc, z.x.row⟩, A.blk b1 (rpV u ga gc ha hc na nc ra rc).toArray 65, A.vec 38 1 te u.errs.length ce (u.errs.map fun n : Int => Value.int .i64 n), A.vec 9 1 tn u.names.length cn (u.names.map strV), A.vec 114 2 th j ch ((List.zipWith h3 (u.hits.take j) ss).flatMap hC), A.vec 112 1 none 0 0 [], A.all (ss.map vwE.own)] := k
    refine ⟨_, _, _, rfl, _, _, _, k.rd (by rfl), _, _, _, k.rd (by rfl), ?_⟩
    refine r.hits.one k.ext (by omega) (by omega) fun ad2 z2 hz2 hcz2 hrd2 => ⟨_, hcz2 0 _ rfl, ?_⟩
    rw [Int.toNat_natCast] at hz2
    have e2 : z2.x = z.x := Option.some.inj (hz2.symm.trans hz)
    rw [e2]
    refine k.vnew fun b44 h45 k => ⟨k.rd (by rfl), ?_⟩
    have k := k.sel 10 [0, 7, 1, 2, 3, 4, 5, 6, 8, 9] rfl (by decide) (L' := [A.blk b44 (hC (h3 z.x ⟨va, vcc, z.x.row⟩)).toArray 114, A.vec 114 2 th j ch ((List.zipWith h3 (u.hits.take j) ss).flatMap hC), _, _, _, _, _, _, _, _]) (by rfl)
    refine app1 T29 k rfl (fun v hv => by simp [hC] at hv; rcases hv with rfl | rfl <;> rfl) (by omega) fun th' ch' h47 k => ⟨_, _, _, rfl, k.vst (Nat.le_of_ble_eq_true (by rfl)) fun h49 k => ⟨u.hits.length - (j + 1), by omega, j + 1, ss ++ [⟨va, vcc, z.x.row⟩], th', ch', tv', cv', wrap_nat hjl (by omega), hjl, rfl, ?_, ?_⟩⟩
    · rw [List.map_append, hss, take_next hz, List.map_append]; rfl
    · rw [zip_nextH hsl hz, List.flatMap_append, List.flatMap_append]
      -- [th', b15, vals, own, b1, errs, names, rows, all]
      have k := k.sel 9 [3, 8, 1, 2, 4, 5, 6, 0, 7] rfl (by decide) (L' := [vwE.own ⟨va, vcc, z.x.row⟩, A.all (ss.map vwE.own), A.blk b15 (taV u ga u.errs.length gc ha u.hits.length hc na u.names.length nc ra u.rows.length rc te u.errs.length ce tn u.names.length cn th' (j + 1) ch' none 0 0 tv' (j + 1) cv').toArray 83, _, _, _, _, _, _]) (by rfl)
      have k := (k.allIn).allPerm (L' := (ss ++ [(⟨va, vcc, z.x.row⟩ : Sw)]).map vwE.own) (by rw [List.map_append]; exact (List.perm_append_singleton _ _).symm)
      exact k.sel 8 [1, 2, 3, 4, 5, 6, 7, 0] rfl (by decide) (L' := [_, _, _, _, _, _, _, _]) (by rfl)
  have hjl : j = u.hits.length := by
    have : ¬ (j : Int) < u.hits.length := of_decide_eq_false hcd
    omega
  subst hjl
  rw [List.take_of_length_le (Nat.le_refl _)] at k hss
  clear hcd hj
  have hsl1 : ss.length = u.hits.length := by
    have := congrArg List.length hss
    rwa [List.length_map, List.length_map] at this
  -- the rows
  refine ⟨fun m h' i => ∃ (j : Nat) (s2 : List Sw) (tr : Option Addr) (cr : Nat) (tv : Option Addr) (cv : Nat), i = j ∧ j ≤ u.rows.length ∧ m = u.rows.length - j ∧ s2.map (·.vs) = u.rows.take j ∧
    St none_ h h' [A.blk b15 (taV u ga u.errs.length gc ha u.hits.length hc na u.names.length nc ra u.rows.length rc te u.errs.length ce tn u.names.length cn th u.hits.length ch tr j cr tv (u.hits.length + j) cv).toArray 83, A.vec 112 1 tv (u.hits.length + j) cv ((ss ++ s2).flatMap vc), A.blk b1 (rpV u ga gc ha hc na nc ra rc).toArray 65, A.vec 38 1 te u.errs.length ce (u.errs.map fun n : Int => Value.int .i64 n), A.vec 9 1 tn u.names.length cn (u.names.map strV), A.vec 114 2 th u.hits.length ch ((List.zipWith h3 u.hits ss).flatMap hC), A.vec 112 1 tr j cr (s2.flatMap rC), A.all ((ss ++ s2).map vwE.own)],
    ⟨_, 0, [], none, 0, tv, cv, rfl, Nat.zero_le _, rfl, rfl, by rw [List.append_nil]; exact k⟩, ?_⟩
  clear k
  rintro m h52 _ i ⟨j, s2, tr, cr, tv, cv, rfl, hj, rfl, hss2, k⟩
  refine ⟨_, _, _, k.rd (by rfl), cond_split (fun hcd => ?_) (fun hcd => ?_)⟩
  · have hjl : j < u.rows.length := Int.ofNat_lt.1 (of_decide_eq_true hcd)
    refine ⟨_, _, _, k.rd (by rfl), ?_⟩
    refine r.rows.one k.ext (by omega) (by omega) fun ad z hz hcz hrd => ⟨_, _, _, hcz 0 _ rfl, ?_⟩
    rw [Int.toNat_natCast] at hz
    have hzl : z.vs.length ≤ 1099511627776 := B.row _ (List.mem_of_getElem? hz)
    have hrd : Ro none_ h z.a (z.vs.flatMap valV) := hrd
    obtain ⟨F', G, kF, kG, d, hF, back⟩ := St.frame (L := [A.blk b15 (taV u ga u.errs.length gc ha u.hits.length hc na u.names.length nc ra u.rows.length rc te u.errs.length ce tn u.names.length cn th u.hits.length ch tr j cr tv (u.hits.length + j) cv).toArray 83, A.vec 112 1 tv (u.hits.length + j) cv ((ss ++ s2).flatMap vc)]) k
    refine CallsH.mono (list_spec kF (hrd.at k.ext hF) rfl hzl (by omega)) ?_
    rintro _ h38 ⟨va, vcc, tv', cv', rfl, k2⟩
    have k := back (L' := [_, _, _]) k2
    clear back kF kG d hF
    have k : St none_ h h38 [A.blk b15 (taV u ga u.errs.length gc ha u.hits.length hc na u.names.length nc ra u.rows.length rc te u.errs.length ce tn u.names.length cn th u.hits.length ch tr j cr tv' (u.hits.length + (j + 1)) cv').toArray 83, A.vec 112 1 tv' (u.hits.length + (j + 1)) cv' ((ss ++ s2).flatMap vc ++ vc ⟨va, vcc, z.vs⟩), vwE.own ⟨va, vcc, z.vs⟩, A.blk b1 (rpV u ga gc ha hc na nc ra rc).toArray 65, A.vec 38 1 te u.errs.length ce (u.errs.map fun n : Int => Value.int .i64 n), A.vec 9 1 tn u.names.length cn (u.names.map strV), A.vec 114 2 th u.hits.length ch ((List.zipWith h3 u.hits ss).flatMap hC), A.vec 112 1 tr j cr (s2.flatMap rC), A.all ((ss ++ s2).map vwE.own)] := k
    refine ⟨_, _, _, rfl, _, _, _, k.rd (by rfl), k.vnew fun b64 h65 k => ?_⟩
    have k := k.sel 10 [0, 8, 1, 2, 3, 4, 5, 6, 7, 9] rfl (by decide) (L' := [A.blk b64 (rC ⟨va, vcc, z.vs⟩).toArray 112, A.vec 112 1 tr j cr (s2.flatMap rC), _, _, _, _, _, _, _, _]) (by rfl)
    refine app1 TR30 k rfl (fun v hv => by simp [rC] at hv; subst hv; rfl) (by omega) fun tr' cr' h47 k => ⟨_, _, _, rfl, k.vst (Nat.le_of_ble_eq_true (by rfl)) fun h49 k => ⟨u.rows.length - (j + 1), by omega, j + 1, s2 ++ [⟨va, vcc, z.vs⟩], tr', cr', tv', cv', wrap_nat hjl (by omega), hjl, rfl, ?_, ?_⟩⟩
    · rw [List.map_append, hss2, take_next hz]; rfl
    · rw [← List.append_assoc, List.flatMap_append (xs := ss ++ s2), List.flatMap_append (xs := s2)]
      -- [tr', b15, vals, own, b1, errs, names, hits, all]
      have k := k.sel 9 [3, 8, 1, 2, 4, 5, 6, 7, 0] rfl (by decide) (L' := [vwE.own ⟨va, vcc, z.vs⟩, A.all ((ss ++ s2).map vwE.own), A.blk b15 (taV u ga u.errs.length gc ha u.hits.length hc na u.names.length nc ra u.rows.length rc te u.errs.length ce tn u.names.length cn th u.hits.length ch tr' (j + 1) cr' tv' (u.hits.length + (j + 1)) cv').toArray 83, _, _, _, _, _, _]) (by rfl)
      have k := (k.allIn).allPerm (L' := (ss ++ s2 ++ [(⟨va, vcc, z.vs⟩ : Sw)]).map vwE.own) (by rw [List.map_append (l₁ := ss ++ s2)]; exact (List.perm_append_singleton _ _).symm)
      exact k.sel 8 [1, 2, 3, 4, 5, 6, 7, 0] rfl (by decide) (L' := [_, _, _, _, _, _, _, _]) (by rfl)
  have hjl : j = u.rows.length := by
    have : ¬ (j : Int) < u.rows.length := of_decide_eq_false hcd
    omega
  subst hjl
  rw [List.take_of_length_le (Nat.le_refl _)] at hss2
  clear hcd hj
  -- the marks
  have k := (k.all0).sel 9 [1, 2, 3, 4, 5, 6, 7, 8, 0] rfl (by decide) (L' := [_, _, _, _, _, _, _, _, _]) (by rfl)
  refine ⟨fun m h' i => ∃ (j : Nat) (ms : List Nat) (te : Option Addr) (ce : Nat) (tn : Option Addr) (cn : Nat) (th : Option Addr) (ch : Nat) (tr : Option Addr) (cr : Nat), i = j ∧ j ≤ 12 ∧ m = 12 - j ∧ ms.length = j ∧
    St none_ h h' [A.blk b15 (taV u ga u.errs.length gc ha u.hits.length hc na u.names.length nc ra u.rows.length rc te (u.errs.length + j) ce tn (u.names.length + j) cn th (u.hits.length + j) ch tr (u.rows.length + j) cr tv (u.hits.length + u.rows.length) cv).toArray 83, A.vec 112 1 tv (u.hits.length + u.rows.length) cv ((ss ++ s2).flatMap vc), A.blk b1 (rpV u ga gc ha hc na nc ra rc).toArray 65, A.vec 38 1 te (u.errs.length + j) ce ((u.errs ++ List.replicate j 777).map fun n : Int => Value.int .i64 n), A.vec 9 1 tn (u.names.length + j) cn ((u.names ++ List.replicate j mkS).map strV), A.vec 114 2 th (u.hits.length + j) ch ((List.zipWith h3 u.hits ss ++ List.replicate j mkH).flatMap hC), A.vec 112 1 tr (u.rows.length + j) cr (s2.flatMap rC ++ ms.flatMap mkRowE.cells), A.all ((ss ++ s2).map vwE.own), A.all (ms.map mkRowE.own)],
    ⟨_, 0, [], te, ce, tn, cn, th, ch, tr, cr, rfl, Nat.zero_le _, rfl, rfl, by rw [List.replicate_zero, List.append_nil, List.replicate_zero, List.append_nil, List.replicate_zero, List.append_nil, List.flatMap_nil, List.append_nil]; exact k⟩, ?_⟩
  clear k
  rintro m h72 _ i ⟨j, ms, te, ce, tn, cn, th, ch, tr, cr, rfl, hj, rfl, hms, k⟩
  refine cond_split (fun hcd => ?_) (fun hcd => ?_)
  · have hjl : j < 12 := by have : (j : Int) < 12 := of_decide_eq_true hcd; omega
    refine ⟨_, _, _, k.rd (by rfl), k.vnew fun b77 h78 k => ?_⟩
    have k := k.sel 10 [0, 4, 1, 2, 3, 5, 6, 7, 8, 9] rfl (by decide) (L' := [A.blk b77 [Value.int .i64 777].toArray 38, A.vec 38 1 te (u.errs.length + j) ce ((u.errs ++ List.replicate j 777).map fun n : Int => Value.int .i64 n), _, _, _, _, _, _, _, _]) (by rfl)
    refine app1 T28 k rfl (fun v hv => by simp at hv; subst hv; rfl) (by omega) fun te' ce' h80 k => ⟨_, _, _, rfl, k.vst (Nat.le_of_ble_eq_true (by rfl)) fun h82 k => ⟨_, _, _, k.rd (by rfl), k.vnew fun b84 h85 k => ?_⟩⟩
    -- [b84, te', b15, vals, b1, tn, th, tr, all, all2]
    have k := k.sel 10 [0, 5, 1, 2, 3, 4, 6, 7, 8, 9] rfl (by decide) (L' := [A.blk b84 [strV mkS].toArray 9, A.vec 9 1 tn (u.names.length + j) cn ((u.names ++ List.replicate j mkS).map strV), _, _, _, _, _, _, _, _]) (by rfl)
    refine app1 T23 k rfl (fun v hv => by simp at hv; subst hv; rfl) (by omega) fun tn' cn' h87 k => ⟨_, _, _, rfl, k.vst (Nat.le_of_ble_eq_true (by rfl)) fun h89 k => ⟨_, _, _, k.rd (by rfl), k.vnew fun b91 h92 k => ?_⟩⟩
    -- [b91, tn', te', b15, vals, b1, th, tr, all, all2]
    have k := k.sel 10 [0, 6, 1, 2, 3, 4, 5, 7, 8, 9] rfl (by decide) (L' := [A.blk b91 (hC mkH).toArray 114, A.vec 114 2 th (u.hits.length + j) ch ((List.zipWith h3 u.hits ss ++ List.replicate j mkH).flatMap hC), _, _, _, _, _, _, _, _]) (by rfl)
    refine app1 T29 k rfl (fun v hv => by simp [hC] at hv; rcases hv with rfl | rfl <;> rfl) (by omega) fun th' ch' h94 k => ⟨_, _, _, rfl, k.vst (Nat.le_of_ble_eq_true (by rfl)) fun h96 k => ⟨_, _, _, k.rd (by rfl), k.vnew fun b98 h99 k => k.vnew fun b100 h101 k => ?_⟩⟩
    -- [b100, b98, th', tn', te', b15, vals, b1, tr, all, all2]
    have k := k.sel 11 [0, 8, 1, 10, 2, 3, 4, 5, 6, 7, 9] rfl (by decide) (L' := [A.blk b100 (mkRowE.cells b98).toArray 112, A.vec 112 1 tr (u.rows.length + j) cr (s2.flatMap rC ++ ms.flatMap mkRowE.cells), mkRowE.own b98, A.all (ms.map mkRowE.own), _, _, _, _, _, _, _]) (by rfl)
    refine app1 TR30 k rfl (mkRowE.one b98) (by omega) fun tr' cr' h103 k => ⟨_, _, _, rfl, k.vst (Nat.le_of_ble_eq_true (by rfl)) fun h105 k => ⟨12 - (j + 1), by omega, j + 1, ms ++ [b98], te', ce', tn', cn', th', ch', tr', cr', wrap_nat hjl (by omega), hjl, rfl, by rw [List.length_append, hms]; rfl, ?_⟩⟩
    have ee : (u.errs ++ List.replicate j 777).map (fun n : Int => Value.int .i64 n) ++ [Value.int .i64 777] = (u.errs ++ List.replicate (j + 1) 777).map fun n : Int => Value.int .i64 n := by
      rw [List.replicate_succ', ← List.append_assoc, List.map_append (l₁ := u.errs ++ List.replicate j 777)]; rfl
    have en : (u.names ++ List.replicate j mkS).map strV ++ [strV mkS] = (u.names ++ List.replicate (j + 1) mkS).map strV := by
      rw [List.replicate_succ', ← List.append_assoc, List.map_append (l₁ := u.names ++ List.replicate j mkS)]; rfl
    have eh : (List.zipWith h3 u.hits ss ++ List.replicate j mkH).flatMap hC ++ hC mkH = (List.zipWith h3 u.hits ss ++ List.replicate (j + 1) mkH).flatMap hC := by
      rw [List.replicate_succ', ← List.append_assoc, List.flatMap_append (xs := List.zipWith h3 u.hits ss ++ List.replicate j mkH)]; rfl
    have er : s2.flatMap rC ++ ms.flatMap mkRowE.cells ++ mkRowE.cells b98 = s2.flatMap rC ++ (ms ++ [b98]).flatMap mkRowE.cells := by
      rw [List.flatMap_append (xs := ms), List.append_assoc]; rfl
    rw [ee, en, eh, er] at k
    -- [tr', own, all2, th', tn', te', b15, vals, b1, all]
    have k := k.sel 10 [1, 2, 6, 7, 8, 5, 4, 3, 0, 9] rfl (by decide) (L' := [mkRowE.own b98, A.all (ms.map mkRowE.own), A.blk b15 (taV u ga u.errs.length gc ha u.hits.length hc na u.names.length nc ra u.rows.length rc te' (u.errs.length + (j + 1)) ce' tn' (u.names.length + (j + 1)) cn' th' (u.hits.length + (j + 1)) ch' tr' (u.rows.length + (j + 1)) cr' tv (u.hits.length + u.rows.length) cv).toArray 83, _, _, _, _, _, _, _]) (by rfl)
    have k := (k.allIn).allPerm (L' := (ms ++ [b98]).map mkRowE.own) (by rw [List.map_append]; exact (List.perm_append_singleton _ _).symm)
    exact k.sel 9 [1, 2, 3, 4, 5, 6, 7, 8, 0] rfl (by decide) (L' := [_, _, _, _, _, _, _, _, _]) (by rfl)
  have hjl : j = 12 := by have : ¬ (j : Int) < 12 := of_decide_eq_false hcd; omega
  subst hjl
  clear hcd hj
  have hce := (St.vec (a := te) k).1.le
  have hcn := (St.vec (a := tn) k).1.le
  have hch := (St.vec (a := th) k).1.le
  have hcr : u.rows.length + 12 ≤ cr := by
    have k := k.sel 9 [6, 0, 1, 2, 3, 4, 5, 7, 8] rfl (by decide) (L' := [A.vec 112 1 tr (u.rows.length + 12) cr (s2.flatMap rC ++ ms.flatMap mkRowE.cells), _, _, _, _, _, _, _, _]) (by rfl)
    exact (St.vec (a := tr) k).1.le
  refine ⟨_, _, _, k.rd (by rfl), _, _, _, k.rd (by rfl), _, _, _, k.rd (by rfl), vfront rfl rfl (by omega) hce (k.vst (Nat.le_of_ble_eq_true (by rfl)) fun h110 k => ?_)⟩
  refine ⟨_, _, _, k.rd (by rfl), _, _, _, k.rd (by rfl), _, _, _, k.rd (by rfl), vfront rfl rfl (by omega) hcn (k.vst (Nat.le_of_ble_eq_true (by rfl)) fun h115 k => ?_)⟩
  refine ⟨_, _, _, k.rd (by rfl), _, _, _, k.rd (by rfl), _, _, _, k.rd (by rfl), vfront rfl rfl (by omega) hch (k.vst (Nat.le_of_ble_eq_true (by rfl)) fun h120 k => ?_)⟩
  refine ⟨_, _, _, k.rd (by rfl), _, _, _, k.rd (by rfl), _, _, _, k.rd (by rfl), vfront rfl rfl (by omega) hcr (k.vst (Nat.le_of_ble_eq_true (by rfl)) fun h125 k => ?_)⟩
  refine ⟨b15, te, ce, tn, cn, th, ch, tr, cr, tv, cv, rfl, k.ext, ⟨(k.slB (b := b15)).ro, hce, hcn, hch, hcr, (k.sl (a := te)).ro, (k.sl (a := tn)).ro, ss, s2, ms, hss, hss2, hms, (k.sl (a := th)).ro, ?_, ?_, ?_, ?_⟩⟩
  · have k := k.sel 9 [6, 0, 1, 2, 3, 4, 5, 7, 8] rfl (by decide) (L' := [A.vec 112 1 tr (u.rows.length + 12) cr (s2.flatMap rC ++ ms.flatMap mkRowE.cells), _, _, _, _, _, _, _, _]) (by rfl)
    exact (k.sl (a := tr)).ro
  · have k := k.sel 9 [1, 0, 2, 3, 4, 5, 6, 7, 8] rfl (by decide) (L' := [A.vec 112 1 tv (u.hits.length + u.rows.length) cv ((ss ++ s2).flatMap vc), _, _, _, _, _, _, _, _]) (by rfl)
    exact (k.sl (a := tv)).ro
  · have ka := k.sel 9 [7, 0, 1, 2, 3, 4, 5, 6, 8] rfl (by decide) (L' := [A.all ((ss ++ s2).map vwE.own), _, _, _, _, _, _, _, _]) (by rfl)
    exact fun s hs => El.all_rd (E := vwE) ka hs
  · have ka := k.sel 9 [8, 0, 1, 2, 3, 4, 5, 6, 7] rfl (by decide) (L' := [A.all (ms.map mkRowE.own), _, _, _, _, _, _, _, _]) (by rfl)
    exact fun b hb => El.all_rd (E := mkRowE) (s := b) ka hb
end Go.Proofs.YtgdgebmlcgohhaaGreatDoor.F
