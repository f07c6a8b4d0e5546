/- A request over, with marks in spare room. Conditions: none. -/
import Derived.Test.YtgdgebmlcgohhaaGreatDoorDH
namespace Go.Proofs.YtgdgebmlcgohhaaGreatDoor.F
open Go Go.VC Go.Proofs
set_option linter.unusedSimpArgs false
set_option linter.unusedVariables false
set_option maxRecDepth 100000
attribute [local irreducible] CallsH RunsTo PureTo

variable {S F G : Nat → Prop} {h0 h h1 : Heap} {L R L' : List A} {a b a1 a2 x ga ha na ra ea : Option Addr} {l c l1 c1 l2 c2 p t b1 lx cx gc hc nc rc ec e sz bt n cv : Nat} {vs news : List Value} {err e1 : Int} {v : Val} {bad bad1 bad2 : Bool} {q : Rq} {u : Rp} {z : Value}
theorem app1 {P : Program} (T : SlTy P t e sz bt z) {bb : Nat} (k : St S h0 h (A.blk bb news.toArray e :: A.vec e sz a l c vs :: R)) (hn : news.length = sz) (hone : ∀ v ∈ news, oneC v = true) (hb : (l + 1) * bt ≤ 140737488355328) {K : KV}
    (q : ∀ a' c' h', St S h0 h' (A.vec e sz a' (l + 1) c' (vs ++ news) :: R) → K (.slice a' (l + 1) c') h') : RunsTo P (Builtin.append_ #[t, t] t #[.slice a l c, .slice (some ⟨bb, 0, none⟩) 1 1]) h K := by
  have hsl : Sl h (some ⟨bb, 0, none⟩) news := k.slB (b := bb)
  refine k.pull1.app T T.ut (by simp) (Src.slice hsl (by rw [hn, Nat.one_mul])) hone hb fun a' c' h' k => q a' c' h' k.pull1.drop
theorem copyV {P : Program} (T : SlTy P t e sz bt z) (hsz : 0 < sz) (k : St S h0 h R) (hs : Sl h x news) (hn : news.length = n * sz) (hone : ∀ v ∈ news, oneC v = true) (hb : n * bt ≤ 140737488355328) {K : KV}
    (q : ∀ a' c' h', St S h0 h' (A.vec e sz a' n c' news :: R) → K (.slice a' n c') h') : RunsTo P (Builtin.append_ #[t, t] t #[.slice none 0 0, .slice x n cx]) h K := by
  refine (k.vnil e (sz := sz) hsz).app T T.ut (by simp) (n := n) (Src.slice hs hn) hone (by rw [Nat.zero_add]; exact hb) fun a' c' h' k => ?_
  rw [Nat.zero_add] at k ⊢
  exact q a' c' h' k
theorem vfront {hi mx : Nat} {y w : Int} (hy : y = hi) (hw : w = mx) (h1 : hi ≤ mx) (h2 : mx ≤ c) {K : Option Addr → Nat → Nat → Prop} (q : K a hi mx) : VSlice sz a c 0 y w K := by
  refine ⟨0, hi, mx, rfl, hy, hw, Nat.zero_le _, h1, h2, ?_⟩
  have e : a.map (·.add (0 * sz)) = a := by
    cases a with
    | none => rfl
    | some ad => rw [Nat.zero_mul]; show some (ad.add 0) = some ad; unfold Addr.add; simp
  rw [e, Nat.sub_zero, Nat.sub_zero, ite_self]
  exact q
abbrev mkV : Val := ⟨77, 0, [], false⟩
abbrev mkS : Bytes := [109, 97, 114, 107]
/-- Twelve marks. -/
def m12 {α : Type} (x : α) : List α := List.replicate 12 x
/-- An event's cells, wherever its values are. -/
structure E3 where
  a : Option Addr
  l : Nat
  c : Nat
  t : Bytes
  tm : Int
def evC (x : E3) : List Value := [.string (bA x.t), .int .i64 x.tm, .slice x.a x.l x.c]
abbrev mkE : E3 := ⟨none, 0, 0, mkS, 0⟩
/-- Values over, with marks behind. -/
structure Sw where
  a : Option Addr
  c : Nat
  vs : List Val
def vc (x : Sw) : List Value := [.slice x.a (x.vs.length + 12) x.c]
abbrev vwE : El (List Val) := ⟨Sw, Sw.vs, 112, 1, vc, fun s => VV s.a (s.vs.length + 12) s.c (s.vs ++ m12 mkV), fun _ => rfl, fun s v hv => by simp [vc] at hv; subst hv; rfl, by omega,
  fun F h s => Ro F h s.a ((s.vs ++ m12 mkV).flatMap valV) ∧ s.vs.length + 12 ≤ s.c, fun r m hf => ⟨r.1.at m hf, r.2⟩, fun {_ _ _ _ s} k => ⟨(k.sl (a := s.a)).ro, (St.vec (a := s.a) k).1.le⟩⟩
def e3 (e : Ev) (s : Sw) : E3 := ⟨s.a, e.vs.length, e.vs.length + 12, e.t, e.tm⟩
theorem oneC_evC (x : E3) : ∀ v ∈ evC x, oneC v = true := fun v hv => by simp [evC] at hv; rcases hv with rfl | rfl | rfl <;> rfl
theorem oneC_strs (xs : List Bytes) : ∀ v ∈ xs.map strV, oneC v = true := fun v hv => by obtain ⟨_, _, rfl⟩ := List.mem_map.1 hv; rfl
theorem oneC_vals (xs : List Val) : ∀ v ∈ xs.flatMap valV, oneC v = true := fun v hv => by
  obtain ⟨y, _, hy⟩ := List.mem_flatMap.1 hv
  exact oneC_val y v hy
theorem vals_len (xs : List Val) : (xs.flatMap valV).length = xs.length * 4 := flatMap_len (f := valV) (sz := 4) (fun _ => rfl) xs
/-- The marks behind values, one by one. -/
theorem marksV {n : Nat} {vs : List Val} (k : St S h0 h (A.vec 127 4 a n c (vs.flatMap valV) :: R)) (hn : vs.length = n) (hb : n ≤ 1099511627776)
    {Q : Option Addr → Nat → Nat → Heap → Prop}
    (q : ∀ a' c' h', St S h0 h' (VV a' (n + 12) c' (vs ++ m12 mkV) :: R) → Q a' (n + 12) c' h') :
    ∃ I32 : Nat → Heap → Option Addr → Nat → Nat → Int → Prop, (∃ n33, I32 n33 h a n c 0) ∧
    ∀ (n33 : Nat) (h34 : Heap) (g35 : Env) (v_36 : Option Addr) (lv_36 cv_36 : Nat) (k_37 : Int), I32 n33 h34 v_36 lv_36 cv_36 k_37 →
    cond (decide (k_37 < (12 : Int)))
    (VNew h34 (.cells #[.int .i64 77, .int .i64 0, .string (ByteArray.mk #[]), .bool false] 127) fun b39 h40 =>
      RunsTo Tryz.prog (Builtin.append_ #[112, 112] 112 #[.slice v_36 lv_36 cv_36, .slice (some ⟨b39, 0, none⟩) 1 1]) h40 fun v41 h42 =>
      ∃ (a43 : Option Addr) (la43 ca43 : Nat), v41 = .slice a43 la43 ca43 ∧
      ∃ m38, m38 < n33 ∧ I32 m38 h42 a43 la43 ca43 (IntKind.i64.wrap (k_37 + 1)))
    (Q v_36 lv_36 cv_36 h34) := by
  refine ⟨fun m h' a' l' c' i => ∃ j : Nat, i = j ∧ j ≤ 12 ∧ m = 12 - j ∧ l' = n + j ∧ St S h0 h' (A.vec 127 4 a' (n + j) c' ((vs ++ List.replicate j mkV).flatMap valV) :: R), ⟨_, 0, rfl, Nat.zero_le _, rfl, rfl, by rw [List.replicate_zero, List.append_nil]; exact k⟩, ?_⟩
  clear k
  rintro m h34 _ a' l' c' i ⟨j, rfl, hj, rfl, rfl, k⟩
  refine cond_split (fun hc => ?_) (fun hc => ?_)
  · have hjl : j < 12 := by have : (j : Int) < 12 := of_decide_eq_true hc; omega
    refine k.vnew fun b39 h40 k => app1 T25 (news := valV mkV) k rfl (oneC_val mkV) (by omega) fun a2 c2 h2 k => ⟨_, _, _, rfl, 12 - (j + 1), by omega, j + 1, wrap_nat hjl (by omega), hjl, rfl, rfl, ?_⟩
    have e : (vs ++ List.replicate j mkV).flatMap valV ++ valV mkV = (vs ++ List.replicate (j + 1) mkV).flatMap valV := by
      rw [List.replicate_succ', ← List.append_assoc, List.flatMap_append (xs := vs ++ List.replicate j mkV)]; simp
    rw [e] at k
    exact k
  · have hjl : j = 12 := by have : ¬ (j : Int) < 12 := of_decide_eq_false hc; omega
    subst hjl
    exact q a' c' h34 k
theorem tex_ro {xs : List Bytes} (r : RoX texE F h a l xs) : Ro F h a (xs.map strV) := by
  obtain ⟨ss, q1, q2, q3, q4⟩ := r
  have key : ∀ ys : List Bytes, ys.flatMap (fun s => [strV s]) = (ys.map id).map strV := fun ys => by
    induction ys with
    | nil => rfl
    | cons y ys ih => rw [List.flatMap_cons, ih]; rfl
  rw [← q3]
  exact (key ss) ▸ q1
/-- A twin's parts. -/
abbrev twV (q : Rq) (na : Option Addr) (nl nc : Nat) (ea : Option Addr) (el ec : Nat) (tn : Option Addr) (ln cn : Nat) (te : Option Addr) (le ce : Nat) (tv : Option Addr) (lv cv : Nat) : List Value :=
  [.int .u32 (q.id : Int), .int .i64 q.k, .string (bA q.name), .string (bA q.text), .slice na nl nc, .slice ea el ec, .slice tn ln cn, .slice te le ce, .slice tv lv cv]
/-- A twin in memory, to be read. -/
structure Tw (h : Heap) (q : Rq) (tn te tv : Option Addr) : Prop where
  names : Ro none_ h tn ((q.names ++ m12 mkS).map strV)
  rest : ∃ ss : List Sw, ss.map (·.vs) = q.evs.map (·.vs) ∧ Ro none_ h te ((List.zipWith e3 q.evs ss ++ m12 mkE).flatMap evC) ∧ Ro none_ h tv (ss.flatMap vc) ∧ ∀ s ∈ ss, Ro none_ h s.a ((s.vs ++ m12 mkV).flatMap valV) ∧ s.vs.length + 12 ≤ s.c
theorem zip_next {es : List Ev} {ss : List Sw} {j : Nat} {y : Ev} {s : Sw} (hs : ss.length = j) (hy : es[j]? = some y) : List.zipWith e3 (es.take (j + 1)) (ss ++ [s]) = List.zipWith e3 (es.take j) ss ++ [e3 y s] := by
  rw [take_next hy, List.zipWith_append (by rw [List.length_take]; have := (List.getElem?_eq_some_iff.1 hy).1; omega)]
  rfl
set_option maxHeartbeats 4000000 in
theorem twinOf_spec (hN : q.names.length ≤ 1099511627776) (hE : q.evs.length ≤ 1099511627776) (hV : ∀ e ∈ q.evs, e.vs.length ≤ 1099511627776) (r : RqRo none_ h q na ea) : CallsH Tryz.prog 28 #[aggQ q na nc ea ec] h
    (fun v h' => ∃ tn cn te ce tv cv, v = .agg (twV q tn q.names.length (q.names.length + 12) te q.evs.length (q.evs.length + 12) tn (q.names.length + 12) cn te (q.evs.length + 12) ce tv q.evs.length cv).toArray ∧ q.names.length + 12 ≤ cn ∧ q.evs.length + 12 ≤ ce ∧ Ext h h' ∧ Tw h' q tn te tv) := by
  refine vf28 _ _ _ _ _ _ _ _ _ _ h _ ?_
  unfold F28
  have k := St.fresh h
  refine k.vnew fun b1 h2 k => k.vnew fun b3 h4 k => ?_
  refine ⟨_, k.rd (by rfl), _, k.rd (by rfl), _, k.rd (by rfl), _, k.rd (by rfl), _, _, _, k.rd (by rfl), _, _, _, k.rd (by rfl), k.vnew fun b11 h12 k => k.vall (by rfl) (by rfl) fun h13 k => ⟨_, _, _, k.rd (by rfl), ?_⟩⟩
  have k : St none_ h h13 [A.blk b11 (twV q na q.names.length nc ea q.evs.length ec none 0 0 none 0 0 none 0 0).toArray 77, A.blk b3 (twV noRq none 0 0 none 0 0 none 0 0 none 0 0 none 0 0).toArray 77, RqB b1 q na nc ea ec] := k
  have hnr := tex_ro r.names
  refine copyV T23 (by omega) (n := q.names.length) k (hnr.mod k.ext).sl (by rw [List.length_map, Nat.mul_one]) (oneC_strs _) (by omega) fun tn cn h16 k => ⟨_, _, _, rfl, k.vst (Nat.le_of_ble_eq_true (by rfl)) fun h18 k => ?_⟩
  have k := k.reB (b := b11) (twV q na q.names.length nc ea q.evs.length ec tn q.names.length cn none 0 0 none 0 0).toArray (by rfl)
  have k := ((k.vnil 112 (sz := 1) (by omega)).vnil 125 (sz := 3) (by omega)).all0
  -- [all, te, tv, tn, b11, b3, b1]
  have k := k.sel 7 [4, 6, 5, 3, 1, 2, 0] rfl (by decide) (L' := [A.blk b11 (twV q na q.names.length nc ea q.evs.length ec tn q.names.length cn none 0 0 none 0 0).toArray 77, RqB b1 q na nc ea ec, _, A.vec 9 1 tn q.names.length cn (q.names.map strV), A.vec 125 3 none 0 0 [], A.vec 112 1 none 0 0 [], _]) (by rfl)
  refine ⟨fun m h' i => ∃ (j : Nat) (ss : List Sw) (te : Option Addr) (ce : Nat) (tv : Option Addr) (cv : Nat), i = j ∧ j ≤ q.evs.length ∧ m = q.evs.length - j ∧ ss.map (·.vs) = (q.evs.take j).map (·.vs) ∧
    St none_ h h' [A.blk b11 (twV q na q.names.length nc ea q.evs.length ec tn q.names.length cn te j ce tv j cv).toArray 77, RqB b1 q na nc ea ec, A.blk b3 (twV noRq none 0 0 none 0 0 none 0 0 none 0 0 none 0 0).toArray 77, A.vec 9 1 tn q.names.length cn (q.names.map strV), A.vec 125 3 te j ce ((List.zipWith e3 (q.evs.take j) ss).flatMap evC), A.vec 112 1 tv j cv (ss.flatMap vc), A.all (ss.map vwE.own)],
    ⟨_, 0, [], none, 0, none, 0, rfl, Nat.zero_le _, rfl, rfl, k⟩, ?_⟩
  clear k
  rintro m h21 _ i ⟨j, ss, te, ce, tv, cv, rfl, hj, rfl, hss, k⟩
  refine ⟨_, _, _, k.rd (by rfl), cond_split (fun hc => ?_) (fun hc => ?_)⟩
  · have hjl : j < q.evs.length := Int.ofNat_lt.1 (of_decide_eq_true hc)
    have hsl : ss.length = j := by
      have := congrArg List.length hss
      rw [List.length_map, List.length_map, List.length_take] at this
      omega
    refine ⟨_, _, _, k.rd (by rfl), ?_⟩
    refine r.evs.one k.ext (by omega) (by omega) fun ad z hz hcz hrd => ⟨_, _, _, hcz 2 _ rfl, ?_⟩
    rw [Int.toNat_natCast] at hz
    have hzl : z.e.vs.length ≤ 1099511627776 := hV _ (List.mem_of_getElem? hz)
    have hrd : Ro none_ h z.a (z.e.vs.flatMap valV) := hrd
    refine copyV T25 (by omega) (n := z.e.vs.length) k (hrd.mod k.ext).sl (vals_len _) (oneC_vals _) (by omega) fun va c0 h30 k => ⟨_, _, _, rfl, ?_⟩
    refine marksV k rfl hzl fun va vcc h34 k => ?_
    have hvl := (St.vec (a := va) k).1.le
    refine ⟨_, _, _, k.rd (by rfl), ?_⟩
    refine r.evs.one k.ext (by omega) (by omega) fun ad2 z2 hz2 hcz2 hrd2 => ⟨_, hcz2 0 _ rfl, _, hcz2 1 _ rfl, _, _, _, hcz2 2 _ rfl, ?_⟩
    rw [Int.toNat_natCast] at hz2
    have e2 : z2.e = z.e := Option.some.inj (hz2.symm.trans hz)
    rw [e2]
    refine k.vnew fun b49 h50 k => k.vall (by rfl) (by rfl) fun h51 k => ⟨_, _, _, k.rd (by rfl), ?_⟩
    refine r.evs.one k.ext (by omega) (by omega) fun ad3 z3 hz3 hcz3 hrd3 => ⟨_, _, _, hcz3 2 _ rfl, ?_⟩
    rw [Int.toNat_natCast] at hz3
    have e3' : z3.e = z.e := Option.some.inj (hz3.symm.trans hz)
    rw [e3']
    refine vfront rfl rfl (by omega) hvl (k.vst (Nat.le_of_ble_eq_true (by rfl)) fun h56 k => ⟨_, _, _, k.rd (by rfl), k.vnew fun b58 h59 k => ?_⟩)
    have k := k.sel 10 [0, 8, 1, 2, 3, 4, 5, 6, 7, 9] rfl (by decide) (L' := [A.blk b58 (vc ⟨va, vcc, z.e.vs⟩).toArray 112, A.vec 112 1 tv j cv (ss.flatMap vc), _, _, _, _, _, _, _, _]) (by rfl)
    refine app1 TR30 k rfl (fun v hv => by simp [vc] at hv; subst hv; rfl) (by omega) fun tv' cv' h61 k => ⟨_, _, _, rfl, k.vst (Nat.le_of_ble_eq_true (by rfl)) fun h63 k => ?_⟩
    refine ⟨_, _, _, k.rd (by rfl), _, k.rd (by rfl), _, k.rd (by rfl), _, _, _, k.rd (by rfl), k.vnew fun b68 h69 k => ?_⟩
    -- [b68, tv', b49, VV, b11, b1, b3, tn, te, all]
    have k := k.sel 10 [0, 8, 1, 2, 3, 4, 5, 6, 7, 9] rfl (by decide) (L' := [A.blk b68 (evC (e3 z.e ⟨va, vcc, z.e.vs⟩)).toArray 125, A.vec 125 3 te j ce ((List.zipWith e3 (q.evs.take j) ss).flatMap evC), _, _, _, _, _, _, _, _]) (by rfl)
    refine app1 T24 k rfl (oneC_evC _) (by omega) fun te' ce' h71 k => ⟨_, _, _, rfl, k.vst (Nat.le_of_ble_eq_true (by rfl)) fun h73 k => ⟨q.evs.length - (j + 1), by omega, j + 1, ss ++ [⟨va, vcc, z.e.vs⟩], te', ce', tv', cv', wrap_nat hjl (by omega), hjl, rfl, ?_, ?_⟩⟩
    · rw [List.map_append, hss, take_next hz, List.map_append]; rfl
    · rw [zip_next hsl hz, List.flatMap_append, List.flatMap_append]
      -- [te', tv', b49, VV, b11, b1, b3, tn, all]
      have k := k.sel 9 [3, 8, 4, 5, 6, 7, 0, 1, 2] rfl (by decide) (L' := [vwE.own ⟨va, vcc, z.e.vs⟩, A.all (ss.map vwE.own), A.blk b11 (twV q na q.names.length nc ea q.evs.length ec tn q.names.length cn te' (j + 1) ce' tv' (j + 1) cv').toArray 77, _, _, _, _, _, _]) (by rfl)
      have k := (k.allIn).allPerm (L' := (ss ++ [(⟨va, vcc, z.e.vs⟩ : Sw)]).map vwE.own) (by rw [List.map_append]; exact (List.perm_append_singleton _ _).symm)
      exact (k.sel 8 [7, 1, 2, 3, 4, 5, 6, 0] rfl (by decide) (L' := [_, _, _, _, _, _, _, _]) (by rfl)).drop
  have hjl : j = q.evs.length := by
    have : ¬ (j : Int) < q.evs.length := of_decide_eq_false hc
    omega
  subst hjl
  rw [List.take_of_length_le (Nat.le_refl _)] at k hss
  clear hc hj
  refine ⟨fun m h' i => ∃ (j : Nat) (tn : Option Addr) (cn : Nat) (te : Option Addr) (ce : Nat), i = j ∧ j ≤ 12 ∧ m = 12 - j ∧
    St none_ h h' [A.blk b11 (twV q na q.names.length nc ea q.evs.length ec tn (q.names.length + j) cn te (q.evs.length + j) ce tv q.evs.length cv).toArray 77, RqB b1 q na nc ea ec, A.blk b3 (twV noRq none 0 0 none 0 0 none 0 0 none 0 0 none 0 0).toArray 77, A.vec 9 1 tn (q.names.length + j) cn ((q.names ++ List.replicate j mkS).map strV), A.vec 125 3 te (q.evs.length + j) ce ((List.zipWith e3 q.evs ss ++ List.replicate j mkE).flatMap evC), A.vec 112 1 tv q.evs.length cv (ss.flatMap vc), A.all (ss.map vwE.own)],
    ⟨_, 0, tn, cn, te, ce, rfl, Nat.zero_le _, rfl, by rw [List.replicate_zero, List.append_nil, List.replicate_zero, List.append_nil]; exact k⟩, ?_⟩
  clear k
  rintro m h76 _ i ⟨j, tn, cn, te, ce, rfl, hj, rfl, k⟩
  refine cond_split (fun hc => ?_) (fun hc => ?_)
  · have hjl : j < 12 := by have : (j : Int) < 12 := of_decide_eq_true hc; omega
    refine ⟨_, _, _, k.rd (by rfl), k.vnew fun b81 h82 k => ?_⟩
    have k := k.sel 8 [0, 4, 1, 2, 3, 5, 6, 7] rfl (by decide) (L' := [A.blk b81 [strV mkS].toArray 9, A.vec 9 1 tn (q.names.length + j) cn ((q.names ++ List.replicate j mkS).map strV), _, _, _, _, _, _]) (by rfl)
    refine app1 T23 k rfl (fun v hv => by simp at hv; subst hv; rfl) (by omega) fun tn' cn' h84 k => ⟨_, _, _, rfl, k.vst (Nat.le_of_ble_eq_true (by rfl)) fun h86 k => ⟨_, _, _, k.rd (by rfl), k.vnew fun b88 h89 k => ?_⟩⟩
    -- [b88, tn', b11, b1, b3, te, tv, all]
    have k := k.sel 8 [0, 5, 1, 2, 3, 4, 6, 7] rfl (by decide) (L' := [A.blk b88 (evC mkE).toArray 125, A.vec 125 3 te (q.evs.length + j) ce ((List.zipWith e3 q.evs ss ++ List.replicate j mkE).flatMap evC), _, _, _, _, _, _]) (by rfl)
    refine app1 T24 k rfl (oneC_evC _) (by omega) fun te' ce' h91 k => ⟨_, _, _, rfl, k.vst (Nat.le_of_ble_eq_true (by rfl)) fun h93 k => ⟨12 - (j + 1), by omega, j + 1, tn', cn', te', ce', wrap_nat hjl (by omega), hjl, rfl, ?_⟩⟩
    have en : (q.names ++ List.replicate j mkS).map strV ++ [strV mkS] = (q.names ++ List.replicate (j + 1) mkS).map strV := by
      rw [List.replicate_succ', ← List.append_assoc, List.map_append (l₁ := q.names ++ List.replicate j mkS)]; rfl
    have ee : (List.zipWith e3 q.evs ss ++ List.replicate j mkE).flatMap evC ++ evC mkE = (List.zipWith e3 q.evs ss ++ List.replicate (j + 1) mkE).flatMap evC := by
      rw [List.replicate_succ', ← List.append_assoc, List.flatMap_append (xs := List.zipWith e3 q.evs ss ++ List.replicate j mkE)]; rfl
    rw [en, ee] at k
    -- [te', tn', b11, b1, b3, tv, all]
    exact k.sel 7 [2, 3, 4, 1, 0, 5, 6] rfl (by decide) (L' := [A.blk b11 (twV q na q.names.length nc ea q.evs.length ec tn' (q.names.length + (j + 1)) cn' te' (q.evs.length + (j + 1)) ce' tv q.evs.length cv).toArray 77, _, _, _, _, _, _]) (by rfl)
  have hjl : j = 12 := by have : ¬ (j : Int) < 12 := of_decide_eq_false hc; omega
  subst hjl
  clear hc hj
  have hcn := (St.vec (a := tn) k).1.le
  have hce := (St.vec (a := te) k).1.le
  refine ⟨_, _, _, k.rd (by rfl), _, _, _, k.rd (by rfl), _, _, _, k.rd (by rfl), vfront rfl rfl (by omega) hcn (k.vst (Nat.le_of_ble_eq_true (by rfl)) fun h98 k => ?_)⟩
  refine ⟨_, _, _, k.rd (by rfl), _, _, _, k.rd (by rfl), _, _, _, k.rd (by rfl), vfront rfl rfl (by omega) hce (k.vst (Nat.le_of_ble_eq_true (by rfl)) fun h103 k => ?_)⟩
  refine ⟨_, k.rd (by rfl), _, k.rd (by rfl), _, k.rd (by rfl), _, k.rd (by rfl), _, _, _, k.rd (by rfl), _, _, _, k.rd (by rfl), _, _, _, k.rd (by rfl), _, _, _, k.rd (by rfl), _, _, _, k.rd (by rfl), k.vall (by rfl) (by rfl) fun h113 k => ?_⟩
  refine ⟨_, k.rd (by rfl), _, k.rd (by rfl), _, k.rd (by rfl), _, k.rd (by rfl), _, _, _, k.rd (by rfl), _, _, _, k.rd (by rfl), _, _, _, k.rd (by rfl), _, _, _, k.rd (by rfl), _, _, _, k.rd (by rfl), ?_⟩
  refine ⟨tn, cn, te, ce, tv, cv, rfl, hcn, hce, k.ext, ⟨(k.sl (a := tn)).ro, ss, hss, (k.sl (a := te)).ro, (k.sl (a := tv)).ro, ?_⟩⟩
  have ka := k.sel 7 [6, 0, 1, 2, 3, 4, 5] rfl (by decide) (L' := [A.all (ss.map vwE.own), _, _, _, _, _, _]) (by rfl)
  exact fun s hs => El.all_rd (E := vwE) ka hs
end Go.Proofs.YtgdgebmlcgohhaaGreatDoor.F
