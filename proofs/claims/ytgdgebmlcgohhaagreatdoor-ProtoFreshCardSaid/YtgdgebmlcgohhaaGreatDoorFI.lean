/- A request and a reply over, in memory of their own. Conditions: none. -/
import Derived.Test.YtgdgebmlcgohhaaGreatDoorFH
namespace Go.Proofs.YtgdgebmlcgohhaaGreatDoor.F
open Go Go.VC Go.Proofs
set_option linter.unusedSimpArgs false
set_option linter.unusedVariables false
set_option maxRecDepth 100000
attribute [local irreducible] CallsH RunsTo PureTo

/-- Memory that keeps something true. -/
def _root_.Go.VC.A.of (Q : Heap → Prop) : A where
  P F h := (∀ b, F b → b < h.size) ∧ ∀ h', (∀ b, F b → h'[b]? = h[b]?) → Q h'
  loc F h h' k e := ⟨fun b hb => by
    have h1 := k.1 b hb
    have h2 := e b hb
    rw [Array.getElem?_eq_getElem h1] at h2
    exact (Array.getElem?_eq_some_iff.1 h2).1, fun h2 e2 => k.2 h2 fun b hb => (e2 b hb).trans (e b hb)⟩
  lt F h k := k.1
theorem _root_.Go.VC.St.own_ {S : Nat → Prop} {h0 h : Heap} {L : List A} {Q : Heap → Prop} (k : St S h0 h L) (q : ∀ (F : Nat → Prop) (h : Heap), St F h h L → Q h) : St S h0 h [A.of Q] := by
  obtain ⟨F, hh, hf⟩ := k.own
  exact ⟨k.ext, F, .mk1 ⟨hh.lt, fun h' e => q F h' (St.start (hh.loc e))⟩, hf⟩
theorem _root_.Go.VC.St.of {S : Nat → Prop} {h0 h : Heap} {R : List A} {Q : Heap → Prop} (k : St S h0 h (A.of Q :: R)) : Q h := by
  obtain ⟨F, hh, hf⟩ := k.own
  obtain ⟨F1, F2, k1, k2, d, e⟩ := hh
  exact k1.2 h fun _ _ => rfl
theorem _root_.Go.VC.St.of_mono {S : Nat → Prop} {h0 h : Heap} {R : List A} {Q Q' : Heap → Prop} (k : St S h0 h (A.of Q :: R)) (q : ∀ h, Q h → Q' h) : St S h0 h (A.of Q' :: R) :=
  k.turn (L := [A.of Q']) fun F k1 => ⟨F, .mk1 ⟨k1.1, fun h' e => q _ (k1.2 h' e)⟩, fun _ => id⟩
section
variable {S F G : Nat → Prop} {h0 h h1 : Heap} {L R L' : List A} {a b a1 a2 x ga ha na ra ea : Option Addr} {l c l1 c1 l2 c2 p t b1 lx cx gc hc nc rc ec e sz bt n cv : Nat} {vs news : List Value} {err e1 : Int} {v : Val} {bad bad1 bad2 : Bool} {q : Rq} {u : Rp} {z : Value}
theorem app1 {P : Program} (T : SlTy P t e sz bt z) {bb : Nat} (k : St S h0 h (A.blk bb news.toArray e :: A.vec e sz a l c vs :: R)) (hn : news.length = sz) (hone : ∀ v ∈ news, oneC v = true) (hb : (l + 1) * bt ≤ 140737488355328) {K : KV}
    (q : ∀ a' c' h', St S h0 h' (A.vec e sz a' (l + 1) c' (vs ++ news) :: R) → K (.slice a' (l + 1) c') h') : RunsTo P (Builtin.append_ #[t, t] t #[.slice a l c, .slice (some ⟨bb, 0, none⟩) 1 1]) h K := by
  have hsl : Sl h (some ⟨bb, 0, none⟩) news := k.slB (b := bb)
  refine k.pull1.app T T.ut (by simp) (Src.slice hsl (by rw [hn, Nat.one_mul])) hone hb fun a' c' h' k => q a' c' h' k.pull1.drop
theorem copyV {P : Program} (T : SlTy P t e sz bt z) (hsz : 0 < sz) (k : St S h0 h R) (hs : Sl h x news) (hn : news.length = n * sz) (hone : ∀ v ∈ news, oneC v = true) (hb : n * bt ≤ 140737488355328) {K : KV}
    (q : ∀ a' c' h', St S h0 h' (A.vec e sz a' n c' news :: R) → K (.slice a' n c') h') : RunsTo P (Builtin.append_ #[t, t] t #[.slice none 0 0, .slice x n cx]) h K := by
  refine (k.vnil e (sz := sz) hsz).app T T.ut (by simp) (n := n) (Src.slice hs hn) hone (by rw [Nat.zero_add]; exact hb) fun a' c' h' k => ?_
  rw [Nat.zero_add] at k ⊢
  exact q a' c' h' k
theorem vfront {hi mx : Nat} {y w : Int} (hy : y = hi) (hw : w = mx) (h1 : hi ≤ mx) (h2 : mx ≤ c) {K : Option Addr → Nat → Nat → Prop} (q : K a hi mx) : VSlice sz a c 0 y w K := by
  refine ⟨0, hi, mx, rfl, hy, hw, Nat.zero_le _, h1, h2, ?_⟩
  have e : a.map (·.add (0 * sz)) = a := by
    cases a with
    | none => rfl
    | some ad => rw [Nat.zero_mul]; show some (ad.add 0) = some ad; unfold Addr.add; simp
  rw [e, Nat.sub_zero, Nat.sub_zero, ite_self]
  exact q
abbrev mkV : Val := ⟨77, 0, [], false⟩
abbrev mkS : Bytes := [109, 97, 114, 107]
/-- Twelve marks. -/
def m12 {α : Type} (x : α) : List α := List.replicate 12 x
/-- An event's cells, wherever its values are. -/
structure E3 where
  a : Option Addr
  l : Nat
  c : Nat
  t : Bytes
  tm : Int
def evC (x : E3) : List Value := [.string (bA x.t), .int .i64 x.tm, .slice x.a x.l x.c]
abbrev mkE : E3 := ⟨none, 0, 0, mkS, 0⟩
/-- Values over, with marks behind. -/
structure Sw where
  a : Option Addr
  c : Nat
  vs : List Val
def vc (x : Sw) : List Value := [.slice x.a (x.vs.length + 12) x.c]
abbrev vwE : El (List Val) := ⟨Sw, Sw.vs, 112, 1, vc, fun s => VV s.a (s.vs.length + 12) s.c (s.vs ++ m12 mkV), fun _ => rfl, fun s v hv => by simp [vc] at hv; subst hv; rfl, by omega,
  fun F h s => Ro F h s.a ((s.vs ++ m12 mkV).flatMap valV) ∧ s.vs.length + 12 ≤ s.c, fun r m hf => ⟨r.1.at m hf, r.2⟩, fun {_ _ _ _ s} k => ⟨(k.sl (a := s.a)).ro, (St.vec (a := s.a) k).1.le⟩⟩
def e3 (e : Ev) (s : Sw) : E3 := ⟨s.a, e.vs.length, e.vs.length + 12, e.t, e.tm⟩
theorem oneC_evC (x : E3) : ∀ v ∈ evC x, oneC v = true := fun v hv => by simp [evC] at hv; rcases hv with rfl | rfl | rfl <;> rfl
theorem oneC_strs (xs : List Bytes) : ∀ v ∈ xs.map strV, oneC v = true := fun v hv => by obtain ⟨_, _, rfl⟩ := List.mem_map.1 hv; rfl
theorem oneC_vals (xs : List Val) : ∀ v ∈ xs.flatMap valV, oneC v = true := fun v hv => by
  obtain ⟨y, _, hy⟩ := List.mem_flatMap.1 hv
  exact oneC_val y v hy
theorem vals_len (xs : List Val) : (xs.flatMap valV).length = xs.length * 4 := flatMap_len (f := valV) (sz := 4) (fun _ => rfl) xs
/-- The marks behind values, one by one. -/
theorem marksV {n : Nat} {vs : List Val} (k : St S h0 h (A.vec 127 4 a n c (vs.flatMap valV) :: R)) (hn : vs.length = n) (hb : n ≤ 1099511627776)
    {Q : Option Addr → Nat → Nat → Heap → Prop}
    (q : ∀ a' c' h', St S h0 h' (VV a' (n + 12) c' (vs ++ m12 mkV) :: R) → Q a' (n + 12) c' h') :
    ∃ I32 : Nat → Heap → Option Addr → Nat → Nat → Int → Prop, (∃ n33, I32 n33 h a n c 0) ∧
    ∀ (n33 : Nat) (h34 : Heap) (g35 : Env) (v_36 : Option Addr) (lv_36 cv_36 : Nat) (k_37 : Int), I32 n33 h34 v_36 lv_36 cv_36 k_37 →
    cond (decide (k_37 < (12 : Int)))
    (VNew h34 (.cells #[.int .i64 77, .int .i64 0, .string (ByteArray.mk #[]), .bool false] 127) fun b39 h40 =>
      RunsTo Tryz.prog (Builtin.append_ #[112, 112] 112 #[.slice v_36 lv_36 cv_36, .slice (some ⟨b39, 0, none⟩) 1 1]) h40 fun v41 h42 =>
      ∃ (a43 : Option Addr) (la43 ca43 : Nat), v41 = .slice a43 la43 ca43 ∧
      ∃ m38, m38 < n33 ∧ I32 m38 h42 a43 la43 ca43 (IntKind.i64.wrap (k_37 + 1)))
    (Q v_36 lv_36 cv_36 h34) := by
  refine ⟨fun m h' a' l' c' i => ∃ j : Nat, i = j ∧ j ≤ 12 ∧ m = 12 - j ∧ l' = n + j ∧ St S h0 h' (A.vec 127 4 a' (n + j) c' ((vs ++ List.replicate j mkV).flatMap valV) :: R), ⟨_, 0, rfl, Nat.zero_le _, rfl, rfl, by rw [List.replicate_zero, List.append_nil]; exact k⟩, ?_⟩
  clear k
  rintro m h34 _ a' l' c' i ⟨j, rfl, hj, rfl, rfl, k⟩
  refine cond_split (fun hc => ?_) (fun hc => ?_)
  · have hjl : j < 12 := by have : (j : Int) < 12 := of_decide_eq_true hc; omega
    refine k.vnew fun b39 h40 k => app1 T25 (news := valV mkV) k rfl (oneC_val mkV) (by omega) fun a2 c2 h2 k => ⟨_, _, _, rfl, 12 - (j + 1), by omega, j + 1, wrap_nat hjl (by omega), hjl, rfl, rfl, ?_⟩
    have e : (vs ++ List.replicate j mkV).flatMap valV ++ valV mkV = (vs ++ List.replicate (j + 1) mkV).flatMap valV := by
      rw [List.replicate_succ', ← List.append_assoc, List.flatMap_append (xs := vs ++ List.replicate j mkV)]; simp
    rw [e] at k
    exact k
  · have hjl : j = 12 := by have : ¬ (j : Int) < 12 := of_decide_eq_false hc; omega
    subst hjl
    exact q a' c' h34 k
theorem tex_ro {xs : List Bytes} (r : RoX texE F h a l xs) : Ro F h a (xs.map strV) := by
  obtain ⟨ss, q1, q2, q3, q4⟩ := r
  have key : ∀ ys : List Bytes, ys.flatMap (fun s => [strV s]) = (ys.map id).map strV := fun ys => by
    induction ys with
    | nil => rfl
    | cons y ys ih => rw [List.flatMap_cons, ih]; rfl
  rw [← q3]
  exact (key ss) ▸ q1
/-- A twin's parts. -/
abbrev twV (q : Rq) (na : Option Addr) (nl nc : Nat) (ea : Option Addr) (el ec : Nat) (tn : Option Addr) (ln cn : Nat) (te : Option Addr) (le ce : Nat) (tv : Option Addr) (lv cv : Nat) : List Value :=
  [.int .u32 (q.id : Int), .int .i64 q.k, .string (bA q.name), .string (bA q.text), .slice na nl nc, .slice ea el ec, .slice tn ln cn, .slice te le ce, .slice tv lv cv]
/-- A twin in memory, to be read. -/
structure Tw (h : Heap) (q : Rq) (tn te tv : Option Addr) : Prop where
  names : Ro none_ h tn ((q.names ++ m12 mkS).map strV)
  rest : ∃ ss : List Sw, ss.map (·.vs) = q.evs.map (·.vs) ∧ Ro none_ h te ((List.zipWith e3 q.evs ss ++ m12 mkE).flatMap evC) ∧ Ro none_ h tv (ss.flatMap vc) ∧ ∀ s ∈ ss, Ro none_ h s.a ((s.vs ++ m12 mkV).flatMap valV) ∧ s.vs.length + 12 ≤ s.c
theorem zip_next {es : List Ev} {ss : List Sw} {j : Nat} {y : Ev} {s : Sw} (hs : ss.length = j) (hy : es[j]? = some y) : List.zipWith e3 (es.take (j + 1)) (ss ++ [s]) = List.zipWith e3 (es.take j) ss ++ [e3 y s] := by
  rw [take_next hy, List.zipWith_append (by rw [List.length_take]; have := (List.getElem?_eq_some_iff.1 hy).1; omega)]
  rfl
end
section
variable {S F G : Nat → Prop} {h0 h h1 : Heap} {L R L' : List A} {a b a1 a2 x ga ha na ra ea tn te tv : Option Addr} {l c l1 c1 l2 c2 p t b1 lx cx gc hc nc rc ec e sz bt n cn ce cv : Nat} {vs news : List Value} {err e1 : Int} {v : Val} {bad bad1 bad2 : Bool} {q : Rq} {u : Rp} {z : Value}
theorem tex_of {xs : List Bytes} (r : Ro F h a (xs.map strV)) (hl : xs.length = l) : RoX texE F h a l xs := by
  have key : ∀ ys : List Bytes, ys.map strV = ys.flatMap fun s => [strV s] := fun ys => by
    induction ys with
    | nil => rfl
    | cons y ys ih => rw [List.flatMap_cons, ← ih]; rfl
  exact ⟨xs, (key xs) ▸ r, fun _ _ => trivial, List.map_id xs, hl⟩
theorem Tw.at (k : Tw h q tn te tv) (m : Ext h h1) : Tw h1 q tn te tv := by
  obtain ⟨k1, ss, k2, k3, k4, k5⟩ := k
  have hf : ∀ b, none_ b → False ∨ h.size ≤ b := fun _ h => h.elim
  exact ⟨k1.at m hf, ss, k2, k3.at m hf, k4.at m hf, fun s hs => ⟨(k5 s hs).1.at m hf, (k5 s hs).2⟩⟩
theorem zip_map {es : List Ev} : ∀ {ss : List Sw}, ss.map (·.vs) = es.map (·.vs) → (List.zipWith e3 es ss).map (fun x => x.tm) = es.map (·.tm) ∧ (List.zipWith e3 es ss).length = es.length := by
  induction es with
  | nil => intro ss h; cases ss with
    | nil => exact ⟨rfl, rfl⟩
    | cons s ss => cases h
  | cons y es ih =>
    intro ss h
    cases ss with
    | nil => cases h
    | cons s ss =>
      simp only [List.map_cons, List.cons.injEq] at h
      obtain ⟨i1, i2⟩ := ih h.2
      simp only [List.zipWith_cons_cons, List.map_cons, List.length_cons, i1, i2]
      exact ⟨rfl, trivial⟩
/-- The twin's parts are the request's. -/
theorem Tw.ro (k : Tw h q tn te tv) : RqRo none_ h q tn te := by
  obtain ⟨k1, ss, k2, k3, k4, k5⟩ := k
  refine ⟨tex_of (by rw [List.map_append] at k1; exact k1.pre) rfl, ?_⟩
  rw [List.flatMap_append] at k3
  have key : ∀ (es : List Ev) (ss : List Sw), ss.map (·.vs) = es.map (·.vs) → ∃ us : List Se, (List.zipWith e3 es ss).flatMap evC = us.flatMap seV ∧ us.map (·.e) = es ∧ ∀ x ∈ us, ∃ s ∈ ss, x.a = s.a ∧ x.e.vs = s.vs := fun es => by
    induction es with
    | nil => intro ss h; cases ss with
      | nil => exact ⟨[], rfl, rfl, fun x hx => by cases hx⟩
      | cons s ss => cases h
    | cons y es ih =>
      intro ss h
      cases ss with
      | nil => cases h
      | cons s ss =>
        simp only [List.map_cons, List.cons.injEq] at h
        obtain ⟨us, u1, u2, u3⟩ := ih ss h.2
        refine ⟨⟨s.a, y.vs.length + 12, y⟩ :: us, ?_, ?_, ?_⟩
        · rw [List.zipWith_cons_cons, List.flatMap_cons, List.flatMap_cons, u1]; rfl
        · rw [List.map_cons, u2]
        · intro x hx
          rcases List.mem_cons.1 hx with rfl | hx
          · exact ⟨s, by simp, rfl, h.1.symm⟩
          · obtain ⟨s', hs', e⟩ := u3 x hx
            exact ⟨s', by simp [hs'], e⟩
  obtain ⟨us, u1, u2, u3⟩ := key q.evs ss k2
  refine ⟨us, by rw [← u1]; exact k3.pre, fun x hx => ?_, u2, rfl⟩
  obtain ⟨s, hs, ea, ev⟩ := u3 x hx
  have := (k5 s hs).1
  rw [List.flatMap_append] at this
  show Ro none_ h x.a (x.e.vs.flatMap valV)
  rw [ea, ev]; exact this.pre
theorem m12_at {α : Type} (x : α) {xs : List α} {i : Nat} (h : i < 12) : (xs ++ m12 x)[xs.length + i]? = some x := by
  rw [List.getElem?_append_right (by omega), Nat.add_sub_cancel_left]
  unfold m12
  rw [List.getElem?_replicate]; simp [h]
theorem eqMark : strEq (bA mkS) (ByteArray.mk #[109, 97, 114, 107]) = true := (eqStr mkS mkS).trans (by simp)
end
section
variable {S F G : Nat → Prop} {h0 h h1 : Heap} {L R L' : List A} {a b a1 a2 x ga ha na ra ea : Option Addr} {l c l1 c1 l2 c2 p t b1 lx cx gc hc nc rc ec e sz bt n cv : Nat} {vs news : List Value} {err e1 : Int} {v : Val} {bad bad1 bad2 : Bool} {q : Rq} {u : Rp} {z : Value}
set_option maxHeartbeats 4000000 in
theorem twinOf_own (hN : q.names.length ≤ 1099511627776) (hE : q.evs.length ≤ 1099511627776) (hV : ∀ e ∈ q.evs, e.vs.length ≤ 1099511627776) (r : RqRo none_ h q na ea) : CallsH Tryz.prog 28 #[aggQ q na nc ea ec] h
    (fun v h' => ∃ tn cn te ce tv cv, v = .agg (twV q tn q.names.length (q.names.length + 12) te q.evs.length (q.evs.length + 12) tn (q.names.length + 12) cn te (q.evs.length + 12) ce tv q.evs.length cv).toArray ∧ St none_ h h' [A.of fun h => RqRo none_ h q tn te]) := by
  refine vf28 _ _ _ _ _ _ _ _ _ _ h _ ?_
  unfold F28
  have k := St.fresh h
  refine k.vnew fun b1 h2 k => k.vnew fun b3 h4 k => ?_
  refine ⟨_, k.rd (by rfl), _, k.rd (by rfl), _, k.rd (by rfl), _, k.rd (by rfl), _, _, _, k.rd (by rfl), _, _, _, k.rd (by rfl), k.vnew fun b11 h12 k => k.vall (by rfl) (by rfl) fun h13 k => ⟨_, _, _, k.rd (by rfl), ?_⟩⟩
  have k : St none_ h h13 [A.blk b11 (twV q na q.names.length nc ea q.evs.length ec none 0 0 none 0 0 none 0 0).toArray 77, A.blk b3 (twV noRq none 0 0 none 0 0 none 0 0 none 0 0 none 0 0).toArray 77, RqB b1 q na nc ea ec] := k
  have hnr := tex_ro r.names
  refine copyV T23 (by omega) (n := q.names.length) k (hnr.mod k.ext).sl (by rw [List.length_map, Nat.mul_one]) (oneC_strs _) (by omega) fun tn cn h16 k => ⟨_, _, _, rfl, k.vst (Nat.le_of_ble_eq_true (by rfl)) fun h18 k => ?_⟩
  have k := k.reB (b := b11) (twV q na q.names.length nc ea q.evs.length ec tn q.names.length cn none 0 0 none 0 0).toArray (by rfl)
  have k := ((k.vnil 112 (sz := 1) (by omega)).vnil 125 (sz := 3) (by omega)).all0
  -- [all, te, tv, tn, b11, b3, b1]
  have k := k.sel 7 [4, 6, 5, 3, 1, 2, 0] rfl (by decide) (L' := [A.blk b11 (twV q na q.names.length nc ea q.evs.length ec tn q.names.length cn none 0 0 none 0 0).toArray 77, RqB b1 q na nc ea ec, _, A.vec 9 1 tn q.names.length cn (q.names.map strV), A.vec 125 3 none 0 0 [], A.vec 112 1 none 0 0 [], _]) (by rfl)
  refine ⟨fun m h' i => ∃ (j : Nat) (ss : List Sw) (te : Option Addr) (ce : Nat) (tv : Option Addr) (cv : Nat), i = j ∧ j ≤ q.evs.length ∧ m = q.evs.length - j ∧ ss.map (·.vs) = (q.evs.take j).map (·.vs) ∧
    St none_ h h' [A.blk b11 (twV q na q.names.length nc ea q.evs.length ec tn q.names.length cn te j ce tv j cv).toArray 77, RqB b1 q na nc ea ec, A.blk b3 (twV noRq none 0 0 none 0 0 none 0 0 none 0 0 none 0 0).toArray 77, A.vec 9 1 tn q.names.length cn (q.names.map strV), A.vec 125 3 te j ce ((List.zipWith e3 (q.evs.take j) ss).flatMap evC), A.vec 112 1 tv j cv (ss.flatMap vc), A.all (ss.map vwE.own)],
    ⟨_, 0, [], none, 0, none, 0, rfl, Nat.zero_le _, rfl, rfl, k⟩, ?_⟩
  clear k
  rintro m h21 _ i ⟨j, ss, te, ce, tv, cv, rfl, hj, rfl, hss, k⟩
  refine ⟨_, _, _, k.rd (by rfl), cond_split (fun hc => ?_) (fun hc => ?_)⟩
  · have hjl : j < q.evs.length := Int.ofNat_lt.1 (of_decide_eq_true hc)
    have hsl : ss.length = j := by
      have := congrArg List.length hss
      rw [List.length_map, List.length_map, List.length_take] at this
      omega
    refine ⟨_, _, _, k.rd (by rfl), ?_⟩
    refine r.evs.one k.ext (by omega) (by omega) fun ad z hz hcz hrd => ⟨_, _, _, hcz 2 _ rfl, ?_⟩
    rw [Int.toNat_natCast] at hz
    have hzl : z.e.vs.length ≤ 1099511627776 := hV _ (List.mem_of_getElem? hz)
    have hrd : Ro none_ h z.a (z.e.vs.flatMap valV) := hrd
    refine copyV T25 (by omega) (n := z.e.vs.length) k (hrd.mod k.ext).sl (vals_len _) (oneC_vals _) (by omega) fun va c0 h30 k => ⟨_, _, _, rfl, ?_⟩
    refine marksV k rfl hzl fun va vcc h34 k => ?_
    have hvl := (St.vec (a := va) k).1.le
    refine ⟨_, _, _, k.rd (by rfl), ?_⟩
    refine r.evs.one k.ext (by omega) (by omega) fun ad2 z2 hz2 hcz2 hrd2 => ⟨_, hcz2 0 _ rfl, _, hcz2 1 _ rfl, _, _, _, hcz2 2 _ rfl, ?_⟩
    rw [Int.toNat_natCast] at hz2
    have e2 : z2.e = z.e := Option.some.inj (hz2.symm.trans hz)
    rw [e2]
    refine k.vnew fun b49 h50 k => k.vall (by rfl) (by rfl) fun h51 k => ⟨_, _, _, k.rd (by rfl), ?_⟩
    refine r.evs.one k.ext (by omega) (by omega) fun ad3 z3 hz3 hcz3 hrd3 => ⟨_, _, _, hcz3 2 _ rfl, ?_⟩
    rw [Int.toNat_natCast] at hz3
    have e3' : z3.e = z.e := Option.some.inj (hz3.symm.trans hz)
    rw [e3']
    refine vfront rfl rfl (by omega) hvl (k.vst (Nat.le_of_ble_eq_true (by rfl)) fun h56 k => ⟨_, _, _, k.rd (by rfl), k.vnew fun b58 h59 k => ?_⟩)
    have k := k.sel 10 [0, 8, 1, 2, 3, 4, 5, 6, 7, 9] rfl (by decide) (L' := [A.blk b58 (vc ⟨va, vcc, z.e.vs⟩).toArray 112, A.vec 112 1 tv j cv (ss.flatMap vc), _, _, _, _, _, _, _, _]) (by rfl)
    refine app1 TR30 k rfl (fun v hv => by simp [vc] at hv; subst hv; rfl) (by omega) fun tv' cv' h61 k => ⟨_, _, _, rfl, k.vst (Nat.le_of_ble_eq_true (by rfl)) fun h63 k => ?_⟩
    refine ⟨_, _, _, k.rd (by rfl), _, k.rd (by rfl), _, k.rd (by rfl), _, _, _, k.rd (by rfl), k.vnew fun b68 h69 k => ?_⟩
    -- [b68, tv', b49, VV, b11, b1, b3, tn, te, all]
    have k := k.sel 10 [0, 8, 1, 2, 3, 4, 5, 6, 7, 9] rfl (by decide) (L' := [A.blk b68 (evC (e3 z.e ⟨va, vcc, z.e.vs⟩)).toArray 125, A.vec 125 3 te j ce ((List.zipWith e3 (q.evs.take j) ss).flatMap evC), _, _, _, _, _, _, _, _]) (by rfl)
    refine app1 T24 k rfl (oneC_evC _) (by omega) fun te' ce' h71 k => ⟨_, _, _, rfl, k.vst (Nat.le_of_ble_eq_true (by rfl)) fun h73 k => ⟨q.evs.length - (j + 1), by omega, j + 1, ss ++ [⟨va, vcc, z.e.vs⟩], te', ce', tv', cv', wrap_nat hjl (by omega), hjl, rfl, ?_, ?_⟩⟩
    · rw [List.map_append, hss, take_next hz, List.map_append]; rfl
    · rw [zip_next hsl hz, List.flatMap_append, List.flatMap_append]
      -- [te', tv', b49, VV, b11, b1, b3, tn, all]
      have k := k.sel 9 [3, 8, 4, 5, 6, 7, 0, 1, 2] rfl (by decide) (L' := [vwE.own ⟨va, vcc, z.e.vs⟩, A.all (ss.map vwE.own), A.blk b11 (twV q na q.names.length nc ea q.evs.length ec tn q.names.length cn te' (j + 1) ce' tv' (j + 1) cv').toArray 77, _, _, _, _, _, _]) (by rfl)
      have k := (k.allIn).allPerm (L' := (ss ++ [(⟨va, vcc, z.e.vs⟩ : Sw)]).map vwE.own) (by rw [List.map_append]; exact (List.perm_append_singleton _ _).symm)
      exact (k.sel 8 [7, 1, 2, 3, 4, 5, 6, 0] rfl (by decide) (L' := [_, _, _, _, _, _, _, _]) (by rfl)).drop
  have hjl : j = q.evs.length := by
    have : ¬ (j : Int) < q.evs.length := of_decide_eq_false hc
    omega
  subst hjl
  rw [List.take_of_length_le (Nat.le_refl _)] at k hss
  clear hc hj
  refine ⟨fun m h' i => ∃ (j : Nat) (tn : Option Addr) (cn : Nat) (te : Option Addr) (ce : Nat), i = j ∧ j ≤ 12 ∧ m = 12 - j ∧
    St none_ h h' [A.blk b11 (twV q na q.names.length nc ea q.evs.length ec tn (q.names.length + j) cn te (q.evs.length + j) ce tv q.evs.length cv).toArray 77, RqB b1 q na nc ea ec, A.blk b3 (twV noRq none 0 0 none 0 0 none 0 0 none 0 0 none 0 0).toArray 77, A.vec 9 1 tn (q.names.length + j) cn ((q.names ++ List.replicate j mkS).map strV), A.vec 125 3 te (q.evs.length + j) ce ((List.zipWith e3 q.evs ss ++ List.replicate j mkE).flatMap evC), A.vec 112 1 tv q.evs.length cv (ss.flatMap vc), A.all (ss.map vwE.own)],
    ⟨_, 0, tn, cn, te, ce, rfl, Nat.zero_le _, rfl, by rw [List.replicate_zero, List.append_nil, List.replicate_zero, List.append_nil]; exact k⟩, ?_⟩
  clear k
  rintro m h76 _ i ⟨j, tn, cn, te, ce, rfl, hj, rfl, k⟩
  refine cond_split (fun hc => ?_) (fun hc => ?_)
  · have hjl : j < 12 := by have : (j : Int) < 12 := of_decide_eq_true hc; omega
    refine ⟨_, _, _, k.rd (by rfl), k.vnew fun b81 h82 k => ?_⟩
    have k := k.sel 8 [0, 4, 1, 2, 3, 5, 6, 7] rfl (by decide) (L' := [A.blk b81 [strV mkS].toArray 9, A.vec 9 1 tn (q.names.length + j) cn ((q.names ++ List.replicate j mkS).map strV), _, _, _, _, _, _]) (by rfl)
    refine app1 T23 k rfl (fun v hv => by simp at hv; subst hv; rfl) (by omega) fun tn' cn' h84 k => ⟨_, _, _, rfl, k.vst (Nat.le_of_ble_eq_true (by rfl)) fun h86 k => ⟨_, _, _, k.rd (by rfl), k.vnew fun b88 h89 k => ?_⟩⟩
    -- [b88, tn', b11, b1, b3, te, tv, all]
    have k := k.sel 8 [0, 5, 1, 2, 3, 4, 6, 7] rfl (by decide) (L' := [A.blk b88 (evC mkE).toArray 125, A.vec 125 3 te (q.evs.length + j) ce ((List.zipWith e3 q.evs ss ++ List.replicate j mkE).flatMap evC), _, _, _, _, _, _]) (by rfl)
    refine app1 T24 k rfl (oneC_evC _) (by omega) fun te' ce' h91 k => ⟨_, _, _, rfl, k.vst (Nat.le_of_ble_eq_true (by rfl)) fun h93 k => ⟨12 - (j + 1), by omega, j + 1, tn', cn', te', ce', wrap_nat hjl (by omega), hjl, rfl, ?_⟩⟩
    have en : (q.names ++ List.replicate j mkS).map strV ++ [strV mkS] = (q.names ++ List.replicate (j + 1) mkS).map strV := by
      rw [List.replicate_succ', ← List.append_assoc, List.map_append (l₁ := q.names ++ List.replicate j mkS)]; rfl
    have ee : (List.zipWith e3 q.evs ss ++ List.replicate j mkE).flatMap evC ++ evC mkE = (List.zipWith e3 q.evs ss ++ List.replicate (j + 1) mkE).flatMap evC := by
      rw [List.replicate_succ', ← List.append_assoc, List.flatMap_append (xs := List.zipWith e3 q.evs ss ++ List.replicate j mkE)]; rfl
    rw [en, ee] at k
    -- [te', tn', b11, b1, b3, tv, all]
    exact k.sel 7 [2, 3, 4, 1, 0, 5, 6] rfl (by decide) (L' := [A.blk b11 (twV q na q.names.length nc ea q.evs.length ec tn' (q.names.length + (j + 1)) cn' te' (q.evs.length + (j + 1)) ce' tv q.evs.length cv).toArray 77, _, _, _, _, _, _]) (by rfl)
  have hjl : j = 12 := by have : ¬ (j : Int) < 12 := of_decide_eq_false hc; omega
  subst hjl
  clear hc hj
  have hcn := (St.vec (a := tn) k).1.le
  have hce := (St.vec (a := te) k).1.le
  refine ⟨_, _, _, k.rd (by rfl), _, _, _, k.rd (by rfl), _, _, _, k.rd (by rfl), vfront rfl rfl (by omega) hcn (k.vst (Nat.le_of_ble_eq_true (by rfl)) fun h98 k => ?_)⟩
  refine ⟨_, _, _, k.rd (by rfl), _, _, _, k.rd (by rfl), _, _, _, k.rd (by rfl), vfront rfl rfl (by omega) hce (k.vst (Nat.le_of_ble_eq_true (by rfl)) fun h103 k => ?_)⟩
  refine ⟨_, k.rd (by rfl), _, k.rd (by rfl), _, k.rd (by rfl), _, k.rd (by rfl), _, _, _, k.rd (by rfl), _, _, _, k.rd (by rfl), _, _, _, k.rd (by rfl), _, _, _, k.rd (by rfl), _, _, _, k.rd (by rfl), k.vall (by rfl) (by rfl) fun h113 k => ?_⟩
  refine ⟨_, k.rd (by rfl), _, k.rd (by rfl), _, k.rd (by rfl), _, k.rd (by rfl), _, _, _, k.rd (by rfl), _, _, _, k.rd (by rfl), _, _, _, k.rd (by rfl), _, _, _, k.rd (by rfl), _, _, _, k.rd (by rfl), ?_⟩
  refine ⟨tn, cn, te, ce, tv, cv, rfl, k.own_ fun F h k => ?_⟩
  have ka := k.sel 7 [6, 0, 1, 2, 3, 4, 5] rfl (by decide) (L' := [A.all (ss.map vwE.own), _, _, _, _, _, _]) (by rfl)
  exact Tw.ro ⟨(k.sl (a := tn)).ro, ss, hss, (k.sl (a := te)).ro, (k.sl (a := tv)).ro, fun s hs => El.all_rd (E := vwE) ka hs⟩
end
section
variable {S F G : Nat → Prop} {h0 h h1 : Heap} {L R L' : List A} {a b a1 a2 x ga ha na ra ea tn te tv th tr : Option Addr} {l c l1 c1 l2 c2 p t b1 lx cx gc hc nc rc ec e sz bt n cn ce cv ch cr : Nat} {vs : List Val} {news W : List Value} {err e1 : Int} {v : Val} {bad bad1 bad2 : Bool} {q : Rq} {u : Rp} {z : Value} {bs : Bytes}
theorem err_ro {xs : List Int} (r : RoX errE F h a l xs) : Ro F h a (xs.map fun n : Int => Value.int .i64 n) := by
  obtain ⟨ss, q1, q2, q3, q4⟩ := r
  have key : ∀ ys : List Int, ys.flatMap (fun s => [Value.int .i64 s]) = (ys.map id).map fun n : Int => Value.int .i64 n := fun ys => by
    induction ys with
    | nil => rfl
    | cons y ys ih => rw [List.flatMap_cons, ih]; rfl
  rw [← q3]
  exact (key ss) ▸ q1
theorem err_of {xs : List Int} (r : Ro F h a (xs.map fun n : Int => Value.int .i64 n)) (hl : xs.length = l) : RoX errE F h a l xs := by
  have key : ∀ ys : List Int, (ys.map fun n : Int => Value.int .i64 n) = ys.flatMap fun s => [Value.int .i64 s] := fun ys => by
    induction ys with
    | nil => rfl
    | cons y ys ih => rw [List.flatMap_cons, ← ih]; rfl
  exact ⟨xs, (key xs) ▸ r, fun _ _ => trivial, List.map_id xs, hl⟩
theorem oneC_ints (xs : List Int) : ∀ v ∈ xs.map (fun n : Int => Value.int .i64 n), oneC v = true := fun v hv => by obtain ⟨_, _, rfl⟩ := List.mem_map.1 hv; rfl
/-- A list of a reply's values over. -/
theorem list_spec {w0 w1 w2 w3 w4 w5 w6 w7 w8 w9 w10 w11 w12 w13 w14 w15 : Value} {tb : Nat} (k0 : Holds [A.blk b1 #[w0, w1, w2, w3, w4, w5, w6, w7, w8, w9, w10, w11, w12, w13, w14, w15, .slice tv n cv] tb, A.vec 112 1 tv n cv W] F h) (hr : Ro F h x (vs.flatMap valV)) (hl : vs.length = lx) (hlb : lx ≤ 1099511627776) (hn : n ≤ 1099511627776 * 4) :
    CallsH Tryz.prog 89 #[.pointer (some ⟨b1, 0, none⟩), .slice x lx cx] h (fun v h' => ∃ (a : Option Addr) (vc' : Nat) (tv' : Option Addr) (cv' : Nat), v = .slice a lx (lx + 12) ∧
      St F h h' [A.blk b1 #[w0, w1, w2, w3, w4, w5, w6, w7, w8, w9, w10, w11, w12, w13, w14, w15, .slice tv' (n + 1) cv'] tb, A.vec 112 1 tv' (n + 1) cv' (W ++ vc ⟨a, vc', vs⟩), vwE.own ⟨a, vc', vs⟩]) := by
  subst hl
  refine vf89 _ _ _ _ h _ ?_
  unfold F89
  have k := St.start k0
  refine copyV T25 (by omega) (n := vs.length) k hr.sl (vals_len _) (oneC_vals _) (by omega) fun va c0 h2 k => ⟨_, _, _, rfl, ?_⟩
  refine marksV k rfl hlb fun va vcc h6 k => ?_
  have hvl := (St.vec (a := va) k).1.le
  refine VSome.mk ⟨_, _, _, k.rd (by rfl), k.vnew fun b18 h19 k => ?_⟩
  have k := k.sel 4 [0, 3, 1, 2] rfl (by decide) (L' := [A.blk b18 (vc ⟨va, vcc, vs⟩).toArray 112, A.vec 112 1 tv n cv W, _, _]) (by rfl)
  refine app1 TR30 k rfl (fun v hv => by simp [vc] at hv; subst hv; rfl) (by omega) fun tv' cv' h21 k => ⟨_, _, _, rfl, VSome.mk (k.vst (Nat.le_of_ble_eq_true (by rfl)) fun h24 k => ?_)⟩
  refine vfront rfl rfl (by omega) hvl ⟨va, vcc, tv', cv', rfl, ?_⟩
  exact k.sel 3 [2, 0, 1] rfl (by decide) (L' := [_, _, _]) (by rfl)
/-- A tale's parts. -/
abbrev taV (u : Rp) (ga : Option Addr) (gl gc : Nat) (ha : Option Addr) (hl hc : Nat) (na : Option Addr) (nl nc : Nat) (ra : Option Addr) (rl rc : Nat) (te : Option Addr) (le ce : Nat) (tn : Option Addr) (ln cn : Nat) (th : Option Addr) (lh ch : Nat) (tr : Option Addr) (lr cr : Nat) (tv : Option Addr) (lv cv : Nat) : List Value :=
  [.int .u32 (u.id : Int), .bool u.note, .int .i64 u.err, .int .i64 u.at_, .slice ga gl gc, .slice ha hl hc, .slice na nl nc, .slice ra rl rc, .int .i64 u.since, .int .i64 u.open_, .int .i64 u.nodes, .bool u.over, .slice te le ce, .slice tn ln cn, .slice th lh ch, .slice tr lr cr, .slice tv lv cv]
structure H3 where
  a : Option Addr
  l : Nat
  c : Nat
  t : Bytes
def hC (x : H3) : List Value := [.string (bA x.t), .slice x.a x.l x.c]
abbrev mkH : H3 := ⟨none, 0, 0, mkS⟩
def h3 (y : Hi) (s : Sw) : H3 := ⟨s.a, y.row.length, y.row.length + 12, y.q⟩
def rC (s : Sw) : List Value := [.slice s.a s.vs.length (s.vs.length + 12)]
abbrev mkRowE : El (List Val) := ⟨Nat, fun _ => [mkV], 112, 1, fun b => [.slice (some ⟨b, 0, none⟩) 1 1], fun b => A.blk b (valV mkV).toArray 127, fun _ => rfl, fun s v hv => by simp at hv; subst hv; rfl, by omega,
  fun F h b => Ro F h (some ⟨b, 0, none⟩) (valV mkV), fun r m hf => r.at m hf, fun {_ _ _ _ s} k => (k.slB (b := s)).ro⟩
/-- A tale in memory, to be read. -/
structure Ta (h : Heap) (u : Rp) (b : Nat) (te : Option Addr) (ce : Nat) (tn : Option Addr) (cn : Nat) (th : Option Addr) (ch : Nat) (tr : Option Addr) (cr : Nat) (tv : Option Addr) (cv : Nat) : Prop where
  blk : Ro none_ h (some ⟨b, 0, none⟩) (taV u te u.errs.length (u.errs.length + 12) th u.hits.length (u.hits.length + 12) tn u.names.length (u.names.length + 12) tr u.rows.length (u.rows.length + 12) te (u.errs.length + 12) ce tn (u.names.length + 12) cn th (u.hits.length + 12) ch tr (u.rows.length + 12) cr tv (u.hits.length + u.rows.length) cv)
  capE : u.errs.length + 12 ≤ ce
  capN : u.names.length + 12 ≤ cn
  capH : u.hits.length + 12 ≤ ch
  capR : u.rows.length + 12 ≤ cr
  errs : Ro none_ h te ((u.errs ++ m12 777).map fun n : Int => Value.int .i64 n)
  names : Ro none_ h tn ((u.names ++ m12 mkS).map strV)
  rest : ∃ (s1 s2 : List Sw) (ms : List Nat), s1.map (·.vs) = u.hits.map (·.row) ∧ s2.map (·.vs) = u.rows ∧ ms.length = 12 ∧ Ro none_ h th ((List.zipWith h3 u.hits s1 ++ m12 mkH).flatMap hC) ∧ Ro none_ h tr (s2.flatMap rC ++ ms.flatMap mkRowE.cells) ∧
    Ro none_ h tv ((s1 ++ s2).flatMap vc) ∧ (∀ s ∈ s1 ++ s2, Ro none_ h s.a ((s.vs ++ m12 mkV).flatMap valV) ∧ s.vs.length + 12 ≤ s.c) ∧ ∀ b ∈ ms, Ro none_ h (some ⟨b, 0, none⟩) (valV mkV)
theorem zip_nextH {es : List Hi} {ss : List Sw} {j : Nat} {y : Hi} {s : Sw} (hs : ss.length = j) (hy : es[j]? = some y) : List.zipWith h3 (es.take (j + 1)) (ss ++ [s]) = List.zipWith h3 (es.take j) ss ++ [h3 y s] := by
  rw [take_next hy, List.zipWith_append (by rw [List.length_take]; have := (List.getElem?_eq_some_iff.1 hy).1; omega)]
  rfl
/-- What is asked of a reply's lists' lengths. -/
structure RpB (u : Rp) : Prop where
  errs : u.errs.length ≤ 1099511627776
  hits : u.hits.length ≤ 1099511627776
  names : u.names.length ≤ 1099511627776
  rows : u.rows.length ≤ 1099511627776
  hit : ∀ y ∈ u.hits, y.row.length ≤ 1099511627776
  row : ∀ y ∈ u.rows, y.length ≤ 1099511627776
end
section
variable {S F G : Nat → Prop} {h0 h h1 : Heap} {L R L' : List A} {a x ga ha na ra ea te tn th tr tv : Option Addr} {l c b n gc hc nc rc ec ce cn ch cr cv : Nat} {vs : List Value} {u : Rp}
theorem Ro.cell (k : Ro F h (some ⟨b, 0, none⟩) vs) {j : Nat} {v : Value} (hj : vs[j]? = some v) : cellH h ⟨b, 0 + j, none⟩ = some v := by
  obtain ⟨ad, e, q, _⟩ := k j v hj
  cases e
  rw [VC.add_plain] at q
  exact q
theorem Ta.at (k : Ta h u b te ce tn cn th ch tr cr tv cv) (m : Ext h h1) : Ta h1 u b te ce tn cn th ch tr cr tv cv := by
  have hf : ∀ b, none_ b → False ∨ h.size ≤ b := fun _ h => h.elim
  obtain ⟨k1, c1, c2, c3, c4, k2, k3, s1, s2, ms, e1, e2, e3, k4, k5, k6, k7, k8⟩ := k
  exact ⟨k1.at m hf, c1, c2, c3, c4, k2.at m hf, k3.at m hf, s1, s2, ms, e1, e2, e3, k4.at m hf, k5.at m hf, k6.at m hf, fun s hs => ⟨(k7 s hs).1.at m hf, (k7 s hs).2⟩, fun b hb => (k8 b hb).at m hf⟩
theorem zip_len {es : List Hi} {ss : List Sw} (h : ss.length = es.length) : (List.zipWith h3 es ss).length = es.length := by
  rw [List.length_zipWith, h, Nat.min_self]
/-- A tale's parts are the reply's. -/
theorem Ta.ro (k : Ta h u b te ce tn cn th ch tr cr tv cv) : RpRo none_ h u te th tn tr := by
  obtain ⟨k1, c1, c2, c3, c4, k2, k3, s1, s2, ms, e1, e2, e3, k4, k5, k6, k7, k8⟩ := k
  refine ⟨err_of (by rw [List.map_append] at k2; exact k2.pre) rfl, ?_, tex_of (by rw [List.map_append] at k3; exact k3.pre) rfl, ?_⟩
  · rw [List.flatMap_append] at k4
    have key : ∀ (es : List Hi) (ss : List Sw), ss.map (·.vs) = es.map (·.row) → ∃ us : List Sx, (List.zipWith h3 es ss).flatMap hC = us.flatMap sxV ∧ us.map (·.x) = es ∧ ∀ x ∈ us, ∃ s ∈ ss, x.a = s.a ∧ x.x.row = s.vs := fun es => by
      induction es with
      | nil => intro ss h; cases ss with
        | nil => exact ⟨[], rfl, rfl, fun x hx => by cases hx⟩
        | cons s ss => cases h
      | cons y es ih =>
        intro ss h
        cases ss with
        | nil => cases h
        | cons s ss =>
          simp only [List.map_cons, List.cons.injEq] at h
          obtain ⟨us, u1, u2, u3⟩ := ih ss h.2
          refine ⟨⟨s.a, y.row.length + 12, y⟩ :: us, ?_, ?_, ?_⟩
          · rw [List.zipWith_cons_cons, List.flatMap_cons, List.flatMap_cons, u1]; rfl
          · rw [List.map_cons, u2]
          · intro x hx
            rcases List.mem_cons.1 hx with rfl | hx
            · exact ⟨s, by simp, rfl, h.1.symm⟩
            · obtain ⟨s', hs', e⟩ := u3 x hx
              exact ⟨s', by simp [hs'], e⟩
    obtain ⟨us, u1, u2, u3⟩ := key u.hits s1 e1
    refine ⟨us, by rw [← u1]; exact k4.pre, fun x hx => ?_, u2, rfl⟩
    obtain ⟨s, hs, ea, ev⟩ := u3 x hx
    have := (k7 s (by simp [hs])).1
    rw [List.flatMap_append] at this
    show Ro none_ h x.a (x.x.row.flatMap valV)
    rw [ea, ev]; exact this.pre
  · refine ⟨s2.map fun s => ⟨s.a, s.vs.length + 12, s.vs⟩, ?_, fun x hx => ?_, ?_, rfl⟩
    · have e : (s2.map fun s => (⟨s.a, s.vs.length + 12, s.vs⟩ : Sr)).flatMap rowE.cells = s2.flatMap rC := by
        clear e2 k5 k6 k7
        induction s2 with
        | nil => rfl
        | cons y ys ih => rw [List.map_cons, List.flatMap_cons, List.flatMap_cons, ih]; rfl
      rw [e]; exact k5.pre
    · obtain ⟨s, hs, rfl⟩ := List.mem_map.1 hx
      have := (k7 s (by simp [hs])).1
      rw [List.flatMap_append] at this
      exact this.pre
    · rw [List.map_map, ← e2]; rfl
/-- A row's cell. -/
def sC (x : Option Addr × Nat × Nat) : List Value := [.slice x.1 x.2.1 x.2.2]
theorem rows_cells (s2 : List Sw) (ms : List Nat) : s2.flatMap rC ++ ms.flatMap mkRowE.cells = (s2.map (fun s : Sw => (s.a, s.vs.length, s.vs.length + 12)) ++ ms.map fun b : Nat => (some (⟨b, 0, none⟩ : Addr), 1, 1)).flatMap sC := by
  rw [List.flatMap_append]
  congr 1
  · induction s2 with
    | nil => rfl
    | cons y ys ih => rw [List.flatMap_cons, List.map_cons, List.flatMap_cons, ih]; rfl
  · induction ms with
    | nil => rfl
    | cons y ys ih => rw [List.flatMap_cons, List.map_cons, List.flatMap_cons, ih]; rfl
end
section
variable {S F G : Nat → Prop} {h0 h h1 : Heap} {L R L' : List A} {a b a1 a2 x ga ha na ra ea tn te tv th tr : Option Addr} {l c l1 c1 l2 c2 p t b1 lx cx gc hc nc rc ec e sz bt n cn ce cv ch cr : Nat} {vs : List Val} {news W : List Value} {err e1 : Int} {v : Val} {bad bad1 bad2 : Bool} {q : Rq} {u : Rp} {z : Value} {bs : Bytes}
set_option maxHeartbeats 8000000 in
theorem taleOf_own (B : RpB u) (r : RpRo none_ h u ga ha na ra) : CallsH Tryz.prog 33 #[aggP u ga gc ha hc na nc ra rc] h
    (fun v h' => ∃ b te ce tn cn th ch tr cr tv cv, v = .pointer (some ⟨b, 0, none⟩) ∧ St none_ h h' [A.of fun h => Ta h u b te ce tn cn th ch tr cr tv cv]) := by
  refine vf33 _ _ _ _ _ _ _ _ _ _ _ _ _ _ _ _ _ _ _ _ h _ ?_
  unfold F33
  have bE := B.errs
  have bH := B.hits
  have bN := B.names
  have bR := B.rows
  have k := St.fresh h
  refine k.vnew fun b1 h2 k => ?_
  refine ⟨_, k.rd (by rfl), _, k.rd (by rfl), _, k.rd (by rfl), _, k.rd (by rfl), _, _, _, k.rd (by rfl), _, _, _, k.rd (by rfl), _, _, _, k.rd (by rfl), _, _, _, k.rd (by rfl), _, k.rd (by rfl), _, k.rd (by rfl), _, k.rd (by rfl), _, k.rd (by rfl), k.vnew fun b15 h16 k => ⟨_, _, _, k.rd (by rfl), ?_⟩⟩
  have k : St none_ h h16 [A.blk b15 (taV u ga u.errs.length gc ha u.hits.length hc na u.names.length nc ra u.rows.length rc none 0 0 none 0 0 none 0 0 none 0 0 none 0 0).toArray 83, A.blk b1 (rpV u ga gc ha hc na nc ra rc).toArray 65] := k
  refine copyV T28 (by omega) (n := u.errs.length) k ((err_ro r.errs).mod k.ext).sl (by rw [List.length_map, Nat.mul_one]) (oneC_ints _) (by omega) fun te ce h19 k => ⟨_, _, _, rfl, k.vst (Nat.le_of_ble_eq_true (by rfl)) fun h21 k => ?_⟩
  refine ⟨_, _, _, k.rd (by rfl), copyV T23 (by omega) (n := u.names.length) k ((tex_ro r.names).mod k.ext).sl (by rw [List.length_map, Nat.mul_one]) (oneC_strs _) (by omega) fun tn cn h24 k => ⟨_, _, _, rfl, k.vst (Nat.le_of_ble_eq_true (by rfl)) fun h26 k => ?_⟩⟩
  have k := (((k.vnil 112 (sz := 1) (by omega)).vnil 112 (sz := 1) (by omega)).vnil 114 (sz := 2) (by omega)).all0
  -- [all, hits, rows, vals, names, errs, b15, b1]
  have k := k.sel 8 [6, 3, 7, 5, 4, 1, 2, 0] rfl (by decide) (L' := [A.blk b15 (taV u ga u.errs.length gc ha u.hits.length hc na u.names.length nc ra u.rows.length rc te u.errs.length ce tn u.names.length cn none 0 0 none 0 0 none 0 0).toArray 83, A.vec 112 1 none 0 0 [], A.blk b1 (rpV u ga gc ha hc na nc ra rc).toArray 65, _, _, A.vec 114 2 none 0 0 [], A.vec 112 1 none 0 0 [], _]) (by rfl)
  refine ⟨fun m h' i => ∃ (j : Nat) (ss : List Sw) (th : Option Addr) (ch : Nat) (tv : Option Addr) (cv : Nat), i = j ∧ j ≤ u.hits.length ∧ m = u.hits.length - j ∧ ss.map (·.vs) = (u.hits.take j).map (·.row) ∧
    St none_ h h' [A.blk b15 (taV u ga u.errs.length gc ha u.hits.length hc na u.names.length nc ra u.rows.length rc te u.errs.length ce tn u.names.length cn th j ch none 0 0 tv j cv).toArray 83, A.vec 112 1 tv j cv (ss.flatMap vc), A.blk b1 (rpV u ga gc ha hc na nc ra rc).toArray 65, A.vec 38 1 te u.errs.length ce (u.errs.map fun n : Int => Value.int .i64 n), A.vec 9 1 tn u.names.length cn (u.names.map strV), A.vec 114 2 th j ch ((List.zipWith h3 (u.hits.take j) ss).flatMap hC), A.vec 112 1 none 0 0 [], A.all (ss.map vwE.own)],
    ⟨_, 0, [], none, 0, none, 0, rfl, Nat.zero_le _, rfl, rfl, k⟩, ?_⟩
  clear k
  rintro m h29 _ i ⟨j, ss, th, ch, tv, cv, rfl, hj, rfl, hss, k⟩
  refine ⟨_, _, _, k.rd (by rfl), cond_split (fun hcd => ?_) (fun hcd => ?_)⟩
  · have hjl : j < u.hits.length := Int.ofNat_lt.1 (of_decide_eq_true hcd)
    have hsl : ss.length = j := by
      have := congrArg List.length hss
      rw [List.length_map, List.length_map, List.length_take] at this
      omega
    refine ⟨_, _, _, k.rd (by rfl), ?_⟩
    refine r.hits.one k.ext (by omega) (by omega) fun ad z hz hcz hrd => ⟨_, _, _, hcz 1 _ rfl, ?_⟩
    rw [Int.toNat_natCast] at hz
    have hzl : z.x.row.length ≤ 1099511627776 := B.hit _ (List.mem_of_getElem? hz)
    have hrd : Ro none_ h z.a (z.x.row.flatMap valV) := hrd
    obtain ⟨F', G, kF, kG, d, hF, back⟩ := St.frame (L := [A.blk b15 (taV u ga u.errs.length gc ha u.hits.length hc na u.names.length nc ra u.rows.length rc te u.errs.length ce tn u.names.length cn th j ch none 0 0 tv j cv).toArray 83, A.vec 112 1 tv j cv (ss.flatMap vc)]) k
    refine CallsH.mono (list_spec kF (hrd.at k.ext hF) rfl hzl (by omega)) ?_
    rintro _ h38 ⟨va, vcc, tv', cv', rfl, k2⟩
    have k := back (L' := [_, _, _]) k2
    clear back kF kG d hF
    have k : St none_ h h38 [A.blk b15 (taV u ga u.errs.length gc ha u.hits.length hc na u.names.length nc ra u.rows.length rc te u.errs.length ce tn u.names.length cn th j ch none 0 0 tv' (j + 1) cv').toArray 83, A.vec 112 1 tv' (j + 1) cv' (ss.flatMap vc ++ vc ⟨va, vcc, z.x.row⟩), vwE.own ⟨va, vcc, z.x.row⟩, A.blk b1 (rpV u ga gc ha hc na nc ra rc).toArray 65, A.vec 38 1 te u.errs.length ce (u.errs.map fun n : Int => Value.int .i64 n), A.vec 9 1 tn u.names.length cn (u.names.map strV), A.vec 114 2 th j ch ((List.zipWith h3 (u.hits.take j) ss).flatMap hC), A.vec 112 1 none 0 0 [], A.all (ss.map vwE.own)] := k
    refine ⟨_, _, _, rfl, _, _, _, k.rd (by rfl), _, _, _, k.rd (by rfl), ?_⟩
    refine r.hits.one k.ext (by omega) (by omega) fun ad2 z2 hz2 hcz2 hrd2 => ⟨_, hcz2 0 _ rfl, ?_⟩
    rw [Int.toNat_natCast] at hz2
    have e2 : z2.x = z.x := Option.some.inj (hz2.symm.trans hz)
    rw [e2]
    refine k.vnew fun b44 h45 k => ⟨k.rd (by rfl), ?_⟩
    have k := k.sel 10 [0, 7, 1, 2, 3, 4, 5, 6, 8, 9] rfl (by decide) (L' := [A.blk b44 (hC (h3 z.x ⟨va, vcc, z.x.row⟩)).toArray 114, A.vec 114 2 th j ch ((List.zipWith h3 (u.hits.take j) ss).flatMap hC), _, _, _, _, _, _, _, _]) (by rfl)
    refine app1 T29 k rfl (fun v hv => by simp [hC] at hv; rcases hv with rfl | rfl <;> rfl) (by omega) fun th' ch' h47 k => ⟨_, _, _, rfl, k.vst (Nat.le_of_ble_eq_true (by rfl)) fun h49 k => ⟨u.hits.length - (j + 1), by omega, j + 1, ss ++ [⟨va, vcc, z.x.row⟩], th', ch', tv', cv', wrap_nat hjl (by omega), hjl, rfl, ?_, ?_⟩⟩
    · rw [List.map_append, hss, take_next hz, List.map_append]; rfl
    · rw [zip_nextH hsl hz, List.flatMap_append, List.flatMap_append]
      -- [th', b15, vals, own, b1, errs, names, rows, all]
      have k := k.sel 9 [3, 8, 1, 2, 4, 5, 6, 0, 7] rfl (by decide) (L' := [vwE.own ⟨va, vcc, z.x.row⟩, A.all (ss.map vwE.own), A.blk b15 (taV u ga u.errs.length gc ha u.hits.length hc na u.names.length nc ra u.rows.length rc te u.errs.length ce tn u.names.length cn th' (j + 1) ch' none 0 0 tv' (j + 1) cv').toArray 83, _, _, _, _, _, _]) (by rfl)
      have k := (k.allIn).allPerm (L' := (ss ++ [(⟨va, vcc, z.x.row⟩ : Sw)]).map vwE.own) (by rw [List.map_append]; exact (List.perm_append_singleton _ _).symm)
      exact k.sel 8 [1, 2, 3, 4, 5, 6, 7, 0] rfl (by decide) (L' := [_, _, _, _, _, _, _, _]) (by rfl)
  have hjl : j = u.hits.length := by
    have : ¬ (j : Int) < u.hits.length := of_decide_eq_false hcd
    omega
  subst hjl
  rw [List.take_of_length_le (Nat.le_refl _)] at k hss
  clear hcd hj
  have hsl1 : ss.length = u.hits.length := by
    have := congrArg List.length hss
    rwa [List.length_map, List.length_map] at this
  -- the rows
  refine ⟨fun m h' i => ∃ (j : Nat) (s2 : List Sw) (tr : Option Addr) (cr : Nat) (tv : Option Addr) (cv : Nat), i = j ∧ j ≤ u.rows.length ∧ m = u.rows.length - j ∧ s2.map (·.vs) = u.rows.take j ∧
    St none_ h h' [A.blk b15 (taV u ga u.errs.length gc ha u.hits.length hc na u.names.length nc ra u.rows.length rc te u.errs.length ce tn u.names.length cn th u.hits.length ch tr j cr tv (u.hits.length + j) cv).toArray 83, A.vec 112 1 tv (u.hits.length + j) cv ((ss ++ s2).flatMap vc), A.blk b1 (rpV u ga gc ha hc na nc ra rc).toArray 65, A.vec 38 1 te u.errs.length ce (u.errs.map fun n : Int => Value.int .i64 n), A.vec 9 1 tn u.names.length cn (u.names.map strV), A.vec 114 2 th u.hits.length ch ((List.zipWith h3 u.hits ss).flatMap hC), A.vec 112 1 tr j cr (s2.flatMap rC), A.all ((ss ++ s2).map vwE.own)],
    ⟨_, 0, [], none, 0, tv, cv, rfl, Nat.zero_le _, rfl, rfl, by rw [List.append_nil]; exact k⟩, ?_⟩
  clear k
  rintro m h52 _ i ⟨j, s2, tr, cr, tv, cv, rfl, hj, rfl, hss2, k⟩
  refine ⟨_, _, _, k.rd (by rfl), cond_split (fun hcd => ?_) (fun hcd => ?_)⟩
  · have hjl : j < u.rows.length := Int.ofNat_lt.1 (of_decide_eq_true hcd)
    refine ⟨_, _, _, k.rd (by rfl), ?_⟩
    refine r.rows.one k.ext (by omega) (by omega) fun ad z hz hcz hrd => ⟨_, _, _, hcz 0 _ rfl, ?_⟩
    rw [Int.toNat_natCast] at hz
    have hzl : z.vs.length ≤ 1099511627776 := B.row _ (List.mem_of_getElem? hz)
    have hrd : Ro none_ h z.a (z.vs.flatMap valV) := hrd
    obtain ⟨F', G, kF, kG, d, hF, back⟩ := St.frame (L := [A.blk b15 (taV u ga u.errs.length gc ha u.hits.length hc na u.names.length nc ra u.rows.length rc te u.errs.length ce tn u.names.length cn th u.hits.length ch tr j cr tv (u.hits.length + j) cv).toArray 83, A.vec 112 1 tv (u.hits.length + j) cv ((ss ++ s2).flatMap vc)]) k
    refine CallsH.mono (list_spec kF (hrd.at k.ext hF) rfl hzl (by omega)) ?_
    rintro _ h38 ⟨va, vcc, tv', cv', rfl, k2⟩
    have k := back (L' := [_, _, _]) k2
    clear back kF kG d hF
    have k : St none_ h h38 [A.blk b15 (taV u ga u.errs.length gc ha u.hits.length hc na u.names.length nc ra u.rows.length rc te u.errs.length ce tn u.names.length cn th u.hits.length ch tr j cr tv' (u.hits.length + (j + 1)) cv').toArray 83, A.vec 112 1 tv' (u.hits.length + (j + 1)) cv' ((ss ++ s2).flatMap vc ++ vc ⟨va, vcc, z.vs⟩), vwE.own ⟨va, vcc, z.vs⟩, A.blk b1 (rpV u ga gc ha hc na nc ra rc).toArray 65, A.vec 38 1 te u.errs.length ce (u.errs.map fun n : Int => Value.int .i64 n), A.vec 9 1 tn u.names.length cn (u.names.map strV), A.vec 114 2 th u.hits.length ch ((List.zipWith h3 u.hits ss).flatMap hC), A.vec 112 1 tr j cr (s2.flatMap rC), A.all ((ss ++ s2).map vwE.own)] := k
    refine ⟨_, _, _, rfl, _, _, _, k.rd (by rfl), k.vnew fun b64 h65 k => ?_⟩
    have k := k.sel 10 [0, 8, 1, 2, 3, 4, 5, 6, 7, 9] rfl (by decide) (L' := [A.blk b64 (rC ⟨va, vcc, z.vs⟩).toArray 112, A.vec 112 1 tr j cr (s2.flatMap rC), _, _, _, _, _, _, _, _]) (by rfl)
    refine app1 TR30 k rfl (fun v hv => by simp [rC] at hv; subst hv; rfl) (by omega) fun tr' cr' h47 k => ⟨_, _, _, rfl, k.vst (Nat.le_of_ble_eq_true (by rfl)) fun h49 k => ⟨u.rows.length - (j + 1), by omega, j + 1, s2 ++ [⟨va, vcc, z.vs⟩], tr', cr', tv', cv', wrap_nat hjl (by omega), hjl, rfl, ?_, ?_⟩⟩
    · rw [List.map_append, hss2, take_next hz]; rfl
    · rw [← List.append_assoc, List.flatMap_append (xs := ss ++ s2), List.flatMap_append (xs := s2)]
      -- [tr', b15, vals, own, b1, errs, names, hits, all]
      have k := k.sel 9 [3, 8, 1, 2, 4, 5, 6, 7, 0] rfl (by decide) (L' := [vwE.own ⟨va, vcc, z.vs⟩, A.all ((ss ++ s2).map vwE.own), A.blk b15 (taV u ga u.errs.length gc ha u.hits.length hc na u.names.length nc ra u.rows.length rc te u.errs.length ce tn u.names.length cn th u.hits.length ch tr' (j + 1) cr' tv' (u.hits.length + (j + 1)) cv').toArray 83, _, _, _, _, _, _]) (by rfl)
      have k := (k.allIn).allPerm (L' := (ss ++ s2 ++ [(⟨va, vcc, z.vs⟩ : Sw)]).map vwE.own) (by rw [List.map_append (l₁ := ss ++ s2)]; exact (List.perm_append_singleton _ _).symm)
      exact k.sel 8 [1, 2, 3, 4, 5, 6, 7, 0] rfl (by decide) (L' := [_, _, _, _, _, _, _, _]) (by rfl)
  have hjl : j = u.rows.length := by
    have : ¬ (j : Int) < u.rows.length := of_decide_eq_false hcd
    omega
  subst hjl
  rw [List.take_of_length_le (Nat.le_refl _)] at hss2
  clear hcd hj
  -- the marks
  have k := (k.all0).sel 9 [1, 2, 3, 4, 5, 6, 7, 8, 0] rfl (by decide) (L' := [_, _, _, _, _, _, _, _, _]) (by rfl)
  refine ⟨fun m h' i => ∃ (j : Nat) (ms : List Nat) (te : Option Addr) (ce : Nat) (tn : Option Addr) (cn : Nat) (th : Option Addr) (ch : Nat) (tr : Option Addr) (cr : Nat), i = j ∧ j ≤ 12 ∧ m = 12 - j ∧ ms.length = j ∧
    St none_ h h' [A.blk b15 (taV u ga u.errs.length gc ha u.hits.length hc na u.names.length nc ra u.rows.length rc te (u.errs.length + j) ce tn (u.names.length + j) cn th (u.hits.length + j) ch tr (u.rows.length + j) cr tv (u.hits.length + u.rows.length) cv).toArray 83, A.vec 112 1 tv (u.hits.length + u.rows.length) cv ((ss ++ s2).flatMap vc), A.blk b1 (rpV u ga gc ha hc na nc ra rc).toArray 65, A.vec 38 1 te (u.errs.length + j) ce ((u.errs ++ List.replicate j 777).map fun n : Int => Value.int .i64 n), A.vec 9 1 tn (u.names.length + j) cn ((u.names ++ List.replicate j mkS).map strV), A.vec 114 2 th (u.hits.length + j) ch ((List.zipWith h3 u.hits ss ++ List.replicate j mkH).flatMap hC), A.vec 112 1 tr (u.rows.length + j) cr (s2.flatMap rC ++ ms.flatMap mkRowE.cells), A.all ((ss ++ s2).map vwE.own), A.all (ms.map mkRowE.own)],
    ⟨_, 0, [], te, ce, tn, cn, th, ch, tr, cr, rfl, Nat.zero_le _, rfl, rfl, by rw [List.replicate_zero, List.append_nil, List.replicate_zero, List.append_nil, List.replicate_zero, List.append_nil, List.flatMap_nil, List.append_nil]; exact k⟩, ?_⟩
  clear k
  rintro m h72 _ i ⟨j, ms, te, ce, tn, cn, th, ch, tr, cr, rfl, hj, rfl, hms, k⟩
  refine cond_split (fun hcd => ?_) (fun hcd => ?_)
  · have hjl : j < 12 := by have : (j : Int) < 12 := of_decide_eq_true hcd; omega
    refine ⟨_, _, _, k.rd (by rfl), k.vnew fun b77 h78 k => ?_⟩
    have k := k.sel 10 [0, 4, 1, 2, 3, 5, 6, 7, 8, 9] rfl (by decide) (L' := [A.blk b77 [Value.int .i64 777].toArray 38, A.vec 38 1 te (u.errs.length + j) ce ((u.errs ++ List.replicate j 777).map fun n : Int => Value.int .i64 n), _, _, _, _, _, _, _, _]) (by rfl)
    refine app1 T28 k rfl (fun v hv => by simp at hv; subst hv; rfl) (by omega) fun te' ce' h80 k => ⟨_, _, _, rfl, k.vst (Nat.le_of_ble_eq_true (by rfl)) fun h82 k => ⟨_, _, _, k.rd (by rfl), k.vnew fun b84 h85 k => ?_⟩⟩
    -- [b84, te', b15, vals, b1, tn, th, tr, all, all2]
    have k := k.sel 10 [0, 5, 1, 2, 3, 4, 6, 7, 8, 9] rfl (by decide) (L' := [A.blk b84 [strV mkS].toArray 9, A.vec 9 1 tn (u.names.length + j) cn ((u.names ++ List.replicate j mkS).map strV), _, _, _, _, _, _, _, _]) (by rfl)
    refine app1 T23 k rfl (fun v hv => by simp at hv; subst hv; rfl) (by omega) fun tn' cn' h87 k => ⟨_, _, _, rfl, k.vst (Nat.le_of_ble_eq_true (by rfl)) fun h89 k => ⟨_, _, _, k.rd (by rfl), k.vnew fun b91 h92 k => ?_⟩⟩
    -- [b91, tn', te', b15, vals, b1, th, tr, all, all2]
    have k := k.sel 10 [0, 6, 1, 2, 3, 4, 5, 7, 8, 9] rfl (by decide) (L' := [A.blk b91 (hC mkH).toArray 114, A.vec 114 2 th (u.hits.length + j) ch ((List.zipWith h3 u.hits ss ++ List.replicate j mkH).flatMap hC), _, _, _, _, _, _, _, _]) (by rfl)
    refine app1 T29 k rfl (fun v hv => by simp [hC] at hv; rcases hv with rfl | rfl <;> rfl) (by omega) fun th' ch' h94 k => ⟨_, _, _, rfl, k.vst (Nat.le_of_ble_eq_true (by rfl)) fun h96 k => ⟨_, _, _, k.rd (by rfl), k.vnew fun b98 h99 k => k.vnew fun b100 h101 k => ?_⟩⟩
    -- [b100, b98, th', tn', te', b15, vals, b1, tr, all, all2]
    have k := k.sel 11 [0, 8, 1, 10, 2, 3, 4, 5, 6, 7, 9] rfl (by decide) (L' := [A.blk b100 (mkRowE.cells b98).toArray 112, A.vec 112 1 tr (u.rows.length + j) cr (s2.flatMap rC ++ ms.flatMap mkRowE.cells), mkRowE.own b98, A.all (ms.map mkRowE.own), _, _, _, _, _, _, _]) (by rfl)
    refine app1 TR30 k rfl (mkRowE.one b98) (by omega) fun tr' cr' h103 k => ⟨_, _, _, rfl, k.vst (Nat.le_of_ble_eq_true (by rfl)) fun h105 k => ⟨12 - (j + 1), by omega, j + 1, ms ++ [b98], te', ce', tn', cn', th', ch', tr', cr', wrap_nat hjl (by omega), hjl, rfl, by rw [List.length_append, hms]; rfl, ?_⟩⟩
    have ee : (u.errs ++ List.replicate j 777).map (fun n : Int => Value.int .i64 n) ++ [Value.int .i64 777] = (u.errs ++ List.replicate (j + 1) 777).map fun n : Int => Value.int .i64 n := by
      rw [List.replicate_succ', ← List.append_assoc, List.map_append (l₁ := u.errs ++ List.replicate j 777)]; rfl
    have en : (u.names ++ List.replicate j mkS).map strV ++ [strV mkS] = (u.names ++ List.replicate (j + 1) mkS).map strV := by
      rw [List.replicate_succ', ← List.append_assoc, List.map_append (l₁ := u.names ++ List.replicate j mkS)]; rfl
    have eh : (List.zipWith h3 u.hits ss ++ List.replicate j mkH).flatMap hC ++ hC mkH = (List.zipWith h3 u.hits ss ++ List.replicate (j + 1) mkH).flatMap hC := by
      rw [List.replicate_succ', ← List.append_assoc, List.flatMap_append (xs := List.zipWith h3 u.hits ss ++ List.replicate j mkH)]; rfl
    have er : s2.flatMap rC ++ ms.flatMap mkRowE.cells ++ mkRowE.cells b98 = s2.flatMap rC ++ (ms ++ [b98]).flatMap mkRowE.cells := by
      rw [List.flatMap_append (xs := ms), List.append_assoc]; rfl
    rw [ee, en, eh, er] at k
    -- [tr', own, all2, th', tn', te', b15, vals, b1, all]
    have k := k.sel 10 [1, 2, 6, 7, 8, 5, 4, 3, 0, 9] rfl (by decide) (L' := [mkRowE.own b98, A.all (ms.map mkRowE.own), A.blk b15 (taV u ga u.errs.length gc ha u.hits.length hc na u.names.length nc ra u.rows.length rc te' (u.errs.length + (j + 1)) ce' tn' (u.names.length + (j + 1)) cn' th' (u.hits.length + (j + 1)) ch' tr' (u.rows.length + (j + 1)) cr' tv (u.hits.length + u.rows.length) cv).toArray 83, _, _, _, _, _, _, _]) (by rfl)
    have k := (k.allIn).allPerm (L' := (ms ++ [b98]).map mkRowE.own) (by rw [List.map_append]; exact (List.perm_append_singleton _ _).symm)
    exact k.sel 9 [1, 2, 3, 4, 5, 6, 7, 8, 0] rfl (by decide) (L' := [_, _, _, _, _, _, _, _, _]) (by rfl)
  have hjl : j = 12 := by have : ¬ (j : Int) < 12 := of_decide_eq_false hcd; omega
  subst hjl
  clear hcd hj
  have hce := (St.vec (a := te) k).1.le
  have hcn := (St.vec (a := tn) k).1.le
  have hch := (St.vec (a := th) k).1.le
  have hcr : u.rows.length + 12 ≤ cr := by
    have k := k.sel 9 [6, 0, 1, 2, 3, 4, 5, 7, 8] rfl (by decide) (L' := [A.vec 112 1 tr (u.rows.length + 12) cr (s2.flatMap rC ++ ms.flatMap mkRowE.cells), _, _, _, _, _, _, _, _]) (by rfl)
    exact (St.vec (a := tr) k).1.le
  refine ⟨_, _, _, k.rd (by rfl), _, _, _, k.rd (by rfl), _, _, _, k.rd (by rfl), vfront rfl rfl (by omega) hce (k.vst (Nat.le_of_ble_eq_true (by rfl)) fun h110 k => ?_)⟩
  refine ⟨_, _, _, k.rd (by rfl), _, _, _, k.rd (by rfl), _, _, _, k.rd (by rfl), vfront rfl rfl (by omega) hcn (k.vst (Nat.le_of_ble_eq_true (by rfl)) fun h115 k => ?_)⟩
  refine ⟨_, _, _, k.rd (by rfl), _, _, _, k.rd (by rfl), _, _, _, k.rd (by rfl), vfront rfl rfl (by omega) hch (k.vst (Nat.le_of_ble_eq_true (by rfl)) fun h120 k => ?_)⟩
  refine ⟨_, _, _, k.rd (by rfl), _, _, _, k.rd (by rfl), _, _, _, k.rd (by rfl), vfront rfl rfl (by omega) hcr (k.vst (Nat.le_of_ble_eq_true (by rfl)) fun h125 k => ?_)⟩
  refine ⟨b15, te, ce, tn, cn, th, ch, tr, cr, tv, cv, rfl, k.own_ fun F h k => ?_⟩
  refine ⟨(k.slB (b := b15)).ro, hce, hcn, hch, hcr, (k.sl (a := te)).ro, (k.sl (a := tn)).ro, ss, s2, ms, hss, hss2, hms, (k.sl (a := th)).ro, ?_, ?_, ?_, ?_⟩
  · have k := k.sel 9 [6, 0, 1, 2, 3, 4, 5, 7, 8] rfl (by decide) (L' := [A.vec 112 1 tr (u.rows.length + 12) cr (s2.flatMap rC ++ ms.flatMap mkRowE.cells), _, _, _, _, _, _, _, _]) (by rfl)
    exact (k.sl (a := tr)).ro
  · have k := k.sel 9 [1, 0, 2, 3, 4, 5, 6, 7, 8] rfl (by decide) (L' := [A.vec 112 1 tv (u.hits.length + u.rows.length) cv ((ss ++ s2).flatMap vc), _, _, _, _, _, _, _, _]) (by rfl)
    exact (k.sl (a := tv)).ro
  · have ka := k.sel 9 [7, 0, 1, 2, 3, 4, 5, 6, 8] rfl (by decide) (L' := [A.all ((ss ++ s2).map vwE.own), _, _, _, _, _, _, _, _]) (by rfl)
    exact fun s hs => El.all_rd (E := vwE) ka hs
  · have ka := k.sel 9 [8, 0, 1, 2, 3, 4, 5, 6, 7] rfl (by decide) (L' := [A.all (ms.map mkRowE.own), _, _, _, _, _, _, _, _]) (by rfl)
    exact fun b hb => El.all_rd (E := mkRowE) (s := b) ka hb
end
end Go.Proofs.YtgdgebmlcgohhaaGreatDoor.F
