/- The laws of the log: a story of states, read and told. Conditions: none. -/
import Derived.Test.YtbaglaoefaoaoaaDoorLF
import Derived.Test.YtbaglaoefaoaoaaDoorP5
namespace Go.Proofs.YtbaglaoefaoaoaaDoor.F
open Go Go.VC Go.Proofs
set_option linter.unusedSimpArgs false
set_option linter.unusedVariables false
set_option maxRecDepth 100000
attribute [local irreducible] CallsH RunsTo PureTo

variable {S F G : Nat → Prop} {h0 h h1 : Heap} {L R L' : List A} {a b0 la wa : Option Addr} {l c l2 c2 p b cl cw : Nat} {bs cs : List UInt8} {bss css : List Bytes} {s : LogS}
theorem T51 : SlTy Tryd.prog 51 50 2 32 (.agg #[.int .i64 0, .slice none 0 0]) := ⟨by kernel_rfl, by kernel_rfl, rfl, by omega, by omega⟩
theorem und51 : Tryd.prog.underlying 51 = some (.slice 50) := by kernel_rfl
/-- Lists that nobody writes any more. -/
abbrev Ps := List (Option Addr × List Sg)
def lies (F : Nat → Prop) (h : Heap) (q : Option Addr × List Sg) : Prop := Ro F h q.1 (q.2.map sgV) ∧ ∀ x ∈ q.2, Ro F h x.a (bytesV x.bs) ∧ x.bs.length = x.l ∧ x.l ≤ x.c
theorem lies.sub {q : Option Addr × List Sg} (k : lies F h q) (hg : ∀ b, G b → F b ∨ h.size ≤ b) : lies G h q := ⟨k.1.sub hg, fun x hx => ⟨(k.2 x hx).1.sub hg, (k.2 x hx).2⟩⟩
theorem lies.mod {q : Option Addr × List Sg} (k : lies F h q) (m : Mod F h h1) : lies F h1 q := ⟨k.1.mod m, fun x hx => ⟨(k.2 x hx).1.mod m, (k.2 x hx).2⟩⟩
theorem lies.roL {q : Option Addr × List Sg} (k : lies F h q) : RoL F h q.1 q.2.length (q.2.map Sg.bs) := ⟨q.2, k.1, k.2, rfl, List.length_map _⟩
theorem Ro.keep {h h' : Heap} {a : Option Addr} {vs : List Value} (k : Ro (fun b => ¬ F b) h a vs) (e : ∀ b, F b → h'[b]? = h[b]?) : Ro (fun b => ¬ F b) h' a vs := fun j v hj => by
  obtain ⟨ad, rfl, hc, hn⟩ := k j v hj
  refine ⟨ad, rfl, ?_, hn⟩
  have := e ad.block (Classical.not_not.1 hn)
  unfold cellH at *
  rw [add_block] at *
  rw [this]; exact hc
def Pool (ps : Ps) : A where
  P F h := (∀ b, F b → b < h.size) ∧ ∀ q ∈ ps, lies (fun b => ¬ F b) h q
  loc F h h' k e := ⟨fun b hb => by
      have h1 := k.1 b hb
      have h2 := e b hb
      rw [Array.getElem?_eq_getElem h1] at h2
      exact (Array.getElem?_eq_some_iff.1 h2).1, fun q hq => ⟨Ro.keep (k.2 q hq).1 e, fun x hx => ⟨Ro.keep ((k.2 q hq).2 x hx).1 e, ((k.2 q hq).2 x hx).2⟩⟩⟩
  lt F h k := k.1
theorem _root_.Go.VC.St.pool0 (k : St S h0 h R) : St S h0 h (Pool [] :: R) :=
  k.add (L' := [Pool []]) ⟨.refl _ _, none_, .mk1 ⟨fun _ h => h.elim, by simp⟩, fun _ h => h.elim⟩
theorem Pool.nil {ps : Ps} (k : St S h0 h (Pool ps :: R)) : St S h0 h (Pool ((none, []) :: ps) :: R) :=
  k.turn (L := [_]) fun F q => ⟨F, .mk1 ⟨q.1, fun x hx => by
    rcases List.mem_cons.1 hx with rfl | hx
    · exact ⟨.nil _ _ _, by simp⟩
    · exact q.2 x hx⟩, fun _ => id⟩
theorem Pool.get {ps : Ps} (k : St S h0 h L) (hm : Pool ps ∈ L) : ∀ q ∈ ps, lies none_ h q := by
  obtain ⟨F, hh, hf⟩ := k.own
  obtain ⟨F', k', _⟩ := hh.get hm
  exact fun q hq => (k'.2 q hq).sub fun b hb => hb.elim
/-- One more list, of rows that lie there and one that is new. -/
theorem Pool.put {ps : Ps} {xs : List Sg} {x : Sg} (hx : ∀ y ∈ xs, ∃ q ∈ ps, y ∈ q.2) (k : St S h0 h (A.vec 26 1 a l c ((xs ++ [x]).map sgV) :: BS x :: Pool ps :: R)) : St S h0 h (Pool ((a, xs ++ [x]) :: ps) :: R) := by
  refine St.turnL (K := [A.vec 26 1 a l c ((xs ++ [x]).map sgV), BS x, Pool ps]) (L := [_]) k fun F kF => ?_
  obtain ⟨F1, F2, k1, ⟨F3, F4, k3, k4, d', e'⟩, d, e⟩ := kF
  have k4 := holds1.1 k4
  refine ⟨F, .mk1 ⟨fun b hb => ?_, fun q hq => ?_⟩, fun _ => id⟩
  · rcases (e b).1 hb with h1 | h1
    · exact A.lt _ _ _ k1 b h1
    · rcases (e' b).1 h1 with h2 | h2
      · exact A.lt _ _ _ k3 b h2
      · exact k4.1 b h2
  · have sub4 : ∀ q ∈ ps, lies (fun b => ¬ F b) h q := fun q hq => (k4.2 q hq).sub fun b hb => .inl fun h4 => hb ((e b).2 (.inr ((e' b).2 (.inr h4))))
    rcases List.mem_cons.1 hq with rfl | hq
    · refine ⟨A.vec_ro k1 fun b hb h1 => hb ((e b).2 (.inl h1)), fun y hy => ?_⟩
      rcases List.mem_append.1 hy with hy | hy
      · obtain ⟨q, hq, hyq⟩ := hx y hy
        exact (sub4 q hq).2 y hyq
      · simp only [List.mem_singleton] at hy
        subst hy
        refine ⟨A.vec_ro k3 fun b hb h1 => hb ((e b).2 (.inr ((e' b).2 (.inl h1)))), ?_, k3.1.le⟩
        have := k3.1.len
        rwa [bytesV_len, Nat.mul_one] at this
    · exact sub4 q hq
structure SmM where
  bytes : Nat
  a : Option Addr
  c : Nat
  xs : List Sg
def smC (m : SmM) : List Value := [.int .i64 m.bytes, .slice m.a m.xs.length m.c]
def smP (m : SmM) : Nat × List Bytes := (m.bytes, m.xs.map Sg.bs)
/-- A story, as it may be read. -/
def StoR (h : Heap) (b : Nat) (ms : List SmM) : Prop := ∃ sa sc, cellH h ⟨b, 0, none⟩ = some (.slice sa ms.length sc) ∧ Sl h sa (ms.flatMap smC) ∧ ∀ m ∈ ms, lies none_ h (m.a, m.xs)
theorem StoR.ext {ms : List SmM} (k : StoR h b ms) (m : Ext h h1) : StoR h1 b ms := by
  obtain ⟨sa, sc, q1, q2, q3⟩ := k
  exact ⟨sa, sc, cellH_mod q1 m id, q2.ext m, fun x hx => (q3 x hx).mod m⟩
def StoA (b : Nat) (ms : List SmM) : A := A.ex fun q : Option Addr × Nat × Ps => A.fact (∀ m ∈ ms, (m.a, m.xs) ∈ q.2.2) (A.all [A.blk b #[.slice q.1 ms.length q.2.1] 53, A.vec 50 2 q.1 ms.length q.2.1 (ms.flatMap smC), Pool q.2.2])
theorem StoA.open {ms : List SmM} (k : St S h0 h (StoA b ms :: R)) : ∃ sa sc ps, (∀ m ∈ ms, (m.a, m.xs) ∈ ps) ∧ St S h0 h (A.blk b #[.slice sa ms.length sc] 53 :: A.vec 50 2 sa ms.length sc (ms.flatMap smC) :: Pool ps :: R) := by
  obtain ⟨⟨sa, sc, ps⟩, k⟩ := St.opens k
  obtain ⟨he, k⟩ := k.facts
  exact ⟨sa, sc, ps, he, St.open k⟩
theorem StoA.close {ms : List SmM} {sa : Option Addr} {sc n : Nat} {ps : Ps} (hn : n = ms.length) (he : ∀ m ∈ ms, (m.a, m.xs) ∈ ps) (k : St S h0 h (A.blk b #[.slice sa n sc] 53 :: A.vec 50 2 sa n sc (ms.flatMap smC) :: Pool ps :: R)) : St S h0 h (StoA b ms :: R) := by
  subst hn
  exact St.closes (f := fun q : Option Addr × Nat × Ps => A.fact (∀ m ∈ ms, (m.a, m.xs) ∈ q.2.2) (A.all [A.blk b #[.slice q.1 ms.length q.2.1] 53, A.vec 50 2 q.1 ms.length q.2.1 (ms.flatMap smC), Pool q.2.2])) (x := (sa, sc, ps)) (St.mkfact he (St.close (L := [_, _, _]) k))
theorem StoA.r {ms : List SmM} (k : St S h0 h (StoA b ms :: R)) : StoR h b ms := by
  obtain ⟨sa, sc, ps, he, k⟩ := StoA.open k
  have hp := Pool.get (ps := ps) k (by simp)
  exact ⟨sa, sc, k.rd (by rfl), k.sl (a := sa), fun m hm => hp _ (he m hm)⟩
theorem last_spec {init : List SmM} {m : SmM} (hs : StoR h b (init ++ [m])) (hlb : init.length < 1000000) : CallsH Tryd.prog 39 #[.pointer (some ⟨b, 0, none⟩)] h (fun v h' => v = .agg #[.int .i64 m.bytes, .slice m.a m.xs.length m.c] ∧ Ext h h') := by
  refine vf39 _ h _ ?_
  unfold F39
  have k := St.fresh h
  refine k.vnew fun b1 h1 k => ?_
  obtain ⟨sa, sc, q1, q2, q3⟩ := hs.ext k.ext
  have el : (init ++ [m]).length = init.length + 1 := by simp
  refine VSome.mk ⟨_, _, _, q1, VSome.mk ⟨_, _, _, q1, ?_⟩⟩
  have ew : IntKind.i64.wrap (((init ++ [m]).length : Int) - 1) = (init.length : Int) := by
    rw [el, wrap_id (by omega) (by omega)]; omega
  rw [ew]
  refine q2.row (f := smC) (fun _ => rfl) (by omega) rfl (by omega) (by omega) fun ad m' hm hcell => ?_
  have em : m' = m := by
    rw [Int.toNat_natCast, List.getElem?_append_right (Nat.le_refl _), Nat.sub_self] at hm
    exact (Option.some.inj hm).symm
  subst em
  refine ⟨_, hcell 0 _ rfl, _, _, _, hcell 1 _ rfl, ?_⟩
  refine k.vall (by rfl) (by rfl) fun h2 k => ⟨_, k.rd (by rfl), _, _, _, k.rd (by rfl), rfl, k.ext⟩
theorem when_spec {ms : List SmM} (keep : Int) (hs : StoR h b ms) (hne : ms ≠ []) (hlb : ms.length < 1000000) : CallsH Tryd.prog 16 #[.pointer (some ⟨b, 0, none⟩), .int .i64 keep] h (fun v h' => (∃ m ∈ ms, v = .slice m.a m.xs.length m.c ∧ m.xs.map Sg.bs = whenP (ms.map smP) keep) ∧ h' = h) := by
  refine vf16 _ _ h _ ?_
  unfold F16
  obtain ⟨sa, sc, q1, q2, q3⟩ := hs
  have hpos : 0 < ms.length := List.length_pos_iff.2 hne
  refine VSome.mk ⟨_, _, _, q1, q2.row (f := smC) (fun _ => rfl) (by omega) rfl (by omega) (by omega) fun ad m0 hm0 hcell => ⟨_, _, _, hcell 1 _ rfl, ?_⟩⟩
  refine ⟨fun n hh l ll cl i => ∃ (j : Nat) (m : SmM), i = j ∧ 1 ≤ j ∧ j ≤ ms.length ∧ n = ms.length - j ∧ hh = h ∧ m ∈ ms ∧ l = m.a ∧ ll = m.xs.length ∧ cl = m.c ∧ m.xs.map Sg.bs = whenP ((ms.take j).map smP) keep,
    ⟨_, 1, m0, rfl, by omega, by omega, rfl, rfl, List.mem_of_getElem? hm0, rfl, rfl, rfl, ?_⟩, ?_⟩
  · cases ms with
    | nil => exact absurd rfl hne
    | cons x r =>
      cases hm0
      rfl
  rintro n hh _ _ _ _ i ⟨j, m, rfl, hj1, hj, rfl, rfl, hm, rfl, rfl, rfl, hw⟩
  refine VSome.mk ⟨_, _, _, q1, cond_split (fun hc => ?_) (fun hc => ?_)⟩
  · have hjl : j < ms.length := Int.ofNat_lt.1 (of_decide_eq_true hc)
    obtain ⟨x, hx⟩ : ∃ x, ms[j]? = some x := ⟨_, List.getElem?_eq_getElem hjl⟩
    have ht : (ms.take (j + 1)).map smP = (ms.take j).map smP ++ [smP x] := by rw [List.take_add_one, hx]; simp
    have hw2 : whenP ((ms.take (j + 1)).map smP) keep = if (x.bytes : Int) ≤ keep then x.xs.map Sg.bs else whenP ((ms.take j).map smP) keep := by
      rw [ht, when_snoc (by
        intro h0
        have := congrArg List.length h0
        rw [List.length_map, List.length_take, List.length_nil] at this
        omega)]
      rfl
    have key : ∀ {K : Addr → Prop}, (∀ ad, (∀ r v, (smC x)[r]? = some v → cellH hh (addN ad r) = some v) → K ad) → VIdx sa ms.length (j : Int) 2 K := fun q =>
      q2.row (f := smC) (fun _ => rfl) (by omega) rfl (by omega) (by omega) fun ad x' hx' hcell => by
        rw [Int.toNat_natCast, hx] at hx'
        cases hx'
        exact q ad hcell
    refine ⟨fun h' l ll cl => ∃ m : SmM, h' = hh ∧ m ∈ ms ∧ l = m.a ∧ ll = m.xs.length ∧ cl = m.c ∧ m.xs.map Sg.bs = whenP ((ms.take (j + 1)).map smP) keep, VSome.mk ⟨_, _, _, q1, key fun ad hcell => ⟨_, hcell 0 _ rfl, cond_split (fun hk => ?_) (fun hk => ?_)⟩⟩, ?_⟩
    · refine VSome.mk ⟨_, _, _, q1, key fun ad hcell => ⟨_, _, _, hcell 1 _ rfl, x, rfl, List.mem_of_getElem? hx, rfl, rfl, rfl, ?_⟩⟩
      rw [hw2, if_pos (of_decide_eq_true hk)]
    · refine ⟨m, rfl, hm, rfl, rfl, rfl, ?_⟩
      rw [hw2, if_neg (of_decide_eq_false hk)]; exact hw
    · rintro h' _ _ _ _ ⟨m, rfl, hm, rfl, rfl, rfl, hw⟩
      exact ⟨ms.length - (j + 1), by omega, j + 1, m, wrap_nat hjl (by omega), by omega, hjl, rfl, rfl, hm, rfl, rfl, rfl, hw⟩
  · have hjl : j = ms.length := by
      have : ¬ (j : Int) < ms.length := of_decide_eq_false hc
      omega
    subst hjl
    rw [List.take_length] at hw
    exact ⟨⟨m, hm, rfl, hw⟩, rfl⟩
theorem recovers_spec {ms : List SmM} {init : List (Nat × List Bytes)} {recs : List Bytes} (keep : Int) (hT : Tab none_ h) (hs : StoR h b ms) (hl : LogRo none_ h p s) (inv : Inv s init recs) (e : ms.map smP = init ++ [(dirtyS s.ws, recs)]) (hb : s.big ≤ 2147483648) (hlb : ms.length < 1000000) (hk : keep < 9223372036854775808) :
    CallsH Tryd.prog 17 #[.pointer (some ⟨b, 0, none⟩), .pointer (some ⟨p, 0, none⟩), .int .i64 keep] h (fun v h' => v = .bool true ∧ Ext h h') := by
  refine vf17 _ _ _ h _ ?_
  unfold F17
  have k := St.fresh h
  refine CallsH.mono (crash_spec keep hl inv.ok.ws (by omega) hk) ?_
  rintro _ h2 ⟨a3, l3, c3, rfl, k3⟩
  have k := k.add1 k3
  have hbig : tot s.segs + wtot s.ws ≤ 2147483648 := hb
  have ht : tot (downS s.segs s.ws keep.toNat) ≤ tot s.segs + wtot s.ws := tot_steps s.ws (s.segs, keep.toNat)
  obtain ⟨st, ho, hr, _⟩ := inv.opens (by omega) keep
  refine ⟨_, _, _, rfl, CallsH.mono (open_spec (hT.in k) (k.roL (a := a3)) (by omega)) ?_⟩
  rintro _ h5 (⟨hS, _⟩ | ⟨st', q, ra, rl, rc, hS, rfl, k5⟩)
  · rw [ho] at hS; cases hS
  have est : st = st' := by rw [ho] at hS; exact Option.some.inj hS
  subst est
  have k := k.add2 k5
  have hne : ms ≠ [] := by
    rintro rfl
    have := congrArg List.length e
    simp at this
  refine ⟨_, _, _, _, _, rfl, cond_true rfl (CallsH.mono (when_spec keep (hs.ext k.ext) hne hlb) ?_)⟩
  rintro _ _ ⟨⟨m, hm, rfl, hw⟩, rfl⟩
  obtain ⟨_, _, _, _, q3⟩ := hs.ext k.ext
  have hto := (openS_ok ho).2.2.2.1
  refine ⟨_, _, _, rfl, CallsH.mono (sameLists_spec (k.roL (a := ra)) (q3 m hm).roL (by omega)) ?_⟩
  rintro _ _ ⟨rfl, rfl⟩
  refine ⟨_, rfl, ?_, k.ext⟩
  rw [decide_eq_true]
  show st.recs = m.xs.map Sg.bs
  rw [hw, e, hr]
end Go.Proofs.YtbaglaoefaoaoaaDoor.F
