/- Package log: a log in memory; what lies down, Dirty, Crash; writes. Conditions: none. -/
import Derived.Test.YtbaglaoefaoaoaaDoorP2
namespace Go.Proofs.YtbaglaoefaoaoaaDoor.F
open Go Go.VC Go.Proofs
set_option linter.unusedSimpArgs false
set_option linter.unusedVariables false
set_option maxRecDepth 100000
attribute [local irreducible] CallsH RunsTo PureTo

abbrev WrM := Nat × Nat × Sg
def wrC (w : WrM) : List Value := [.int .i64 w.1, .int .i64 w.2.1, sgV w.2.2]
theorem wrC_len (w : WrM) : (wrC w).length = 3 := rfl
def wrS (w : WrM) : Wr := (w.1, w.2.1, w.2.2.bs)
def RoW (F : Nat → Prop) (h : Heap) (a : Option Addr) (l : Nat) (ws : List Wr) : Prop :=
  ∃ xs : List WrM, Ro F h a (xs.flatMap wrC) ∧ (∀ x ∈ xs, Ro F h x.2.2.a (bytesV x.2.2.bs) ∧ x.2.2.bs.length = x.2.2.l ∧ x.2.2.l ≤ x.2.2.c) ∧ xs.map wrS = ws ∧ ws.length = l
def logC (sa : Option Addr) (sl sc : Nat) (wa : Option Addr) (wl wc : Nat) (s : LogS) : List Value := [.slice sa sl sc, .slice wa wl wc, .int .i64 s.cur, u32V s.num, u32V s.frames, .int .i64 s.fin]
/-- A log that others hold, away from F. -/
def LogRo (F : Nat → Prop) (h : Heap) (p : Nat) (s : LogS) : Prop := ∃ sa sl sc wa wl wc, Ro F h (some ⟨p, 0, none⟩) (logC sa sl sc wa wl wc s) ∧ RoL F h sa sl s.segs ∧ RoW F h wa wl s.ws
/-- A log that is held (t, te: the types of its block and of its writes). -/
def LogA (t te : Nat) (p : Nat) (s : LogS) : A :=
  A.ex fun (m : (Option Addr × Nat × Nat) × (Option Addr × Nat × Nat) × List WrM) => A.fact (m.2.2.map wrS = s.ws)
    (A.all [A.blk p (logC m.1.1 m.1.2.1 m.1.2.2 m.2.1.1 m.2.1.2.1 m.2.1.2.2 s).toArray t, LV m.1.1 m.1.2.1 m.1.2.2 s.segs, A.vec te 3 m.2.1.1 m.2.1.2.1 m.2.1.2.2 (m.2.2.flatMap wrC), A.all (m.2.2.map fun x => BS x.2.2)])
variable {S F G : Nat → Prop} {h0 h h1 : Heap} {L R L' : List A} {a : Option Addr} {l c : Nat} {bs : List UInt8} {bss : List (List UInt8)} {t te p : Nat} {s : LogS}
theorem LogA.open (k : St S h0 h (LogA t te p s :: R)) : ∃ sa sl sc wa wl wc, ∃ xs : List WrM, xs.map wrS = s.ws ∧ St S h0 h (A.blk p (logC sa sl sc wa wl wc s).toArray t :: LV sa sl sc s.segs :: A.vec te 3 wa wl wc (xs.flatMap wrC) :: A.all (xs.map fun x => BS x.2.2) :: R) := by
  obtain ⟨⟨⟨sa, sl, sc⟩, ⟨wa, wl, wc⟩, xs⟩, k⟩ := St.opens k
  obtain ⟨he, k⟩ := k.facts
  exact ⟨sa, sl, sc, wa, wl, wc, xs, he, St.open k⟩
theorem LogA.close {sa wa : Option Addr} {sl sc wl wc : Nat} {xs : List WrM} (he : xs.map wrS = s.ws) (k : St S h0 h (A.blk p (logC sa sl sc wa wl wc s).toArray t :: LV sa sl sc s.segs :: A.vec te 3 wa wl wc (xs.flatMap wrC) :: A.all (xs.map fun x => BS x.2.2) :: R)) : St S h0 h (LogA t te p s :: R) :=
  St.closes (f := fun (m : (Option Addr × Nat × Nat) × (Option Addr × Nat × Nat) × List WrM) => A.fact (m.2.2.map wrS = s.ws)
    (A.all [A.blk p (logC m.1.1 m.1.2.1 m.1.2.2 m.2.1.1 m.2.1.2.1 m.2.1.2.2 s).toArray t, LV m.1.1 m.1.2.1 m.1.2.2 s.segs, A.vec te 3 m.2.1.1 m.2.1.2.1 m.2.1.2.2 (m.2.2.flatMap wrC), A.all (m.2.2.map fun x => BS x.2.2)]))
    (x := ⟨⟨sa, sl, sc⟩, ⟨wa, wl, wc⟩, xs⟩) (St.mkfact he (St.close (L := [_, _, _, _]) k))
theorem LogA.ro (k' : (LogA t te p s).P G h) (d : ∀ b, F b → ¬ G b) : LogRo F h p s := by
  obtain ⟨⟨⟨sa, sl, sc⟩, ⟨wa, wl, wc⟩, xs⟩, he, F1, F2, k1, ⟨F3, F4, k3, ⟨F5, F6, k5, k6, d6, e6⟩, d4, e4⟩, dd, e⟩ := k'
  have k7 := k6.one
  refine ⟨sa, sl, sc, wa, wl, wc, fun j v hj => ?_, LV.roL k3 fun b hb h1 => d b hb ((e b).2 (.inr ((e4 b).2 (.inl h1)))), xs, A.vec_ro k5 fun b hb h1 => d b hb ((e b).2 (.inr ((e4 b).2 (.inr ((e6 b).2 (.inl h1)))))), fun x hx => ?_, he, ?_⟩
  · refine ⟨_, rfl, ?_, fun hb => d _ hb ((e _).2 (.inl ((k1.2 _).2 rfl)))⟩
    rw [add_plain, k1.1.cell, Nat.zero_add]; simpa using hj
  · obtain ⟨F', k3, hs⟩ := (show Holds (xs.map fun x => BS x.2.2) F6 h from k7).get (List.mem_map_of_mem (f := fun x : WrM => BS x.2.2) hx)
    refine ⟨A.vec_ro k3 fun b hb h1 => d b hb ((e b).2 (.inr ((e4 b).2 (.inr ((e6 b).2 (.inr (hs b h1))))))), ?_, k3.1.le⟩
    have := k3.1.len
    rwa [bytesV_len, Nat.mul_one] at this
  · have := k5.1.len
    rw [flatMap_len wrC_len] at this
    rw [← he, List.length_map]; exact Nat.eq_of_mul_eq_mul_right (by omega : 0 < 3) this
theorem LogRo.at (k : LogRo S h0 p s) (m : Mod S h0 h) (hf : ∀ b, F b → S b ∨ h0.size ≤ b) : LogRo F h p s := by
  obtain ⟨sa, sl, sc, wa, wl, wc, q1, q2, xs, q3, q4, q5⟩ := k
  exact ⟨sa, sl, sc, wa, wl, wc, q1.at m hf, q2.at m hf, xs, q3.at m hf, fun x hx => ⟨(q4 x hx).1.at m hf, (q4 x hx).2⟩, q5⟩
theorem LogRo.in (k : LogRo S h0 p s) (q : St S h0 h L) : LogRo none_ h p s := k.at q.ext fun _ h => h.elim
class InG (L : List A) (p : Nat) (t te : outParam Nat) (s : outParam LogS) : Prop where
  mem : LogA t te p s ∈ L
instance (priority := high) InG.head : InG (LogA t te p s :: L) p t te s := ⟨List.mem_cons_self⟩
instance InG.tail {x : A} [k : InG L p t te s] : InG (x :: L) p t te s := ⟨List.mem_cons_of_mem _ k.mem⟩
theorem _root_.Go.VC.St.log (k : St S h0 h L) {p : Nat} [q : InG L p t te s] : LogRo none_ h p s := by
  obtain ⟨F, hh, hf⟩ := k.own
  obtain ⟨F', k', _⟩ := hh.get q.mem
  exact LogA.ro k' fun _ h => h.elim
/-- A part of the log's block. -/
theorem LogRo.rd {sa wa : Option Addr} {sl sc wl wc : Nat} (k : Ro F h (some ⟨p, 0, none⟩) (logC sa sl sc wa wl wc s)) (i : Nat) (v : Value) (hv : (logC sa sl sc wa wl wc s)[i]? = some v) : cellH h ⟨p, i, none⟩ = some v := by
  obtain ⟨ad, h1, h2, _⟩ := k i v hv
  cases h1
  rwa [add_plain, Nat.zero_add] at h2

/-! ### What lies down -/
theorem down_spec {k : Nat} (hs : LogRo none_ h p s) (hok : okD s.segs s.ws) (hb : s.big ≤ 549755813888) (hk : k < 9223372036854775808) :
    CallsH Tryd.prog 29 #[.pointer (some ⟨p, 0, none⟩), .int .i64 k] h (fun v h' => ∃ q a' l' c', v = .pointer (some ⟨q, 0, none⟩) ∧ St none_ h h' [A.blk q #[.slice a' l' c'] 75, LV a' l' c' (downS s.segs s.ws k)]) := by
  obtain ⟨sa, sl, sc, wa, wl, wc, q1, q2, xs, q3, q4, q5, q6⟩ := hs
  refine vf29 _ _ h _ ?_
  unfold F29
  have hbig : tot s.segs + wtot s.ws ≤ 549755813888 := hb
  refine VSome.mk (CallsH.mono (twin_spec (LogRo.rd q1 0 _ rfl) q2 (by omega)) ?_)
  rintro _ h1 ⟨q, a1, c1, rfl, st⟩
  have hwl := wtot_len s.ws
  have hxl : xs.length = wl := by rw [← q6, ← q5, List.length_map]
  refine ⟨_, rfl, VSome.mk ⟨_, _, _, LogRo.rd (q1.in st) 1 _ rfl, ?_⟩⟩
  refine ⟨fun n hh keep y => ∃ (j k' : Nat) (a' : Option Addr) (l' c' : Nat), y = j ∧ keep = k' ∧ k' ≤ k ∧ j ≤ wl ∧ n = wl - j ∧ (s.segs, k).1 = s.segs ∧ k' = ((s.ws.take j).foldl stepD (s.segs, k)).2 ∧ St none_ h hh [A.blk q #[.slice a' l' c'] 75, LV a' l' c' ((s.ws.take j).foldl stepD (s.segs, k)).1],
    ⟨_, 0, k, a1, sl, c1, rfl, rfl, by omega, by omega, rfl, rfl, rfl, st⟩, ?_⟩
  clear st
  rintro n hh _ keep y ⟨j, k', a', l', c', rfl, rfl, hkk, hj, rfl, _, hk', st⟩
  refine cond_split (fun hc => ?_) (fun hc => ?_)
  · have hjl : j < wl := Int.ofNat_lt.1 (of_decide_eq_true hc)
    refine (q3.in st).sl.row wrC_len (by omega) hxl (by omega) (by omega) fun ad x hx get => ⟨_, get 0 _ rfl, _, get 1 _ rfl, _, _, _, get 2 _ rfl, ?_⟩
    rw [Int.toNat_natCast] at hx
    obtain ⟨r1, r2, r3⟩ := q4 x (List.mem_of_getElem? hx)
    have hw : s.ws[j]? = some (wrS x) := by rw [← q5, List.getElem?_map, hx]; rfl
    have hwm := wtot_mem (List.mem_of_getElem? hw)
    have hxlen : (wrS x).2.2.length = x.2.2.l := r2
    refine st.vnew fun b h2 st => ?_
    refine st.vall (by rfl) (by rfl) fun h3 st => ?_
    refine ⟨_, _, _, st.rd (by rfl), _, st.rd (by rfl), _, st.rd (by rfl), _, _, _, st.rd (by rfl), ?_⟩
    have hmin : minI (k' : Int) (x.2.2.l : Int) = ((min k' x.2.2.l : Nat) : Int) := by
      unfold minI; split <;> omega
    rw [hmin]
    have htot := tot_steps (s.ws.take j) (s.segs, k)
    have hwj := wtot_le s.ws j
    generalize hst : (s.ws.take j).foldl stepD (s.segs, k) = acc at *
    obtain ⟨F, G, k1, _, _, hF, back⟩ := st.drop.frameB
    refine CallsH.mono (get_spec (w := x.2.2) k1 ((r1.at (st.drop.ext) hF)) r2 r3 (by omega) (fun hn => ?_) (by simp only at htot; omega)) ?_
    · have h2 := full_steps (s.ws.take j) (s.segs, k) (by rw [hst]; omega)
      rw [hst] at h2
      rw [h2]
      exact ⟨(hok j _ hw).1, (hok j _ hw).2.1⟩
    · rintro _ h4 ⟨rfl, a2, l2, c2, st2⟩
      have st := back st2
      refine ⟨rfl, _, ?_, j + 1, k' - min k' x.2.2.l, a2, l2, c2, wrap_nat hjl (by omega), ?_, by omega, hjl, rfl, rfl, ?_, ?_⟩
      · omega
      · rw [wrap_id (by omega) (by omega)]; omega
      · rw [take_next hw, List.foldl_append, hst, hk', ← hxlen]; rfl
      · rw [take_next hw, List.foldl_append, hst]
        have e : ([wrS x].foldl stepD acc).1 = getS acc.1 x.1 x.2.1 x.2.2.bs (min k' x.2.2.l) := by
          rw [hk', ← hxlen]; rfl
        rw [e]; exact st
  · have hjl : j = wl := by
      have : ¬ (j : Int) < wl := of_decide_eq_false hc
      omega
    subst hjl
    rw [List.take_of_length_le (by omega)] at st
    exact ⟨_, _, _, _, rfl, st⟩
theorem dirty_le (ws : List Wr) (j : Nat) : dirtyS (ws.take j) ≤ dirtyS ws := by
  have : dirtyS (ws.take j ++ ws.drop j) = dirtyS (ws.take j) + dirtyS (ws.drop j) := by simp only [dirtyS, List.map_append, List.sum_append]
  rw [List.take_append_drop] at this; omega
theorem dirty_next {ws : List Wr} {j : Nat} {w : Wr} (h : ws[j]? = some w) : dirtyS (ws.take (j + 1)) = dirtyS (ws.take j) + w.2.2.length := by
  rw [take_next h]
  simp [dirtyS]
theorem dirty_spec (hs : LogRo none_ h p s) (hb : s.big ≤ 549755813888) : CallsH Tryd.prog 11 #[.pointer (some ⟨p, 0, none⟩)] h (fun v h' => v = .int .i64 (dirtyS s.ws) ∧ Ext h h') := by
  obtain ⟨sa, sl, sc, wa, wl, wc, q1, q2, xs, q3, q4, q5, q6⟩ := hs
  refine vf11 _ h _ ?_
  unfold F11
  have hbig : tot s.segs + wtot s.ws ≤ 549755813888 := hb
  have hwl := wtot_len s.ws
  have hdw := dirty_wtot s.ws
  have hxl : xs.length = wl := by rw [← q6, ← q5, List.length_map]
  refine VSome.mk ⟨_, _, _, LogRo.rd q1 1 _ rfl, ?_⟩
  refine ⟨fun n hh z y => ∃ j : Nat, y = j ∧ j ≤ wl ∧ n = wl - j ∧ z = (dirtyS (s.ws.take j) : Int) ∧ St none_ h hh [], ⟨_, 0, rfl, by omega, rfl, rfl, St.fresh h⟩, ?_⟩
  rintro n hh _ z y ⟨j, rfl, hj, rfl, rfl, st⟩
  refine cond_split (fun hc => ?_) (fun hc => ?_)
  · have hjl : j < wl := Int.ofNat_lt.1 (of_decide_eq_true hc)
    refine (q3.in st).sl.row wrC_len (by omega) hxl (by omega) (by omega) fun ad x hx get => ⟨_, get 0 _ rfl, _, get 1 _ rfl, _, _, _, get 2 _ rfl, ?_⟩
    rw [Int.toNat_natCast] at hx
    obtain ⟨r1, r2, r3⟩ := q4 x (List.mem_of_getElem? hx)
    have hw : s.ws[j]? = some (wrS x) := by rw [← q5, List.getElem?_map, hx]; rfl
    refine st.vnew fun b h2 st => ?_
    refine st.vall (by rfl) (by rfl) fun h3 st => ?_
    have hn := dirty_next hw
    have hle := dirty_le s.ws (j + 1)
    have hxlen : (wrS x).2.2.length = x.2.2.l := r2
    refine ⟨_, _, _, st.rd (by rfl), _, ?_, j + 1, wrap_nat hjl (by omega), hjl, rfl, ?_, st.drop⟩
    · omega
    · rw [hn, hxlen, wrap_id (by omega) (by omega)]; omega
  · have hjl : j = wl := by
      have : ¬ (j : Int) < wl := of_decide_eq_false hc
      omega
    subst hjl
    rw [List.take_of_length_le (by omega)]
    exact ⟨rfl, st.ext⟩
theorem crash_spec (keep : Int) (hs : LogRo none_ h p s) (hok : okD s.segs s.ws) (hb : s.big ≤ 549755813888) (hk : keep < 9223372036854775808) :
    CallsH Tryd.prog 10 #[.pointer (some ⟨p, 0, none⟩), .int .i64 keep] h (fun v h' => ∃ a' l' c', v = .agg #[.slice a' l' c'] ∧ St none_ h h' [LV a' l' c' (downS s.segs s.ws keep.toNat)]) := by
  refine vf10 _ _ h _ ?_
  unfold F10
  have st := St.fresh h
  refine st.vnew fun b h1 st => ?_
  have hmax : maxI keep 0 = ((keep.toNat : Nat) : Int) := by
    unfold maxI; split <;> omega
  rw [hmax]
  refine CallsH.mono (down_spec (k := keep.toNat) (hs.in st) hok hb (by omega)) ?_
  rintro _ h2 ⟨q, a', l', c', rfl, st2⟩
  have st := st.add2 st2
  refine ⟨_, rfl, VSome.mk ⟨_, _, _, st.rd (by rfl), ?_⟩⟩
  refine st.vst (by simp) fun h3 st => ?_
  exact ⟨_, _, _, st.rd (by rfl), _, _, _, rfl, st.drop.pull1.drop⟩
end Go.Proofs.YtbaglaoefaoaoaaDoor.F
