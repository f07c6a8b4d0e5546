/- The laws of the log: answers that nobody writes into stay what they were. Conditions: none. -/
import Derived.Test.YtbaglaoefaoaoaaDoorLT
namespace Go.Proofs.YtbaglaoefaoaoaaDoor.F
open Go Go.VC Go.Proofs
set_option linter.unusedSimpArgs false
set_option linter.unusedVariables false
set_option maxRecDepth 100000
attribute [local irreducible] CallsH RunsTo PureTo

variable {S F G : Nat → Prop} {h0 h h1 : Heap} {L R L' : List A} {a b0 la wa : Option Addr} {l c l2 c2 p b cl cw : Nat} {bs cs : List UInt8} {bss css : List Bytes} {s : LogS}
structure LvM where
  a : Option Addr
  l : Nat
  c : Nat
  bss : List Bytes
def lvV (x : LvM) : Value := .slice x.a x.l x.c
def lvA (x : LvM) : A := LV x.a x.l x.c x.bss
theorem oneC_lv (es : List LvM) : ∀ v ∈ es.map lvV, oneC v = true := by
  intro v hv
  obtain ⟨b, _, rfl⟩ := List.mem_map.1 hv
  rfl
theorem lvs_ro {ks : List LvM} {x : LvM} (k : St S h0 h (A.all (ks.map lvA) :: R)) (hx : x ∈ ks) : RoL none_ h x.a x.l x.bss := by
  obtain ⟨F, hh, hf⟩ := k.own
  obtain ⟨F1, F2, k1, _⟩ := hh
  obtain ⟨F', k', _⟩ := Holds.get (show Holds (ks.map lvA) F1 h from k1) (List.mem_map_of_mem (f := lvA) hx)
  exact LV.roL k' fun _ h => h.elim
theorem lv_one {ks : List LvM} {i n : Nat} {x : LvM} {K : Addr → Prop} (hs : Sl h a (ks.map lvV)) (hn : ks.length = n) (hx : ks[i]? = some x) (q : ∀ ad, cellH h ad = some (lvV x) → K ad) : VIdx a n (i : Int) 1 K := by
  subst hn
  have hlt := (List.getElem?_eq_some_iff.1 hx).1
  refine hs.one rfl (by omega) (by omega) fun ad y hy hc => ?_
  rw [Int.toNat_natCast, hx] at hy
  cases hy
  exact q ad hc
/-- One step on a log, by its kind, with what it answers. -/
theorem op1_st {r : Bytes} (k : St none_ h0 h (LogA 81 83 p s :: R)) (hT : Tab none_ h0) (hr : Ro none_ h0 a (bytesV r)) (hl : r.length = l) (hlb : l ≤ 1099511627776) (ok : s.Ok) (hb : s.big ≤ 274877906944) {K : KV}
    (q : ∀ h', St none_ h0 h' (LogA 81 83 p (stepS s 1 r) :: R) → K (.int .i64 (if l ≤ 1048576 then 0 else 2)) h') : CallsH Tryd.prog 22 #[.pointer (some ⟨p, 0, none⟩), .slice a l c] h K := by
  obtain ⟨F', G, k1, kG, _, hF, back⟩ := k.frameA
  refine CallsH.mono (append_spec k1 (hT.at k.ext hF) (hr.at k.ext hF) hl hb ok (by omega)) ?_
  rintro _ h' (⟨h1, rfl, k2⟩ | ⟨h1, rfl, k2⟩)
  · have e : stepS s 1 r = s := by unfold stepS; rw [if_pos rfl, if_neg (by omega)]
    have := q h'
    rw [e, if_neg (by omega)] at this
    exact this (back k2)
  · have e : stepS s 1 r = addS s r := by unfold stepS; rw [if_pos rfl, if_pos (by omega)]
    have := q h'
    rw [e, if_pos (by omega)] at this
    exact this (back k2)
theorem op2_st {r : Bytes} (k : St none_ h0 h (LogA 81 83 p s :: R)) (hT : Tab none_ h0) (hr : Ro none_ h0 a (bytesV r)) (hl : r.length = l) (hlb : l ≤ 1099511627776) (ok : s.Ok) (hb : s.big ≤ 274877906944) {K : KV}
    (q : ∀ h', St none_ h0 h' (LogA 81 83 p (stepS s 2 r) :: R) → K (.int .i64 (if l ≤ 1048576 then 0 else 2)) h') : CallsH Tryd.prog 23 #[.pointer (some ⟨p, 0, none⟩), .slice a l c] h K := by
  obtain ⟨F', G, k1, kG, _, hF, back⟩ := k.frameA
  refine CallsH.mono (roll_spec k1 (hT.at k.ext hF) (hr.at k.ext hF) hl hb ok (by omega)) ?_
  rintro _ h' (⟨h1, rfl, k2⟩ | ⟨h1, rfl, k2⟩)
  · have e : stepS s 2 r = s := by unfold stepS; rw [if_neg (by omega), if_pos rfl, if_neg (by omega)]
    have := q h'
    rw [e, if_neg (by omega)] at this
    exact this (back k2)
  · have e : stepS s 2 r = rollS s r := by unfold stepS; rw [if_neg (by omega), if_pos rfl, if_pos (by omega)]
    have := q h'
    rw [e, if_pos (by omega)] at this
    exact this (back k2)
theorem op3_st {r : Bytes} (k : St none_ h0 h (LogA 81 83 p s :: R)) (ok : s.Ok) (hb : s.big ≤ 274877906944) {K : KV}
    (q : ∀ h', St none_ h0 h' (LogA 81 83 p (stepS s 3 r) :: R) → K (.tuple #[]) h') : CallsH Tryd.prog 24 #[.pointer (some ⟨p, 0, none⟩)] h K := by
  obtain ⟨F', G, k1, kG, _, hF, back⟩ := k.frameA
  refine CallsH.mono (sync_spec k1 hb ok) ?_
  rintro _ h' ⟨rfl, k2⟩
  exact q h' (back k2)
theorem stepS_none (s : LogS) (r : Bytes) {kind : Int} (h1 : kind ≠ 1) (h2 : kind ≠ 2) (h3 : kind ≠ 3) : stepS s kind r = s := by unfold stepS; rw [if_neg h1, if_neg h2, if_neg h3]
/-- A book that is empty. -/
theorem book_new {p : Nat} (k : St S h0 h (A.blk p #[.slice none 0 0, .slice none 0 0, .int .i64 0] 66 :: R)) : St S h0 h (BookL p ⟨none, 0, none, 0, 0, [], [], [], [], []⟩ ++ R) := by
  have k := k.all0.all0.all0
  have k := (k.vnil 25 (sz := 1) (by omega)).vnil 26 (sz := 1) (by omega)
  exact k.pull5
theorem book_ok0 : BkOk ⟨none, 0, none, 0, 0, [], [], [], [], []⟩ := ⟨rfl, rfl, fun i e h => by simp at h, fun i e h => by simp at h⟩
theorem take_st {m : BkM} (ok : BkOk m) (k : St S h0 h (BookL p m ++ LV a l c bss :: R)) (h1 : tot bss ≤ 1099511627776) (h2 : m.total ≤ 1125899906842624) (h3 : m.es.length + 4 * bss.length ≤ 4398046511104) (h4 : m.ls.length + 4 ≤ 4398046511104) {K : KV}
    (q : ∀ m' h', BkOk m' → m'.total ≤ m.total + 150 * tot bss → m.total + 150 * bss.length ≤ m'.total → m'.es.length = m.es.length + 4 * bss.length → m'.ls.length = m.ls.length + 4 → St S h0 h' (BookL p m' ++ R) → K (.tuple #[]) h') :
    CallsH Tryd.prog 21 #[.pointer (some ⟨p, 0, none⟩), .slice a l c] h K := by
  have k : St S h0 h ((BookL p m ++ [LV a l c bss]) ++ R) := by rw [List.append_assoc]; exact k
  obtain ⟨F', G, k1, kG, _, hF, back⟩ := St.frame k
  refine CallsH.mono (take_spec ok k1 h1 h2 h3 h4) ?_
  rintro _ h' ⟨rfl, m', o1, o2, o5, o3, o4, k2⟩
  exact q m' h' o1 o2 o5 o3 o4 (back k2)
theorem whole_st {m : BkM} (ok : BkOk m) (k : St S h0 h (BookL p m ++ R)) (h3 : m.es.length ≤ 4398046511104) (h4 : m.ls.length ≤ 4398046511104) {K : KV} (q : K (.bool true) h) : CallsH Tryd.prog 25 #[.pointer (some ⟨p, 0, none⟩)] h K := by
  refine CallsH.mono (whole_spec (ok.r k) (by omega) (by omega)) ?_
  rintro _ _ ⟨rfl, rfl⟩
  exact q
def tt (bss : List Bytes) : Nat := (bss.map fun b => 2 * b.length + 300).sum
theorem tt_next {bss : List Bytes} {i : Nat} {x : Bytes} (h : bss[i]? = some x) : tt (bss.take (i + 1)) = tt (bss.take i) + (2 * x.length + 300) := by
  unfold tt
  rw [List.take_add_one, h, Option.toList_some, List.map_append, List.sum_append]
  simp
theorem tt_le : ∀ bss : List Bytes, 2 * tot bss ≤ tt bss ∧ tt bss ≤ 302 * tot bss
  | [] => ⟨Nat.le_refl _, Nat.zero_le _⟩
  | b :: r => by
    have := tt_le r
    have e : tt (b :: r) = 2 * b.length + 300 + tt r := rfl
    rw [e, tot_cons]; omega
theorem tt_take (bss : List Bytes) (i : Nat) : tt (bss.take i) ≤ tt bss := by
  unfold tt
  conv => rhs; rw [← List.take_append_drop i bss, List.map_append, List.sum_append]
  omega
def sumL (ks : List LvM) : Nat := (ks.map fun x => tot x.bss).sum
theorem sumL_app (x y : List LvM) : sumL (x ++ y) = sumL x + sumL y := by simp [sumL]
theorem sumL_next {ks : List LvM} {i : Nat} {x : LvM} (h : ks[i]? = some x) : sumL (ks.take (i + 1)) = sumL (ks.take i) + tot x.bss := by
  rw [List.take_add_one, h, Option.toList_some, sumL_app]
  simp [sumL]
theorem sumL_take (ks : List LvM) (i : Nat) : sumL (ks.take i) ≤ sumL ks := by
  conv => rhs; rw [← List.take_append_drop i ks, sumL_app]
  omega
theorem ps_len : ∀ os : List PsM, os.length ≤ (os.map fun o => o.l + 25).sum
  | [] => Nat.le_refl _
  | o :: os => by
    have := ps_len os
    simp only [List.length_cons, List.map_cons, List.sum_cons]; omega
theorem split16 {x : Int} {A B : Prop} (h1 : x < 16777216 → A) (h2 : ¬ x < 16777216 → B) : cond (decide (x < (16777216 : Int))) A B := cond_split (fun h => h1 (of_decide_eq_true h)) (fun h => h2 (of_decide_eq_false h))
theorem unwritten_spec {a0 a1 : Option Addr} {l0 c0 l1 c1 : Nat} {d0 : List Bytes} {os : List PsM} {st : OpS} (hT : Tab none_ h) (hd : RoL none_ h a0 l0 d0) (hb0 : tot d0 ≤ 1048576) (hS : openS d0 = some st)
    (hs : Sl h a1 (os.flatMap psC)) (hl : os.length = l1) (ho : ∀ o ∈ os, Sl h o.a (bytesV o.r) ∧ o.r.length = o.l ∧ o.keep < 9223372036854775808) (hB : (os.map fun o => o.l + 25).sum ≤ 30000000) :
    CallsH Tryd.prog 20 #[.agg #[.slice a0 l0 c0], .slice a1 l1 c1] h (fun v h' => v = .bool true ∧ Ext h h') := by
  refine vf20 _ _ _ _ _ _ h _ ?_
  unfold F20
  have k := St.fresh h
  refine k.vnew fun b1 h2 k => ⟨_, _, _, k.rd (by rfl), ?_⟩
  obtain ⟨okS, eS1, eS2, htS, _⟩ := openS_ok hS
  refine CallsH.mono (open_spec (hT.in k) (hd.in k) (by omega)) ?_
  rintro _ h5 (⟨hS2, _⟩ | ⟨st2, p6, a7, l7, c7, hS2, rfl, k1⟩)
  · rw [hS] at hS2; cases hS2
  have est : st = st2 := by rw [hS] at hS2; exact Option.some.inj hS2
  subst est
  have k := k.add2 k1
  refine ⟨_, _, _, _, _, rfl, _, _, _, k.rd (by rfl), CallsH.mono (open_spec (hT.in k) (hd.in k) (by omega)) ?_⟩
  rintro _ h11 (⟨hS2, _⟩ | ⟨st2, p12, a13, l13, c13, hS2, rfl, k1⟩)
  · rw [hS] at hS2; cases hS2
  have est : st = st2 := by rw [hS] at hS2; exact Option.some.inj hS2
  subst est
  have k := k.add2 k1
  refine ⟨_, _, _, _, _, rfl, cond_false rfl (cond_false rfl (cond_false rfl (k.vnew fun b15 h16 k => ?_)))⟩
  have hs15 : Sl h16 (some ⟨b15, 0, none⟩) [.slice a7 l7 c7, .slice a13 l13 c13] := k.slB (b := b15)
  refine (k.vnil 25 (sz := 1) (by omega)).app T64 und64 (by simp) (Src.slice hs15 rfl) (by simp [oneC]) (by omega) fun a19 c19 h18 k => ⟨_, _, _, rfl, ?_⟩
  have k : St none_ h h18 [A.vec 25 1 a19 2 c19 ([⟨a7, l7, c7, st.recs⟩, ⟨a13, l13, c13, st.recs⟩].map lvV), A.blk b15 #[.slice a7 l7 c7, .slice a13 l13 c13] 25, LogA 81 83 p12 st.s, LV a13 l13 c13 st.recs, LogA 81 83 p6 st.s, LV a7 l7 c7 st.recs, A.blk b1 #[.slice a0 l0 c0] 34] := k
  have k : St none_ h h18 [LV a7 l7 c7 st.recs, LV a13 l13 c13 st.recs, A.vec 25 1 a19 2 c19 ([⟨a7, l7, c7, st.recs⟩, ⟨a13, l13, c13, st.recs⟩].map lvV), LogA 81 83 p6 st.s, A.blk b15 #[.slice a7 l7 c7, .slice a13 l13 c13] 25, LogA 81 83 p12 st.s, A.blk b1 #[.slice a0 l0 c0] 34] := k.sel 7 [5, 3, 0, 4, 1, 2, 6] rfl (by decide) (by rfl)
  have k := St.close (L := [_, _]) k
  have k := (k.only3.all0.vnil 25 (sz := 1) (by omega))
  have k : St none_ h h18 [A.vec 25 1 a19 2 c19 ([⟨a7, l7, c7, st.recs⟩, ⟨a13, l13, c13, st.recs⟩].map lvV), A.all (([⟨a7, l7, c7, st.recs⟩, ⟨a13, l13, c13, st.recs⟩] : List LvM).map lvA), A.vec 25 1 none 0 0 (([] : List LvM).map lvV), A.all (([] : List LvM).map lvA), LogA 81 83 p6 st.s] := k.sel 5 [3, 2, 0, 1, 4] rfl (by decide) (by rfl)
  have hbig0 : st.s.big ≤ 1048576 := by
    unfold LogS.big; rw [eS1, eS2]
    show tot d0 + 0 ≤ _
    omega
  have hsum0 : sumL [⟨a7, l7, c7, st.recs⟩, ⟨a13, l13, c13, st.recs⟩] ≤ 0 + 2097152 := by
    show tot st.recs + (tot st.recs + 0) ≤ _
    omega
  have hst : ∃ n, ∃ (j : Nat) (ks ws : List LvM) (s : LogS) (total : Nat), (0 : Int) = j ∧ j ≤ l1 ∧ n = l1 - j ∧ (0 : Int) = total ∧ 2 = ks.length ∧ 0 = ws.length ∧ ws.length ≤ ks.length ∧ ws.map LvM.bss = (ks.map LvM.bss).take ws.length ∧ ks.length = 2 + 2 * j ∧ (∀ x ∈ ks, tot x.bss ≤ 67108864) ∧ sumL ks ≤ total + 2097152 ∧ total ≤ 16777216 + 302 * 67108864 ∧ s.Ok ∧ s.big ≤ 1048576 + pgB os j ∧
      St none_ h h18 [A.vec 25 1 a19 ks.length c19 (ks.map lvV), A.all (ks.map lvA), A.vec 25 1 none ws.length 0 (ws.map lvV), A.all (ws.map lvA), LogA 81 83 p6 s] :=
    ⟨_, 0, [⟨a7, l7, c7, st.recs⟩, ⟨a13, l13, c13, st.recs⟩], [], st.s, 0, rfl, by omega, rfl, rfl, rfl, rfl, by simp, rfl, rfl, by
      intro x hx
      simp only [List.mem_cons, List.not_mem_nil, or_false] at hx
      rcases hx with rfl | rfl <;> (show tot st.recs ≤ _; omega), hsum0, by omega, okS, by show st.s.big ≤ 1048576 + 0; omega, k⟩
  refine ⟨fun n hh ka kl kc wa wl wc tl i => ∃ (j : Nat) (ks ws : List LvM) (s : LogS) (total : Nat), i = j ∧ j ≤ l1 ∧ n = l1 - j ∧ tl = total ∧ kl = ks.length ∧ wl = ws.length ∧ ws.length ≤ ks.length ∧ ws.map LvM.bss = (ks.map LvM.bss).take ws.length ∧ ks.length = 2 + 2 * j ∧ (∀ x ∈ ks, tot x.bss ≤ 67108864) ∧ sumL ks ≤ total + 2097152 ∧ total ≤ 16777216 + 302 * 67108864 ∧ s.Ok ∧ s.big ≤ 1048576 + pgB os j ∧
      St none_ h hh [A.vec 25 1 ka ks.length kc (ks.map lvV), A.all (ks.map lvA), A.vec 25 1 wa ws.length wc (ws.map lvV), A.all (ws.map lvA), LogA 81 83 p6 s], hst, ?_⟩
  clear hst k hsum0 hbig0 okS eS1 eS2 htS
  rintro n hh _ ka kl kc wa wl wc _ i ⟨j, ks, ws, s, total, rfl, hj, rfl, rfl, rfl, rfl, hwk, hwb, hkl, hkt, hsum, htot, ok, hbig, k⟩
  have hpl := pgB_le os j
  have hos := ps_len os
  refine cond_split (fun hc => ?_) (fun _ => ?_)
  · generalize ht16' : (16777216 : Int) = big16
    refine cond_split (fun ht16 => ?_) (fun _ => ?_)
    · have hjl : j < l1 := Int.ofNat_lt.1 (of_decide_eq_true hc)
      have ht16 : total < 16777216 := by
        have : (total : Int) < big16 := of_decide_eq_true ht16
        omega
      obtain ⟨o, hoj⟩ : ∃ o, os[j]? = some o := ⟨_, List.getElem?_eq_getElem (by omega)⟩
      obtain ⟨o1, o2, o3⟩ := ho o (List.mem_of_getElem? hoj)
      have hbn := pgB_next hoj
      have hbl := pgB_le os (j + 1)
      refine (hs.ext k.ext).row (f := psC) (fun _ => rfl) (by omega) hl (by omega) (by omega) fun ad o' ho' hcell => ?_
      rw [Int.toNat_natCast, hoj] at ho'
      cases ho'
      refine ⟨_, hcell 0 _ rfl, _, hcell 1 _ rfl, _, _, _, hcell 2 _ rfl, _, hcell 3 _ rfl, ?_⟩
      refine k.vnew fun b34 h35 k => ?_
      refine k.vall (by rfl) (by rfl) fun h36 k => ?_
      have k : St none_ h h36 [A.blk b34 #[.int .i64 o.kind, .int .i64 o.on, .slice o.a o.l o.c, .int .i64 o.keep] 41, A.vec 25 1 ka ks.length kc (ks.map lvV), A.all (ks.map lvA), A.vec 25 1 wa ws.length wc (ws.map lvV), A.all (ws.map lvA), LogA 81 83 p6 s] := k
      refine ⟨fun h' => St none_ h h' [LogA 81 83 p6 (stepS s o.kind o.r), A.blk b34 #[.int .i64 o.kind, .int .i64 o.on, .slice o.a o.l o.c, .int .i64 o.keep] 41, A.vec 25 1 ka ks.length kc (ks.map lvV), A.all (ks.map lvA), A.vec 25 1 wa ws.length wc (ws.map lvV), A.all (ws.map lvA)], ⟨_, k.rd (by rfl), ?_⟩, ?_⟩
      · refine cond_split (fun hc => ?_) (fun hc => cond_split (fun hc2 => ?_) (fun hc2 => cond_split (fun hc3 => ?_) (fun hc3 => ?_)))
        · have e : o.kind = 1 := by simpa using hc
          rw [e]
          refine ⟨_, _, _, k.rd (by rfl), op1_st k.pull5 hT o1.ro o2 (by omega) ok (by omega) fun h41 k => ⟨_, rfl, ?_⟩⟩
          rw [e] at k; exact k
        · have e : o.kind = 2 := by simpa using hc2
          rw [e]
          refine ⟨_, _, _, k.rd (by rfl), op2_st k.pull5 hT o1.ro o2 (by omega) ok (by omega) fun h41 k => ⟨_, rfl, ?_⟩⟩
          rw [e] at k; exact k
        · have e : o.kind = 3 := by simpa using hc3
          rw [e]
          refine op3_st (r := o.r) k.pull5 ok (by omega) fun h41 k => ⟨rfl, ?_⟩
          rw [e] at k; exact k
        · rw [stepS_none s o.r (by simpa using hc) (by simpa using hc2) (by simpa using hc3)]
          exact k.pull5
      clear k
      rintro h49 _ k
      have ok' := stepS_ok ok o.kind o.r
      have hbig' := stepS_big s o.kind o.r
      generalize stepS s o.kind o.r = s' at *
      have hbt : tot s'.segs + wtot s'.ws ≤ 67108864 := by
        have e : s'.big = tot s'.segs + wtot s'.ws := rfl
        omega
      have htd : tot (downS s'.segs s'.ws o.keep.toNat) ≤ tot s'.segs + wtot s'.ws := tot_steps s'.ws (s'.segs, o.keep.toNat)
      refine ⟨_, k.rd (by rfl), CallsH.mono (crash_spec o.keep (k.log (p := p6)) ok'.ws (by omega) o3) ?_⟩
      rintro _ h53 ⟨a54, l54, c54, rfl, k5⟩
      generalize hD : downS s'.segs s'.ws o.keep.toNat = D at *
      have k := k.add1 k5
      refine ⟨_, _, _, rfl, k.vnew fun b55 h56 k => ?_⟩
      refine k.vst (by simp) fun h57 k => ⟨_, k.rd (by rfl), CallsH.mono (crash_spec o.keep (k.log (p := p6)) ok'.ws (by omega) o3) ?_⟩
      rintro _ h60 ⟨a61, l61, c61, rfl, k6⟩
      rw [hD] at k6
      have k := k.add1 k6
      refine ⟨_, _, _, rfl, k.vnew fun b62 h63 k => ?_⟩
      refine k.vst (by simp) fun h64 k => ⟨_, _, _, k.rd (by rfl), _, _, _, k.rd (by rfl), k.vnew fun b67 h68 k => ?_⟩
      have hs67 : Sl h68 (some ⟨b67, 0, none⟩) [.slice a54 l54 c54, .slice a61 l61 c61] := k.slB (b := b67)
      have k : St none_ h h68 [A.blk b67 #[.slice a54 l54 c54, .slice a61 l61 c61] 25, A.blk b62 #[.slice a61 l61 c61] 34, LV a61 l61 c61 D, A.blk b55 #[.slice a54 l54 c54] 34, LV a54 l54 c54 D, LogA 81 83 p6 s', A.blk b34 #[.int .i64 o.kind, .int .i64 o.on, .slice o.a o.l o.c, .int .i64 o.keep] 41, A.vec 25 1 ka ks.length kc (ks.map lvV), A.all (ks.map lvA), A.vec 25 1 wa ws.length wc (ws.map lvV), A.all (ws.map lvA)] := k
      refine k.pull7.app T64 und64 (by simp) (Src.slice hs67 rfl) (by simp [oneC]) (by omega) fun a71 c71 h70 k => ⟨_, _, _, rfl, ?_⟩
      have hDl : D.length = l54 := (LV.len k.pull5).1
      have httl := tt_le D
      have htlD := tot_len D
      have hst : ∃ n, ∃ i : Nat, ((total : Nat) : Int) = ((total + tt (D.take i) : Nat) : Int) ∧ (0 : Int) = i ∧ i ≤ l54 ∧ n = l54 - i := ⟨_, 0, rfl, rfl, by omega, rfl⟩
      refine ⟨fun n hh tl i => ∃ r : Nat, tl = ((total + tt (D.take r) : Nat) : Int) ∧ i = r ∧ r ≤ l54 ∧ n = l54 - r ∧ hh = h70, ⟨_, 0, rfl, rfl, by omega, rfl, rfl⟩, ?_⟩
      rintro n hh _ _ i ⟨r, rfl, rfl, hr, rfl, rfl⟩
      refine ⟨_, _, _, k.rd (by rfl), cond_split (fun hc => ?_) (fun hc => ?_)⟩
      · have hrl : r < l54 := Int.ofNat_lt.1 (of_decide_eq_true hc)
        refine ⟨_, _, _, k.rd (by rfl), (k.roL (a := a54)).one (by omega) (by omega) fun ad x hx hcell r1 r2 r3 => ⟨_, _, _, hcell, ?_⟩⟩
        rw [Int.toNat_natCast] at hx
        have htn := tt_next hx
        have htk := tt_take D (r + 1)
        refine ⟨l54 - (r + 1), by omega, r + 1, ?_, by rw [wrap_id (by omega) (by omega)]; omega, hrl, rfl, rfl⟩
        rw [r2] at htn
        rw [wrap_id (n := 2 * (x.l : Int)) (by omega) (by omega), wrap_id (n := ((total + tt (D.take r) : Nat) : Int) + 2 * (x.l : Int)) (by omega) (by omega), wrap_id (by omega) (by omega)]
        omega
      · have hrl : r = l54 := by
          have : ¬ (r : Int) < l54 := of_decide_eq_false hc
          omega
        subst hrl
        clear hc hr hst
        rw [List.take_of_length_le (by omega)]
        have k : St none_ h hh [A.vec 25 1 a71 (ks.length + 2) c71 (ks.map lvV ++ [.slice a54 r c54, .slice a61 l61 c61]), A.blk b67 #[.slice a54 r c54, .slice a61 l61 c61] 25, A.blk b62 #[.slice a61 l61 c61] 34, LV a61 l61 c61 D, A.blk b55 #[.slice a54 r c54] 34, LV a54 r c54 D, LogA 81 83 p6 s', A.blk b34 #[.int .i64 o.kind, .int .i64 o.on, .slice o.a o.l o.c, .int .i64 o.keep] 41, A.all (ks.map lvA), A.vec 25 1 wa ws.length wc (ws.map lvV), A.all (ws.map lvA)] := k
        have k : St none_ h hh [A.blk b67 #[.slice a54 r c54, .slice a61 l61 c61] 25, A.blk b62 #[.slice a61 l61 c61] 34, A.blk b55 #[.slice a54 r c54] 34, A.blk b34 #[.int .i64 o.kind, .int .i64 o.on, .slice o.a o.l o.c, .int .i64 o.keep] 41, LV a54 r c54 D, LV a61 l61 c61 D, A.all (ks.map lvA), A.vec 25 1 a71 (ks.length + 2) c71 (ks.map lvV ++ [.slice a54 r c54, .slice a61 l61 c61]), A.vec 25 1 wa ws.length wc (ws.map lvV), A.all (ws.map lvA), LogA 81 83 p6 s'] := k.sel 11 [1, 2, 4, 7, 5, 3, 8, 0, 9, 10, 6] rfl (by decide) (by rfl)
        have k := k.drop.drop.drop.drop
        have k := (St.close (L := [LV a54 r c54 D, LV a61 l61 c61 D]) k).pull1.allJoin
        let ks' : List LvM := ks ++ [⟨a54, r, c54, D⟩, ⟨a61, l61, c61, D⟩]
        have hkl' : ks'.length = ks.length + 2 := by simp [ks']
        have k := k.re (y := A.all (ks'.map lvA)) (by show A.all (ks.map lvA ++ _) = A.all ((ks ++ _).map lvA); rw [List.map_append]; rfl)
        have k := k.pull1.re (y := A.vec 25 1 a71 ks'.length c71 (ks'.map lvV)) (by rw [hkl']; show A.vec 25 1 a71 (ks.length + 2) c71 (ks.map lvV ++ _) = A.vec 25 1 a71 (ks.length + 2) c71 ((ks ++ _).map lvV); rw [List.map_append]; rfl)
        have hsum' : sumL ks' = sumL ks + (tot D + tot D) := by
          show sumL (ks ++ _) = _
          rw [sumL_app]; rfl
        have hkt' : ∀ x ∈ ks', tot x.bss ≤ 67108864 := by
          intro x hx
          rcases List.mem_append.1 hx with hx | hx
          · exact hkt x hx
          · simp only [List.mem_cons, List.not_mem_nil, or_false] at hx
            rcases hx with rfl | rfl <;> (show tot D ≤ _; omega)
        have hwb' : ws.map LvM.bss = (ks'.map LvM.bss).take ws.length := by
          show _ = ((ks ++ _).map LvM.bss).take ws.length
          rw [List.map_append, List.take_append_of_le_length (by rw [List.length_map]; omega)]; exact hwb
        have hwk' : ws.length ≤ ks'.length := by omega
        rw [← hkl']
        clear_value ks'
        refine ⟨fun n hh wa wl wc => ∃ ws : List LvM, wl = ws.length ∧ ws.length ≤ ks'.length ∧ n = ks'.length - ws.length ∧ ws.map LvM.bss = (ks'.map LvM.bss).take ws.length ∧ St none_ h hh [A.vec 25 1 a71 ks'.length c71 (ks'.map lvV), A.all (ks'.map lvA), A.vec 25 1 wa ws.length wc (ws.map lvV), A.all (ws.map lvA), LogA 81 83 p6 s'], ⟨_, ws, rfl, hwk', rfl, hwb', k⟩, ?_⟩
        clear k hwb' hwk' hwb hwk
        rintro n hh _ wa wl wc ⟨ws, rfl, hwk, rfl, hwb, k⟩
        refine cond_split (fun hc => ?_) (fun hc => ?_)
        · have hwl : ws.length < ks'.length := Int.ofNat_lt.1 (of_decide_eq_true hc)
          obtain ⟨x, hx⟩ : ∃ x, ks'[ws.length]? = some x := ⟨_, List.getElem?_eq_getElem hwl⟩
          have hxt := hkt' x (List.mem_of_getElem? hx)
          refine lv_one (k.sl (a := a71)) rfl hx fun ad hc1 => ⟨_, _, _, hc1, ?_⟩
          refine CallsH.mono (over_spec (lvs_ro k.pull1 (List.mem_of_getElem? hx)) (by omega)) ?_
          rintro _ h92 ⟨a93, c93, rfl, k9⟩
          have k := k.add1 k9
          refine ⟨_, _, _, rfl, k.vnew fun b94 h95 k => ?_⟩
          have hs94 : Sl h95 (some ⟨b94, 0, none⟩) [.slice a93 x.l c93] := k.slB (b := b94)
          refine k.pull4.app T64 und64 (by simp) (Src.slice hs94 rfl) (by simp [oneC]) (by omega) fun a98 c98 h97 k => ⟨_, _, _, rfl, ?_⟩
          have k : St none_ h h97 [A.vec 25 1 a98 (ws.length + 1) c98 (ws.map lvV ++ [.slice a93 x.l c93]), A.blk b94 #[.slice a93 x.l c93] 25, LV a93 x.l c93 x.bss, A.vec 25 1 a71 ks'.length c71 (ks'.map lvV), A.all (ks'.map lvA), A.all (ws.map lvA), LogA 81 83 p6 s'] := k
          have k : St none_ h h97 [A.blk b94 #[.slice a93 x.l c93] 25, LV a93 x.l c93 x.bss, A.all (ws.map lvA), A.vec 25 1 a98 (ws.length + 1) c98 (ws.map lvV ++ [.slice a93 x.l c93]), A.vec 25 1 a71 ks'.length c71 (ks'.map lvV), A.all (ks'.map lvA), LogA 81 83 p6 s'] := k.sel 7 [1, 2, 5, 0, 3, 4, 6] rfl (by decide) (by rfl)
          have k := (St.close (L := [LV a93 x.l c93 x.bss]) k.drop).pull1.allJoin
          have el : (ws ++ [(⟨a93, x.l, c93, x.bss⟩ : LvM)]).length = ws.length + 1 := by simp
          have k := k.re (y := A.all ((ws ++ [(⟨a93, x.l, c93, x.bss⟩ : LvM)]).map lvA)) (by rw [List.map_append]; rfl)
          have k := k.pull1.re (y := A.vec 25 1 a98 (ws ++ [(⟨a93, x.l, c93, x.bss⟩ : LvM)]).length c98 ((ws ++ [(⟨a93, x.l, c93, x.bss⟩ : LvM)]).map lvV)) (by rw [el, List.map_append]; rfl)
          refine ⟨ks'.length - (ws.length + 1), by omega, ws ++ [(⟨a93, x.l, c93, x.bss⟩ : LvM)], el.symm, by rw [el]; exact hwl, by rw [el], ?_, k.sel 5 [2, 3, 0, 1, 4] rfl (by decide) (by rfl)⟩
          rw [el, List.map_append, hwb, List.take_add_one, List.getElem?_map, hx]; rfl
        · refine ⟨l1 - (j + 1), by omega, j + 1, ks', ws, s', total + tt D, by rw [wrap_id (by omega) (by omega)]; omega, hjl, rfl, rfl, rfl, rfl, hwk, hwb, by omega, hkt', by omega, by omega, ok', by omega, k⟩
    ·
      refine k.vnew fun b99 h100 k => ?_
      have k := book_new k
      have hst : ∃ n, ∃ (i : Nat) (m : BkM), (0 : Int) = i ∧ i ≤ ws.length ∧ n = ws.length - i ∧ BkOk m ∧ m.total ≤ 150 * sumL (ks.take i) ∧ m.es.length ≤ 4 * sumL (ks.take i) ∧ m.ls.length = 4 * i ∧
          St none_ h h100 (BookL b99 m ++ [A.vec 25 1 ka ks.length kc (ks.map lvV), A.all ((ks.drop i).map lvA), A.vec 25 1 wa ws.length wc (ws.map lvV), A.all (ws.map lvA), LogA 81 83 p6 s]) :=
        ⟨_, 0, _, rfl, by omega, rfl, book_ok0, Nat.zero_le _, Nat.zero_le _, rfl, k⟩
      refine ⟨fun n hh _ x => ∃ (i : Nat) (m : BkM), x = i ∧ i ≤ ws.length ∧ n = ws.length - i ∧ BkOk m ∧ m.total ≤ 150 * sumL (ks.take i) ∧ m.es.length ≤ 4 * sumL (ks.take i) ∧ m.ls.length = 4 * i ∧
          St none_ h hh (BookL b99 m ++ [A.vec 25 1 ka ks.length kc (ks.map lvV), A.all ((ks.drop i).map lvA), A.vec 25 1 wa ws.length wc (ws.map lvV), A.all (ws.map lvA), LogA 81 83 p6 s]), hst, ?_⟩
      clear hst k
      rintro n hh _ _ x ⟨i, m, rfl, hi, rfl, mok, mt, me, ml, k⟩
      have hst1 := sumL_take ks i
      refine cond_split (fun hc => ?_) (fun hc => whole_st mok k (by omega) (by omega) ⟨_, rfl, rfl, k.ext⟩)
      have hiw : i < ws.length := Int.ofNat_lt.1 (of_decide_eq_true hc)
      obtain ⟨x, hx⟩ : ∃ x, ks[i]? = some x := ⟨_, List.getElem?_eq_getElem (by omega)⟩
      obtain ⟨y, hy⟩ : ∃ y, ws[i]? = some y := ⟨_, List.getElem?_eq_getElem (by omega)⟩
      have hxy : y.bss = x.bss := by
        have h1 : (ws.map LvM.bss)[i]? = some y.bss := by rw [List.getElem?_map, hy]; rfl
        rw [hwb, List.getElem?_take, if_pos hiw, List.getElem?_map, hx] at h1
        exact (Option.some.inj h1).symm
      have hxt := hkt x (List.mem_of_getElem? hx)
      have hsn := sumL_next hx
      have hst2 := sumL_take ks (i + 1)
      have hxl := tot_len x.bss
      have kr := St.dropL (L := BookL b99 m) k
      have rx : RoL none_ hh x.a x.l x.bss := lvs_ro (x := x) kr.drop (by
        have : (ks.drop i)[0]? = some x := by rw [List.getElem?_drop, Nat.add_zero]; exact hx
        exact List.mem_of_getElem? this)
      have ry : RoL none_ hh y.a y.l y.bss := lvs_ro (x := y) kr.drop.drop.drop (List.mem_of_getElem? hy)
      refine lv_one (kr.sl (a := ka)) rfl hx fun ad hc1 => ⟨_, _, _, hc1, lv_one (kr.drop.drop.sl (a := wa)) rfl hy fun ad2 hc2 => ⟨_, _, _, hc2, ?_⟩⟩
      refine CallsH.mono (sameLists_spec rx ry (by omega)) ?_
      rintro _ hh ⟨rfl, rfl⟩
      refine ⟨_, rfl, cond_false (by rw [hxy]; simp) (lv_one (kr.sl (a := ka)) rfl hx fun ad3 hc3 => ⟨_, _, _, hc3, ?_⟩)⟩
      have hdrop : (ks.drop i).map lvA = lvA x :: (ks.drop (i + 1)).map lvA := by
        obtain ⟨hlt, he⟩ := List.getElem?_eq_some_iff.1 hx
        rw [List.drop_eq_getElem_cons hlt, he]; rfl
      have k : St none_ h hh (BookL b99 m ++ LV x.a x.l x.c x.bss :: [A.all ((ks.drop (i + 1)).map lvA), A.vec 25 1 ka ks.length kc (ks.map lvV), A.vec 25 1 wa ws.length wc (ws.map lvV), A.all (ws.map lvA), LogA 81 83 p6 s]) := by
        have k2 := k.perm (List.perm_append_comm (l₁ := BookL b99 m))
        have k2 : St none_ h hh (A.vec 25 1 ka ks.length kc (ks.map lvV) :: A.all ((ks.drop i).map lvA) :: A.vec 25 1 wa ws.length wc (ws.map lvV) :: A.all (ws.map lvA) :: LogA 81 83 p6 s :: BookL b99 m) := k2
        have k2 := k2.pull1
        rw [hdrop] at k2
        have k2 := k2.allOut.pull2
        have k2 : St none_ h hh ((LV x.a x.l x.c x.bss :: [A.all ((ks.drop (i + 1)).map lvA), A.vec 25 1 ka ks.length kc (ks.map lvV), A.vec 25 1 wa ws.length wc (ws.map lvV), A.all (ws.map lvA), LogA 81 83 p6 s]) ++ BookL b99 m) := k2.pull1.pull2.pull1.pull2.pull1.pull2.pull1
        exact k2.perm List.perm_append_comm
      refine take_st mok k (by omega) (by omega) (by omega) (by omega) fun m' h118 mok' mt' mt2' me' ml' k => ⟨rfl, ws.length - (i + 1), by omega, i + 1, m', by rw [wrap_id (by omega) (by omega)]; omega, hiw, rfl, mok', by omega, by omega, by omega, ?_⟩
      have k2 := k.perm (List.perm_append_comm (l₁ := BookL b99 m'))
      have k2 : St none_ h h118 (A.all ((ks.drop (i + 1)).map lvA) :: A.vec 25 1 ka ks.length kc (ks.map lvV) :: A.vec 25 1 wa ws.length wc (ws.map lvV) :: A.all (ws.map lvA) :: LogA 81 83 p6 s :: BookL b99 m') := k2
      exact (show St none_ h h118 ([A.vec 25 1 ka ks.length kc (ks.map lvV), A.all ((ks.drop (i + 1)).map lvA), A.vec 25 1 wa ws.length wc (ws.map lvV), A.all (ws.map lvA), LogA 81 83 p6 s] ++ BookL b99 m') from k2.pull1).perm List.perm_append_comm
  ·
    refine k.vnew fun b99 h100 k => ?_
    have k := book_new k
    have hst : ∃ n, ∃ (i : Nat) (m : BkM), (0 : Int) = i ∧ i ≤ ws.length ∧ n = ws.length - i ∧ BkOk m ∧ m.total ≤ 150 * sumL (ks.take i) ∧ m.es.length ≤ 4 * sumL (ks.take i) ∧ m.ls.length = 4 * i ∧
        St none_ h h100 (BookL b99 m ++ [A.vec 25 1 ka ks.length kc (ks.map lvV), A.all ((ks.drop i).map lvA), A.vec 25 1 wa ws.length wc (ws.map lvV), A.all (ws.map lvA), LogA 81 83 p6 s]) :=
      ⟨_, 0, _, rfl, by omega, rfl, book_ok0, Nat.zero_le _, Nat.zero_le _, rfl, k⟩
    refine ⟨fun n hh _ x => ∃ (i : Nat) (m : BkM), x = i ∧ i ≤ ws.length ∧ n = ws.length - i ∧ BkOk m ∧ m.total ≤ 150 * sumL (ks.take i) ∧ m.es.length ≤ 4 * sumL (ks.take i) ∧ m.ls.length = 4 * i ∧
        St none_ h hh (BookL b99 m ++ [A.vec 25 1 ka ks.length kc (ks.map lvV), A.all ((ks.drop i).map lvA), A.vec 25 1 wa ws.length wc (ws.map lvV), A.all (ws.map lvA), LogA 81 83 p6 s]), hst, ?_⟩
    clear hst k
    rintro n hh _ _ x ⟨i, m, rfl, hi, rfl, mok, mt, me, ml, k⟩
    have hst1 := sumL_take ks i
    refine cond_split (fun hc => ?_) (fun hc => whole_st mok k (by omega) (by omega) ⟨_, rfl, rfl, k.ext⟩)
    have hiw : i < ws.length := Int.ofNat_lt.1 (of_decide_eq_true hc)
    obtain ⟨x, hx⟩ : ∃ x, ks[i]? = some x := ⟨_, List.getElem?_eq_getElem (by omega)⟩
    obtain ⟨y, hy⟩ : ∃ y, ws[i]? = some y := ⟨_, List.getElem?_eq_getElem (by omega)⟩
    have hxy : y.bss = x.bss := by
      have h1 : (ws.map LvM.bss)[i]? = some y.bss := by rw [List.getElem?_map, hy]; rfl
      rw [hwb, List.getElem?_take, if_pos hiw, List.getElem?_map, hx] at h1
      exact (Option.some.inj h1).symm
    have hxt := hkt x (List.mem_of_getElem? hx)
    have hsn := sumL_next hx
    have hst2 := sumL_take ks (i + 1)
    have hxl := tot_len x.bss
    have kr := St.dropL (L := BookL b99 m) k
    have rx : RoL none_ hh x.a x.l x.bss := lvs_ro (x := x) kr.drop (by
      have : (ks.drop i)[0]? = some x := by rw [List.getElem?_drop, Nat.add_zero]; exact hx
      exact List.mem_of_getElem? this)
    have ry : RoL none_ hh y.a y.l y.bss := lvs_ro (x := y) kr.drop.drop.drop (List.mem_of_getElem? hy)
    refine lv_one (kr.sl (a := ka)) rfl hx fun ad hc1 => ⟨_, _, _, hc1, lv_one (kr.drop.drop.sl (a := wa)) rfl hy fun ad2 hc2 => ⟨_, _, _, hc2, ?_⟩⟩
    refine CallsH.mono (sameLists_spec rx ry (by omega)) ?_
    rintro _ hh ⟨rfl, rfl⟩
    refine ⟨_, rfl, cond_false (by rw [hxy]; simp) (lv_one (kr.sl (a := ka)) rfl hx fun ad3 hc3 => ⟨_, _, _, hc3, ?_⟩)⟩
    have hdrop : (ks.drop i).map lvA = lvA x :: (ks.drop (i + 1)).map lvA := by
      obtain ⟨hlt, he⟩ := List.getElem?_eq_some_iff.1 hx
      rw [List.drop_eq_getElem_cons hlt, he]; rfl
    have k : St none_ h hh (BookL b99 m ++ LV x.a x.l x.c x.bss :: [A.all ((ks.drop (i + 1)).map lvA), A.vec 25 1 ka ks.length kc (ks.map lvV), A.vec 25 1 wa ws.length wc (ws.map lvV), A.all (ws.map lvA), LogA 81 83 p6 s]) := by
      have k2 := k.perm (List.perm_append_comm (l₁ := BookL b99 m))
      have k2 : St none_ h hh (A.vec 25 1 ka ks.length kc (ks.map lvV) :: A.all ((ks.drop i).map lvA) :: A.vec 25 1 wa ws.length wc (ws.map lvV) :: A.all (ws.map lvA) :: LogA 81 83 p6 s :: BookL b99 m) := k2
      have k2 := k2.pull1
      rw [hdrop] at k2
      have k2 := k2.allOut.pull2
      have k2 : St none_ h hh ((LV x.a x.l x.c x.bss :: [A.all ((ks.drop (i + 1)).map lvA), A.vec 25 1 ka ks.length kc (ks.map lvV), A.vec 25 1 wa ws.length wc (ws.map lvV), A.all (ws.map lvA), LogA 81 83 p6 s]) ++ BookL b99 m) := k2.pull1.pull2.pull1.pull2.pull1.pull2.pull1
      exact k2.perm List.perm_append_comm
    refine take_st mok k (by omega) (by omega) (by omega) (by omega) fun m' h118 mok' mt' mt2' me' ml' k => ⟨rfl, ws.length - (i + 1), by omega, i + 1, m', by rw [wrap_id (by omega) (by omega)]; omega, hiw, rfl, mok', by omega, by omega, by omega, ?_⟩
    have k2 := k.perm (List.perm_append_comm (l₁ := BookL b99 m'))
    have k2 : St none_ h h118 (A.all ((ks.drop (i + 1)).map lvA) :: A.vec 25 1 ka ks.length kc (ks.map lvV) :: A.vec 25 1 wa ws.length wc (ws.map lvV) :: A.all (ws.map lvA) :: LogA 81 83 p6 s :: BookL b99 m') := k2
    exact (show St none_ h h118 ([A.vec 25 1 ka ks.length kc (ks.map lvV), A.all ((ks.drop (i + 1)).map lvA), A.vec 25 1 wa ws.length wc (ws.map lvV), A.all (ws.map lvA), LogA 81 83 p6 s] ++ BookL b99 m') from k2.pull1).perm List.perm_append_comm
end Go.Proofs.YtbaglaoefaoaoaaDoor.F
