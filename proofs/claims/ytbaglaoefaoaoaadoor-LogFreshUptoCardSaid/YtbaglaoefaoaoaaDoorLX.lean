/- The laws of the log: LogFresh answers true. Conditions: none. -/
import Derived.Test.YtbaglaoefaoaoaaDoorLU
namespace Go.Proofs.YtbaglaoefaoaoaaDoor.F
open Go Go.VC Go.Proofs
set_option linter.unusedSimpArgs false
set_option linter.unusedVariables false
set_option maxRecDepth 100000
attribute [local irreducible] CallsH RunsTo PureTo

variable {S F G : Nat → Prop} {h0 h h1 : Heap} {L R L' : List A} {a b0 la wa : Option Addr} {l c l2 c2 p b cl cw : Nat} {bs cs : List UInt8} {bss css : List Bytes} {s : LogS}
theorem book_total {m : BkM} (k : St S h0 h (BookL p m ++ R)) : cellH h ⟨p, 2, none⟩ = some (.int .i64 m.total) := by
  simp only [BookL, List.cons_append, List.nil_append] at k
  exact k.rd (by rfl)
theorem comm {X Y : List A} (k : St S h0 h (X ++ Y)) : St S h0 h (Y ++ X) := k.perm List.perm_append_comm
theorem logFresh_spec {a0 a1 : Option Addr} {l0 c0 l1 c1 : Nat} {d0 : List Bytes} {os : List PsM} (hT : Tab none_ h) (hd : RoL none_ h a0 l0 d0) (hb0 : tot d0 ≤ 1048576)
    (hs : Sl h a1 (os.flatMap psC)) (hl : os.length = l1) (ho : ∀ o ∈ os, Sl h o.a (bytesV o.r) ∧ o.r.length = o.l ∧ o.keep < 9223372036854775808) (hB : (os.map fun o => o.l + 25).sum ≤ 30000000) :
    CallsH Tryd.prog 7 #[.agg #[.slice a0 l0 c0], .slice a1 l1 c1] h (fun v h' => v = .bool true ∧ Ext h h') := by
  refine vf7 _ _ _ _ _ _ h _ ?_
  unfold F7
  have k := St.fresh h
  refine k.vnew fun b1 h2 k => ?_
  refine CallsH.mono (begun_spec (hT.in k)) ?_
  rintro _ h4 ⟨rfl, m4⟩
  have k := k.next m4
  refine ⟨_, rfl, cond_false rfl ⟨_, _, _, k.rd (by rfl), ?_⟩⟩
  refine CallsH.mono (open_spec (hT.in k) (hd.in k) (by omega)) ?_
  rintro _ h8 (⟨hS, rfl, m8⟩ | ⟨st, p9, a10, l10, c10, hS, rfl, k1⟩)
  · have k := k.next m8
    refine ⟨_, _, _, _, _, rfl, _, _, _, k.rd (by rfl), CallsH.mono (open_spec (hT.in k) (hd.in k) (by omega)) ?_⟩
    rintro _ h14 (⟨_, rfl, m14⟩ | ⟨st2, p15, a16, l16, c16, hS2, _⟩)
    · have k := k.next m14
      refine ⟨_, _, _, _, _, rfl, cond_false rfl (cond_false rfl (cond_false rfl (CallsH.mono (sameLists_spec (.nil _ _) (.nil _ _) (Nat.zero_le _)) ?_)))⟩
      rintro _ _ ⟨rfl, rfl⟩
      exact ⟨_, rfl, cond_false rfl (cond_true rfl ⟨rfl, k.ext⟩)⟩
    · rw [hS] at hS2; cases hS2
  have k := k.add2 k1
  refine ⟨_, _, _, _, _, rfl, _, _, _, k.rd (by rfl), CallsH.mono (open_spec (hT.in k) (hd.in k) (by omega)) ?_⟩
  rintro _ h14 (⟨hS2, _⟩ | ⟨st2, p15, a16, l16, c16, hS2, rfl, k1⟩)
  · rw [hS] at hS2; cases hS2
  have est : st = st2 := by rw [hS] at hS2; exact Option.some.inj hS2
  subst est
  have k := k.add2 k1
  obtain ⟨okS, eS1, eS2, htS, _⟩ := openS_ok hS
  refine ⟨_, _, _, _, _, rfl, cond_false rfl (cond_false rfl (cond_false rfl (CallsH.mono (sameLists_spec (k.roL (a := a10)) (k.roL (a := a16)) (by omega)) ?_)))⟩
  rintro _ _ ⟨rfl, rfl⟩
  refine ⟨_, rfl, cond_false (by simp) (cond_false rfl (cond_false rfl ⟨_, _, _, k.rd (by rfl), ?_⟩))⟩
  refine CallsH.mono (unwritten_spec (hT.in k) (hd.in k) hb0 hS (hs.ro.in k).sl hl (fun o h => ⟨((ho o h).1.ro.in k).sl, (ho o h).2⟩) hB) ?_
  rintro _ h23 ⟨rfl, m23⟩
  have k := k.next m23
  refine ⟨_, rfl, cond_false rfl (k.vnew fun b25 h26 k => ?_)⟩
  have hbig0 : st.s.big ≤ 1048576 := by
    unfold LogS.big; rw [eS1, eS2]
    show tot d0 + 0 ≤ _
    omega
  have k : St none_ h h26 [A.blk b25 #[.slice none 0 0, .slice none 0 0, .int .i64 0] 66, LogA 81 83 p15 st.s, LV a16 l16 c16 st.recs, LogA 81 83 p9 st.s, LV a10 l10 c10 st.recs, A.blk b1 #[.slice a0 l0 c0] 34] := k
  have k : St none_ h h26 [A.blk b25 #[.slice none 0 0, .slice none 0 0, .int .i64 0] 66, LV a10 l10 c10 st.recs, LogA 81 83 p9 st.s, LogA 81 83 p15 st.s, LV a16 l16 c16 st.recs, A.blk b1 #[.slice a0 l0 c0] 34] := k.sel 6 [0, 4, 3, 1, 2, 5] rfl (by decide) (by rfl)
  have k := book_new k
  have hrl := tot_len st.recs
  refine take_st book_ok0 k (by omega) (Nat.zero_le _) (by show 0 + 4 * st.recs.length ≤ _; omega) (by show 0 + 4 ≤ _; omega) fun m h28 mok mt mt2 me ml k => ⟨rfl, ?_⟩
  have mt : m.total ≤ 0 + 150 * tot st.recs := mt
  have mt2 : 0 + 150 * st.recs.length ≤ m.total := mt2
  have me : m.es.length = 0 + 4 * st.recs.length := me
  have ml : m.ls.length = 0 + 4 := ml
  have k : St none_ h h28 ([LogA 81 83 p9 st.s, LogA 81 83 p15 st.s, LV a16 l16 c16 st.recs, A.blk b1 #[.slice a0 l0 c0] 34] ++ BookL b25 m) := comm k
  have k : St none_ h h28 ([LogA 81 83 p9 st.s, LogA 81 83 p15 st.s] ++ BookL b25 m) := (St.pull2 (k.pull3.drop)).drop
  have hst : ∃ n, ∃ (j : Nat) (m : BkM) (s : LogS), (0 : Int) = j ∧ j ≤ l1 ∧ n = l1 - j ∧ BkOk m ∧ m.total ≤ 33554432 + 150 * 67108864 ∧ 150 * m.es.length ≤ 4 * m.total ∧ m.ls.length = 4 + 4 * j ∧ s.Ok ∧ s.big ≤ 1048576 + pgB os j ∧ St none_ h h28 ([LogA 81 83 p9 s, LogA 81 83 p15 s] ++ BookL b25 m) :=
    ⟨_, 0, m, st.s, rfl, by omega, rfl, mok, by omega, by omega, by omega, okS, by show st.s.big ≤ 1048576 + 0; omega, k⟩
  refine ⟨fun n hh _ i => ∃ (j : Nat) (m : BkM) (s : LogS), i = j ∧ j ≤ l1 ∧ n = l1 - j ∧ BkOk m ∧ m.total ≤ 33554432 + 150 * 67108864 ∧ 150 * m.es.length ≤ 4 * m.total ∧ m.ls.length = 4 + 4 * j ∧ s.Ok ∧ s.big ≤ 1048576 + pgB os j ∧ St none_ h hh ([LogA 81 83 p9 s, LogA 81 83 p15 s] ++ BookL b25 m), hst, ?_⟩
  clear hst k
  rintro n hh _ _ i ⟨j, m, s, rfl, hj, rfl, mok, mt, me, ml, ok, hbig, k⟩
  have hpl := pgB_le os j
  have hos := ps_len os
  refine cond_split (fun hc => ?_) (fun _ => whole_st mok (comm k) (by omega) (by omega) ⟨_, rfl, rfl, k.ext⟩)
  refine ⟨_, book_total (comm k), ?_⟩
  generalize hb25 : (33554432 : Int) = big25
  refine cond_split (fun ht25 => ?_) (fun _ => whole_st mok (comm k) (by omega) (by omega) ⟨_, rfl, rfl, k.ext⟩)
  have ht25 : m.total < 33554432 := by
    have : (m.total : Int) < big25 := of_decide_eq_true ht25
    omega
  have hjl : j < l1 := Int.ofNat_lt.1 (of_decide_eq_true hc)
  obtain ⟨o, hoj⟩ : ∃ o, os[j]? = some o := ⟨_, List.getElem?_eq_getElem (by omega)⟩
  obtain ⟨o1, o2, o3⟩ := ho o (List.mem_of_getElem? hoj)
  have hbn := pgB_next hoj
  have hbl := pgB_le os (j + 1)
  refine ⟨fun h' _ _ _ _ _ => ∃ (m : BkM) (s : LogS), BkOk m ∧ m.total ≤ 33554432 + 150 * 67108864 ∧ 150 * m.es.length ≤ 4 * m.total ∧ m.ls.length = 4 + 4 * (j + 1) ∧ s.Ok ∧ s.big ≤ 1048576 + pgB os (j + 1) ∧ St none_ h h' ([LogA 81 83 p9 s, LogA 81 83 p15 s] ++ BookL b25 m), ?_, ?_⟩
  case refine_2 =>
    rintro h' _ _ _ _ _ _ ⟨m, s, r⟩
    exact ⟨l1 - (j + 1), by omega, j + 1, m, s, by rw [wrap_id (by omega) (by omega)]; omega, hjl, rfl, r⟩
  refine (hs.ext k.ext).row (f := psC) (fun _ => rfl) (by omega) hl (by omega) (by omega) fun ad o' ho' hcell => ?_
  rw [Int.toNat_natCast, hoj] at ho'
  cases ho'
  refine ⟨_, hcell 0 _ rfl, _, hcell 1 _ rfl, _, _, _, hcell 2 _ rfl, _, hcell 3 _ rfl, ?_⟩
  refine k.vnew fun b43 h44 k => ?_
  refine k.vall (by rfl) (by rfl) fun h45 k => ?_
  have k : St none_ h h45 (A.blk b43 #[.int .i64 o.kind, .int .i64 o.on, .slice o.a o.l o.c, .int .i64 o.keep] 41 :: LogA 81 83 p9 s :: LogA 81 83 p15 s :: BookL b25 m) := k
  refine ⟨fun h' _ => St none_ h h' (LogA 81 83 p9 (stepS s o.kind o.r) :: LogA 81 83 p15 (stepS s o.kind o.r) :: A.blk b43 #[.int .i64 o.kind, .int .i64 o.on, .slice o.a o.l o.c, .int .i64 o.keep] 41 :: BookL b25 m), ⟨_, k.rd (by rfl), ?_⟩, ?_⟩
  · refine cond_split (fun hc => ?_) (fun hc => cond_split (fun hc2 => ?_) (fun hc2 => cond_split (fun hc3 => ?_) (fun hc3 => ?_)))
    · have e : o.kind = 1 := by simpa using hc
      rw [e]
      refine ⟨_, _, _, k.rd (by rfl), _, _, _, k.rd (by rfl), op1_st k.pull1 hT o1.ro o2 (by omega) ok (by omega) fun h51 k => ⟨_, rfl, k.rd (by rfl), ?_⟩⟩
      refine op1_st k.pull2 hT o1.ro o2 (by omega) ok (by omega) fun h54 k => ⟨_, rfl, cond_false (by simp) ?_⟩
      rw [e] at k; exact k.pull1
    · have e : o.kind = 2 := by simpa using hc2
      rw [e]
      refine ⟨_, _, _, k.rd (by rfl), _, _, _, k.rd (by rfl), op2_st k.pull1 hT o1.ro o2 (by omega) ok (by omega) fun h51 k => ⟨_, rfl, k.rd (by rfl), ?_⟩⟩
      refine op2_st k.pull2 hT o1.ro o2 (by omega) ok (by omega) fun h54 k => ⟨_, rfl, cond_false (by simp) ?_⟩
      rw [e] at k; exact k.pull1
    · have e : o.kind = 3 := by simpa using hc3
      rw [e]
      refine op3_st (r := o.r) k.pull1 ok (by omega) fun h51 k => ⟨rfl, ?_⟩
      refine op3_st (r := o.r) k.pull2 ok (by omega) fun h54 k => ⟨rfl, ?_⟩
      rw [e] at k; exact k.pull1
    · rw [stepS_none s o.r (by simpa using hc) (by simpa using hc2) (by simpa using hc3)]
      exact k.pull2.pull2
  clear k
  rintro h68 _ y k
  have ok' := stepS_ok ok o.kind o.r
  have hbig' := stepS_big s o.kind o.r
  generalize stepS s o.kind o.r = s' at *
  have hbt : tot s'.segs + wtot s'.ws ≤ 67108864 := by
    have e : s'.big = tot s'.segs + wtot s'.ws := rfl
    omega
  have htd : tot (downS s'.segs s'.ws o.keep.toNat) ≤ tot s'.segs + wtot s'.ws := tot_steps s'.ws (s'.segs, o.keep.toNat)
  refine ⟨_, k.rd (by rfl), CallsH.mono (crash_spec o.keep (k.log (p := p9)) ok'.ws (by omega) o3) ?_⟩
  rintro _ h73 ⟨a74, l74, c74, rfl, k5⟩
  generalize hD : downS s'.segs s'.ws o.keep.toNat = D at *
  have hDl := tot_len D
  have k := k.add1 k5
  refine ⟨_, _, _, rfl, k.vnew fun b75 h76 k => ?_⟩
  refine k.vst (by simp) fun h77 k => ⟨_, k.rd (by rfl), CallsH.mono (crash_spec o.keep (k.log (p := p15)) ok'.ws (by omega) o3) ?_⟩
  rintro _ h80 ⟨a81, l81, c81, rfl, k6⟩
  rw [hD] at k6
  have k := k.add1 k6
  refine ⟨_, _, _, rfl, k.vnew fun b82 h83 k => ?_⟩
  refine k.vst (by simp) fun h84 k => ⟨_, _, _, k.rd (by rfl), _, _, _, k.rd (by rfl), ?_⟩
  refine CallsH.mono (sameLists_spec (k.roL (a := a74)) (k.roL (a := a81)) (by omega)) ?_
  rintro _ _ ⟨rfl, rfl⟩
  refine ⟨_, rfl, cond_false (by simp) (CallsH.mono (dirty_spec (k.log (p := p9)) (by omega)) ?_)⟩
  rintro _ h91 ⟨rfl, m91⟩
  have k := k.next m91
  refine ⟨_, rfl, CallsH.mono (dirty_spec (k.log (p := p15)) (by omega)) ?_⟩
  rintro _ h94 ⟨rfl, m94⟩
  have k := k.next m94
  refine ⟨_, rfl, cond_false (by simp) ⟨_, _, _, k.rd (by rfl), ?_⟩⟩
  have k : St none_ h h94 (A.blk b82 #[.slice a81 l81 c81] 34 :: LV a81 l81 c81 D :: A.blk b75 #[.slice a74 l74 c74] 34 :: LV a74 l74 c74 D :: LogA 81 83 p9 s' :: LogA 81 83 p15 s' :: A.blk b43 #[.int .i64 o.kind, .int .i64 o.on, .slice o.a o.l o.c, .int .i64 o.keep] 41 :: BookL b25 m) := k
  have k : St none_ h h94 ((LV a74 l74 c74 D :: [A.blk b82 #[.slice a81 l81 c81] 34, LV a81 l81 c81 D, A.blk b75 #[.slice a74 l74 c74] 34, LogA 81 83 p9 s', LogA 81 83 p15 s', A.blk b43 #[.int .i64 o.kind, .int .i64 o.on, .slice o.a o.l o.c, .int .i64 o.keep] 41]) ++ BookL b25 m) := k.pull3
  refine take_st mok (comm k) (by omega) (by omega) (by omega) (by omega) fun m' h98 mok' mt' mt2' me' ml' k => ⟨rfl, ?_⟩
  have k : St none_ h h98 (A.blk b82 #[.slice a81 l81 c81] 34 :: LV a81 l81 c81 D :: A.blk b75 #[.slice a74 l74 c74] 34 :: LogA 81 83 p9 s' :: LogA 81 83 p15 s' :: A.blk b43 #[.int .i64 o.kind, .int .i64 o.on, .slice o.a o.l o.c, .int .i64 o.keep] 41 :: BookL b25 m') := comm k
  refine ⟨_, k.rd (by rfl), CallsH.mono (crash_spec o.keep (k.log (p := p9)) ok'.ws (by omega) o3) ?_⟩
  rintro _ h101 ⟨a102, l102, c102, rfl, k7⟩
  rw [hD] at k7
  have k := k.add1 k7
  refine ⟨_, _, _, rfl, k.vnew fun b103 h104 k => ?_⟩
  refine k.vst (by simp) fun h105 k => ?_
  have k : St none_ h h105 (A.blk b103 #[.slice a102 l102 c102] 34 :: LV a102 l102 c102 D :: A.blk b82 #[.slice a81 l81 c81] 34 :: LV a81 l81 c81 D :: A.blk b75 #[.slice a74 l74 c74] 34 :: LogA 81 83 p9 s' :: LogA 81 83 p15 s' :: A.blk b43 #[.int .i64 o.kind, .int .i64 o.on, .slice o.a o.l o.c, .int .i64 o.keep] 41 :: BookL b25 m') := k
  have kw : St none_ h h105 (BookL b25 m' ++ [A.blk b103 #[.slice a102 l102 c102] 34, LV a102 l102 c102 D, A.blk b82 #[.slice a81 l81 c81] 34, LV a81 l81 c81 D, A.blk b75 #[.slice a74 l74 c74] 34, LogA 81 83 p9 s', LogA 81 83 p15 s', A.blk b43 #[.int .i64 o.kind, .int .i64 o.on, .slice o.a o.l o.c, .int .i64 o.keep] 41]) := comm (X := [_, _, _, _, _, _, _, _]) k
  have fin : ∃ (m : BkM) (s : LogS), BkOk m ∧ m.total ≤ 33554432 + 150 * 67108864 ∧ 150 * m.es.length ≤ 4 * m.total ∧ m.ls.length = 4 + 4 * (j + 1) ∧ s.Ok ∧ s.big ≤ 1048576 + pgB os (j + 1) ∧ St none_ h h105 ([LogA 81 83 p9 s, LogA 81 83 p15 s] ++ BookL b25 m) :=
    ⟨m', s', mok', by omega, by omega, by omega, ok', by omega, (St.pull2 (k.drop.drop.drop.drop.drop)).drop⟩
  refine cond_split (fun _ => ?_) (fun _ => ⟨by omega, cond_split (fun _ => ?_) (fun _ => ?_)⟩)
  · refine whole_st mok' kw (by omega) (by omega) ⟨_, rfl, cond_false rfl ⟨_, _, _, k.rd (by rfl), _, _, _, k.rd (by rfl), ?_⟩⟩
    refine CallsH.mono (sameLists_spec (k.roL (a := a81)) (k.roL (a := a102)) (by omega)) ?_
    rintro _ _ ⟨rfl, rfl⟩
    exact ⟨_, rfl, cond_false (by simp) fin⟩
  · refine whole_st mok' kw (by omega) (by omega) ⟨_, rfl, cond_false rfl ⟨_, _, _, k.rd (by rfl), _, _, _, k.rd (by rfl), ?_⟩⟩
    refine CallsH.mono (sameLists_spec (k.roL (a := a81)) (k.roL (a := a102)) (by omega)) ?_
    rintro _ _ ⟨rfl, rfl⟩
    exact ⟨_, rfl, cond_false (by simp) fin⟩
  · refine ⟨_, _, _, k.rd (by rfl), _, _, _, k.rd (by rfl), ?_⟩
    refine CallsH.mono (sameLists_spec (k.roL (a := a81)) (k.roL (a := a102)) (by omega)) ?_
    rintro _ _ ⟨rfl, rfl⟩
    exact ⟨_, rfl, cond_false (by simp) fin⟩
end Go.Proofs.YtbaglaoefaoaoaaDoor.F
