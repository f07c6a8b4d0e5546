/- The laws of the log: LogRecovers answers true. Conditions: none. -/
import Derived.Test.YtbaglaoefaoaoaaDoorLM
import Derived.Test.YtbaglaoefaoaoaaDoorLJ
namespace Go.Proofs.YtbaglaoefaoaoaaDoor.F
open Go Go.VC Go.Proofs
set_option linter.unusedSimpArgs false
set_option linter.unusedVariables false
set_option maxRecDepth 100000
attribute [local irreducible] CallsH RunsTo PureTo

variable {S F G : Nat → Prop} {h0 h h1 : Heap} {L R L' : List A} {a b0 la wa : Option Addr} {l c l2 c2 p b cl cw : Nat} {bs cs : List UInt8} {bss css : List Bytes} {s : LogS}
theorem step_st {ms : List SmM} {recs : List Bytes} {kind on keep : Int} {r : Bytes} (k : St none_ h0 h (StoA b ms :: LogA 81 83 p s :: R)) (hT : Tab none_ h0) (hr : Ro none_ h0 a (bytesV r)) (hl : r.length = l) (hlb : l ≤ 140737488355328) (fit : Fits ms s recs) (hb : s.big ≤ 1073741824) (hmb : ms.length < 100000) {K : KV}
    (q : ∀ h' ms' s' recs', Fits ms' s' recs' → s'.big ≤ s.big + (min l 1048576 + 25) → ms'.length ≤ ms.length + 1 → St none_ h0 h' (StoA b ms' :: LogA 81 83 p s' :: R) → K (.bool true) h') :
    CallsH Tryd.prog 15 #[.pointer (some ⟨b, 0, none⟩), .pointer (some ⟨p, 0, none⟩), .agg #[.int .i64 kind, .int .i64 on, .slice a l c, .int .i64 keep]] h K := by
  obtain ⟨F', G, k1, kG, _, hF, back⟩ := St.frame (L := [StoA b ms, LogA 81 83 p s]) (R := R) k
  refine CallsH.mono (step_spec k1 (hT.at k.ext hF) (hr.at k.ext hF) hl hlb fit hb hmb) ?_
  rintro _ h' ⟨rfl, ms', s', recs', f1, f2, f3, k2⟩
  exact q h' ms' s' recs' f1 f2 f3 (back k2)
theorem recov_st {ms : List SmM} {recs : List Bytes} (keep : Int) (hk : keep < 9223372036854775808) (k : St none_ h0 h (StoA b ms :: LogA 81 83 p s :: R)) (hT : Tab none_ h0) (fit : Fits ms s recs) (hb : s.big ≤ 2147483648) (hmb : ms.length < 1000000) {K : KV}
    (q : ∀ h', St none_ h0 h' (StoA b ms :: LogA 81 83 p s :: R) → K (.bool true) h') :
    CallsH Tryd.prog 17 #[.pointer (some ⟨b, 0, none⟩), .pointer (some ⟨p, 0, none⟩), .int .i64 keep] h K := by
  obtain ⟨init, e, inv⟩ := fit
  refine CallsH.mono (recovers_spec keep (hT.in k) (StoA.r k) (k.log (p := p)) inv e hb hmb hk) ?_
  rintro _ h' ⟨rfl, m⟩
  exact q h' (k.next m)
/-- How much the first j steps write, at most. -/
def pgR (os : List PsM) (j : Nat) : Nat := ((os.take j).map fun o => min o.l 1048576 + 25).sum
theorem pgR_next {os : List PsM} {j : Nat} {o : PsM} (h : os[j]? = some o) : pgR os (j + 1) = pgR os j + (min o.l 1048576 + 25) := by
  unfold pgR
  rw [List.take_add_one, h, List.map_append, List.sum_append]; simp
theorem pgR_le {os : List PsM} {j : Nat} (hj : j ≤ 25) : pgR os j ≤ 536870912 := by
  have h1 : ∀ xs : List PsM, (xs.map fun o => min o.l 1048576 + 25).sum ≤ 1048601 * xs.length := fun xs => by
    induction xs with
    | nil => exact Nat.le_refl _
    | cons x xs ih => simp only [List.map_cons, List.sum_cons, List.length_cons]; omega
  have h2 := h1 (os.take j)
  have h3 : (os.take j).length ≤ j := by rw [List.length_take]; omega
  unfold pgR
  omega
theorem logRecovers_spec {a0 a2 a3 : Option Addr} {l0 c0 l2 c2 l3 c3 : Nat} {crash : Int} {os ps : List PsM} {ks : List Int} (hT : Tab none_ h) (hs0 : Sl h a0 (os.flatMap psC)) (hl0 : os.length = l0) (ho0 : ∀ o ∈ os, Sl h o.a (bytesV o.r) ∧ o.r.length = o.l ∧ o.l ≤ 140737488355328) (hB0 : l0 ≤ 140737488355328)
    (hs2 : Sl h a2 (ps.flatMap psC)) (hl2 : ps.length = l2) (ho2 : ∀ o ∈ ps, Sl h o.a (bytesV o.r) ∧ o.r.length = o.l ∧ o.l ≤ 140737488355328) (hB2 : l2 ≤ 140737488355328)
    (hs3 : Sl h a3 (ks.map (Value.int .i64))) (hl3 : ks.length = l3) (hB3 : l3 ≤ 140737488355328) (ho3 : ∀ x ∈ ks, x < 9223372036854775808) (hcr : crash < 9223372036854775808) :
    CallsH Tryd.prog 5 #[.slice a0 l0 c0, .int .i64 crash, .slice a2 l2 c2, .slice a3 l3 c3] h (fun v h' => v = .bool true ∧ Ext h h') := by
  refine vf5 _ _ _ _ _ _ _ _ _ _ h _ ?_
  unfold F5
  have k := St.fresh h
  refine CallsH.mono (begun_spec hT) ?_
  rintro _ h2 ⟨rfl, m2⟩
  have k := k.next m2
  refine ⟨_, rfl, cond_false rfl (CallsH.mono (open_spec (hT.in k) (.nil _ _) (Nat.zero_le _)) ?_)⟩
  rintro _ h5 (⟨hS, _⟩ | ⟨st, p6, ra, rl, rc, hS, rfl, k1⟩)
  · rw [open_none] at hS; cases hS
  rw [open_none] at hS
  have hS := Option.some.inj hS
  subst hS
  have k := (k.add2 k1).pull1.drop
  refine ⟨_, _, _, _, _, rfl, cond_false rfl (k.vnew fun b9 h10 k => k.vnew fun b11 h12 k => ?_)⟩
  have k : St none_ h h12 [StoA b11 [⟨0, none, 0, []⟩], LogA 81 83 p6 (open0 []).s] := by
    have k := k.pull1.blkvec (sz := 2) (n := 1) rfl (by omega) (by omega)
    have k := (Pool.nil k.pool0)
    have k : St none_ h h12 [A.blk b11 #[.slice (some ⟨b9, 0, none⟩) 1 1] 53, A.vec 50 2 (some ⟨b9, 0, none⟩) 1 1 (([⟨0, none, 0, []⟩] : List SmM).flatMap smC), Pool [(none, [])], LogA 81 83 p6 (open0 []).s] := k.sel 4 [2, 1, 0, 3] rfl (by decide) (by rfl)
    exact StoA.close (ms := [⟨0, none, 0, []⟩]) (sa := some ⟨b9, 0, none⟩) (sc := 1) (n := 1) (ps := [(none, [])]) (R := [LogA 81 83 p6 (open0 []).s]) rfl (by simp) k
  have hst : ∃ n, ∃ (j : Nat) (ms : List SmM) (s : LogS) (recs : List Bytes), (0 : Int) = j ∧ j ≤ l0 ∧ n = l0 - j ∧ Fits ms s recs ∧ s.big ≤ pgR os j ∧ ms.length ≤ j + 1 ∧ j ≤ 25 ∧ St none_ h h12 [StoA b11 ms, LogA 81 83 p6 s] :=
    ⟨_, 0, _, _, [], rfl, by omega, rfl, ⟨[], rfl, Inv.none⟩, Nat.zero_le _, Nat.le_refl _, by omega, k⟩
  refine ⟨fun n hh _ _ i => ∃ (j : Nat) (ms : List SmM) (s : LogS) (recs : List Bytes), i = j ∧ j ≤ l0 ∧ n = l0 - j ∧ Fits ms s recs ∧ s.big ≤ pgR os j ∧ ms.length ≤ j + 1 ∧ j ≤ 25 ∧ St none_ h hh [StoA b11 ms, LogA 81 83 p6 s], hst, ?_⟩
  clear hst k
  rintro n hh _ _ _ i ⟨j, ms, s, recs, rfl, hj, rfl, fit, hbig, hml, hj25, k⟩
  have hpl := pgR_le (os := os) hj25
  have hne : ms ≠ [] := by
    rintro rfl
    obtain ⟨_, e, _⟩ := fit
    have := congrArg List.length e
    simp at this
  obtain ⟨init, e, inv⟩ := id fit
  refine cond_split (fun hc => cond_split (fun hc25 => ?_) (fun _ => ?_)) (fun _ => ?_)
  · have hjl : j < l0 := Int.ofNat_lt.1 (of_decide_eq_true hc)
    have hj24 : j < 25 := by
      have : (j : Int) < 25 := of_decide_eq_true hc25
      omega
    obtain ⟨o, hoj⟩ : ∃ o, os[j]? = some o := ⟨_, List.getElem?_eq_getElem (by omega)⟩
    obtain ⟨o1, o2, o3⟩ := ho0 o (List.mem_of_getElem? hoj)
    have hbn := pgR_next hoj
    have hbl := pgR_le (os := os) (j := j + 1) (by omega)
    refine (hs0.ext k.ext).row (f := psC) (fun _ => rfl) (by omega) hl0 (by omega) (by omega) fun ad o' ho' hcell => ?_
    rw [Int.toNat_natCast, hoj] at ho'
    cases ho'
    refine ⟨_, hcell 0 _ rfl, _, hcell 1 _ rfl, _, _, _, hcell 2 _ rfl, _, hcell 3 _ rfl, ?_⟩
    refine step_st k hT o1.ro o2 (by omega) fit (by omega) (by omega) fun h27 ms' s' recs' fit' hbig' hml' k => ⟨_, rfl, cond_false rfl ?_⟩
    exact ⟨l0 - (j + 1), by omega, j + 1, ms', s', recs', by rw [wrap_id (by omega) (by omega)]; omega, hjl, rfl, fit', by omega, by omega, by omega, k⟩
  ·
    refine CallsH.mono (crash_spec crash (k.log (p := p6)) inv.ok.ws (by omega) hcr) ?_
    rintro _ h30 ⟨a31, l31, c31, rfl, k31⟩
    have k := k.add1 k31
    refine ⟨_, _, _, rfl, k.vnew fun b32 h33 k => ?_⟩
    refine k.vst (by simp) fun h34 k => ?_
    have k : St none_ h h34 [A.blk b32 #[.slice a31 l31 c31] 34, LV a31 l31 c31 (downS s.segs s.ws crash.toNat), StoA b11 ms, LogA 81 83 p6 s] := k
    refine CallsH.mono (when_spec crash (StoA.r k.pull2) hne (by omega)) ?_
    rintro _ _ ⟨⟨m, hm, rfl, hw⟩, rfl⟩
    refine ⟨_, _, _, rfl, _, _, _, k.rd (by rfl), ?_⟩
    have hbt : tot s.segs + wtot s.ws ≤ 536870912 := Nat.le_trans hbig hpl
    have htd : tot (downS s.segs s.ws crash.toNat) ≤ tot s.segs + wtot s.ws := tot_steps s.ws (s.segs, crash.toNat)
    refine CallsH.mono (open_spec (hT.in k) (k.roL (a := a31)) (by omega)) ?_
    obtain ⟨st, hoS, hrec, inv2⟩ := inv.opens (by omega) crash
    rintro _ h40 (⟨hS, _⟩ | ⟨st', p41, a42, l42, c42, hS, rfl, k4⟩)
    · rw [hoS] at hS; cases hS
    have est : st = st' := by rw [hoS] at hS; exact Option.some.inj hS
    subst est
    have k := k.add2 k4
    have k : St none_ h h40 [LogA 81 83 p41 st.s, LV a42 l42 c42 st.recs, A.blk b32 #[.slice a31 l31 c31] 34, LV a31 l31 c31 (downS s.segs s.ws crash.toNat), StoA b11 ms, LogA 81 83 p6 s] := k
    obtain ⟨okS, eS1, eS2, htS, _⟩ := openS_ok hoS
    obtain ⟨_, _, _, _, q3⟩ := StoA.r k.pull4
    refine ⟨_, _, _, _, _, rfl, cond_false rfl (cond_false rfl (CallsH.mono (sameLists_spec (k.roL (a := a42)) (q3 m hm).roL (by omega)) ?_))⟩
    rintro _ _ ⟨rfl, rfl⟩
    have hrw : st.recs = m.xs.map Sg.bs := by rw [hw, e, hrec]
    refine ⟨_, rfl, cond_false (by rw [decide_eq_true hrw]; rfl) (k.vnew fun b47 h48 k => k.vnew fun b49 h50 k => ?_)⟩
    have k : St none_ h h50 [A.blk b49 #[.slice (some ⟨b47, 0, none⟩) 1 1] 53, A.blk b47 #[.int .i64 0, .slice m.a m.xs.length m.c] 50, LogA 81 83 p41 st.s, LV a42 l42 c42 st.recs, A.blk b32 #[.slice a31 l31 c31] 34, LV a31 l31 c31 (downS s.segs s.ws crash.toNat), StoA b11 ms, LogA 81 83 p6 s] := k
    have k : St none_ h h50 [StoA b49 [⟨0, m.a, m.c, m.xs⟩], LogA 81 83 p41 st.s] := by
      obtain ⟨sa, sc, ps', hps, k⟩ := StoA.open k.pull6
      have k : St none_ h h50 [A.blk b47 #[.int .i64 0, .slice m.a m.xs.length m.c] 50, A.blk b49 #[.slice (some ⟨b47, 0, none⟩) 1 1] 53, Pool ps', LogA 81 83 p41 st.s, A.blk b11 #[.slice sa ms.length sc] 53, A.vec 50 2 sa ms.length sc (ms.flatMap smC), LV a42 l42 c42 st.recs, A.blk b32 #[.slice a31 l31 c31] 34, LV a31 l31 c31 (downS s.segs s.ws crash.toNat), LogA 81 83 p6 s] := k.sel 10 [4, 3, 2, 5, 0, 1, 6, 7, 8, 9] rfl (by decide) (by rfl)
      have k := k.blkvec (sz := 2) (n := 1) rfl (by omega) (by omega)
      have k := StoA.close (ms := [⟨0, m.a, m.c, m.xs⟩]) (sa := some ⟨b47, 0, none⟩) (sc := 1) (n := 1) (ps := ps') rfl (fun y hy => by
        simp only [List.mem_singleton] at hy; subst hy; exact hps m hm) k.pull1
      exact k.only2
    have fit2 : Fits [⟨0, m.a, m.c, m.xs⟩] st.s st.recs := ⟨[], by rw [eS2]; show [(0, m.xs.map Sg.bs)] = _; rw [← hrw]; rfl, inv2⟩
    have hb2 : st.s.big ≤ 536870912 := by
      unfold LogS.big; rw [eS1, eS2]
      show tot _ + 0 ≤ _
      omega
    have hst : ∃ n, ∃ (j : Nat) (ms : List SmM) (s : LogS) (recs : List Bytes), (0 : Int) = j ∧ j ≤ l2 ∧ n = l2 - j ∧ Fits ms s recs ∧ s.big ≤ 536870912 + pgR ps j ∧ ms.length ≤ j + 1 ∧ j ≤ 25 ∧ St none_ h h50 [StoA b49 ms, LogA 81 83 p41 s] :=
      ⟨_, 0, _, _, _, rfl, by omega, rfl, fit2, by omega, Nat.le_refl _, by omega, k⟩
    refine ⟨fun n hh _ _ i => ∃ (j : Nat) (ms : List SmM) (s : LogS) (recs : List Bytes), i = j ∧ j ≤ l2 ∧ n = l2 - j ∧ Fits ms s recs ∧ s.big ≤ 536870912 + pgR ps j ∧ ms.length ≤ j + 1 ∧ j ≤ 25 ∧ St none_ h hh [StoA b49 ms, LogA 81 83 p41 s], hst, ?_⟩
    clear hst k fit2 fit inv inv2 hml hbig hbt htd hm hw hpl
    clear q3 e hne
    rintro n hh _ _ _ i ⟨j, ms, s, recs, rfl, hj, rfl, fit, hbig, hml, hj25, k⟩
    refine cond_split (fun hc => cond_split (fun hc25 => ?_) (fun _ => ⟨rfl, k.ext⟩)) (fun _ => ⟨rfl, k.ext⟩)
    have hjl : j < l2 := Int.ofNat_lt.1 (of_decide_eq_true hc)
    have hj24 : j < 25 := by
      have : (j : Int) < 25 := of_decide_eq_true hc25
      omega
    obtain ⟨o, hoj⟩ : ∃ o, ps[j]? = some o := ⟨_, List.getElem?_eq_getElem (by omega)⟩
    obtain ⟨o1, o2, o3⟩ := ho2 o (List.mem_of_getElem? hoj)
    have hbn := pgR_next hoj
    have hbl := pgR_le (os := ps) (j := j + 1) (by omega)
    refine (hs2.ext k.ext).row (f := psC) (fun _ => rfl) (by omega) hl2 (by omega) (by omega) fun ad o' ho' hcell => ?_
    rw [Int.toNat_natCast, hoj] at ho'
    cases ho'
    refine ⟨_, hcell 0 _ rfl, _, hcell 1 _ rfl, _, _, _, hcell 2 _ rfl, _, hcell 3 _ rfl, ?_⟩
    refine step_st k hT o1.ro o2 (by omega) fit (by omega) (by omega) fun h65 ms s' recs fit hbig' hml' k => ⟨_, rfl, cond_false rfl ?_⟩
    have hdb : dirtyS s'.ws ≤ s'.big := by
      have := dirty_wtot s'.ws
      show _ ≤ tot s'.segs + wtot s'.ws
      omega
    refine CallsH.mono (dirty_spec (k.log (p := p41)) (by omega)) ?_
    rintro _ h68 ⟨rfl, m68⟩
    have k := k.next m68
    refine ⟨_, rfl, ?_⟩
    refine recov_st _ (by omega) k hT fit (by omega) (by omega) fun h71 k => ⟨_, rfl, cond_false rfl ?_⟩
    have ew : IntKind.i64.wrap ((dirtyS s'.ws : Int) - 1) = (dirtyS s'.ws : Int) - 1 := wrap_id (by omega) (by omega)
    rw [ew]
    refine recov_st _ (by omega) k hT fit (by omega) (by omega) fun h74 k => ⟨_, rfl, cond_false rfl ?_⟩
    refine recov_st _ (by omega) k hT fit (by omega) (by omega) fun h77 k => ⟨_, rfl, cond_false rfl ?_⟩
    refine recov_st _ (by omega) k hT fit (by omega) (by omega) fun h80 k => ⟨_, rfl, cond_false rfl ?_⟩
    have hst : ∃ n, ∃ i : Nat, (0 : Int) = i ∧ i ≤ l3 ∧ n = l3 - i ∧ St none_ h h80 [StoA b49 ms, LogA 81 83 p41 s'] := ⟨_, 0, rfl, by omega, rfl, k⟩
    refine ⟨fun n hh _ x => ∃ i : Nat, x = i ∧ i ≤ l3 ∧ n = l3 - i ∧ St none_ h hh [StoA b49 ms, LogA 81 83 p41 s'], hst, ?_⟩
    clear hst k
    rintro n hh _ _ x ⟨i, rfl, hi, rfl, k⟩
    have nxt : ∃ m, m < l2 - j ∧ ∃ (j' : Nat) (ms : List SmM) (s : LogS) (recs : List Bytes), IntKind.i64.wrap ((j : Int) + 1) = j' ∧ j' ≤ l2 ∧ m = l2 - j' ∧ Fits ms s recs ∧ s.big ≤ 536870912 + pgR ps j' ∧ ms.length ≤ j' + 1 ∧ j' ≤ 25 ∧ St none_ h hh [StoA b49 ms, LogA 81 83 p41 s] :=
      ⟨l2 - (j + 1), by omega, j + 1, ms, s', recs, by rw [wrap_id (by omega) (by omega)]; omega, hjl, rfl, fit, by omega, by omega, by omega, k⟩
    refine cond_split (fun hc => cond_split (fun hc6 => ?_) (fun _ => nxt)) (fun _ => nxt)
    clear nxt
    have hil : i < l3 := Int.ofNat_lt.1 (of_decide_eq_true hc)
    have hi6 : i < 6 := by
      have : (i : Int) < 6 := of_decide_eq_true hc6
      omega
    refine (hs3.ext k.ext).one hl3 (by omega) (by omega) fun ad x hx hcx => ⟨_, hcx, ?_⟩
    refine recov_st x (ho3 x (List.mem_of_getElem? hx)) k hT fit (by omega) (by omega) fun h92 k => ⟨_, rfl, cond_false rfl ?_⟩
    exact ⟨l3 - (i + 1), by omega, i + 1, by rw [wrap_id (by omega) (by omega)]; omega, hil, rfl, k⟩
  ·
    refine CallsH.mono (crash_spec crash (k.log (p := p6)) inv.ok.ws (by omega) hcr) ?_
    rintro _ h30 ⟨a31, l31, c31, rfl, k31⟩
    have k := k.add1 k31
    refine ⟨_, _, _, rfl, k.vnew fun b32 h33 k => ?_⟩
    refine k.vst (by simp) fun h34 k => ?_
    have k : St none_ h h34 [A.blk b32 #[.slice a31 l31 c31] 34, LV a31 l31 c31 (downS s.segs s.ws crash.toNat), StoA b11 ms, LogA 81 83 p6 s] := k
    refine CallsH.mono (when_spec crash (StoA.r k.pull2) hne (by omega)) ?_
    rintro _ _ ⟨⟨m, hm, rfl, hw⟩, rfl⟩
    refine ⟨_, _, _, rfl, _, _, _, k.rd (by rfl), ?_⟩
    have hbt : tot s.segs + wtot s.ws ≤ 536870912 := Nat.le_trans hbig hpl
    have htd : tot (downS s.segs s.ws crash.toNat) ≤ tot s.segs + wtot s.ws := tot_steps s.ws (s.segs, crash.toNat)
    refine CallsH.mono (open_spec (hT.in k) (k.roL (a := a31)) (by omega)) ?_
    obtain ⟨st, hoS, hrec, inv2⟩ := inv.opens (by omega) crash
    rintro _ h40 (⟨hS, _⟩ | ⟨st', p41, a42, l42, c42, hS, rfl, k4⟩)
    · rw [hoS] at hS; cases hS
    have est : st = st' := by rw [hoS] at hS; exact Option.some.inj hS
    subst est
    have k := k.add2 k4
    have k : St none_ h h40 [LogA 81 83 p41 st.s, LV a42 l42 c42 st.recs, A.blk b32 #[.slice a31 l31 c31] 34, LV a31 l31 c31 (downS s.segs s.ws crash.toNat), StoA b11 ms, LogA 81 83 p6 s] := k
    obtain ⟨okS, eS1, eS2, htS, _⟩ := openS_ok hoS
    obtain ⟨_, _, _, _, q3⟩ := StoA.r k.pull4
    refine ⟨_, _, _, _, _, rfl, cond_false rfl (cond_false rfl (CallsH.mono (sameLists_spec (k.roL (a := a42)) (q3 m hm).roL (by omega)) ?_))⟩
    rintro _ _ ⟨rfl, rfl⟩
    have hrw : st.recs = m.xs.map Sg.bs := by rw [hw, e, hrec]
    refine ⟨_, rfl, cond_false (by rw [decide_eq_true hrw]; rfl) (k.vnew fun b47 h48 k => k.vnew fun b49 h50 k => ?_)⟩
    have k : St none_ h h50 [A.blk b49 #[.slice (some ⟨b47, 0, none⟩) 1 1] 53, A.blk b47 #[.int .i64 0, .slice m.a m.xs.length m.c] 50, LogA 81 83 p41 st.s, LV a42 l42 c42 st.recs, A.blk b32 #[.slice a31 l31 c31] 34, LV a31 l31 c31 (downS s.segs s.ws crash.toNat), StoA b11 ms, LogA 81 83 p6 s] := k
    have k : St none_ h h50 [StoA b49 [⟨0, m.a, m.c, m.xs⟩], LogA 81 83 p41 st.s] := by
      obtain ⟨sa, sc, ps', hps, k⟩ := StoA.open k.pull6
      have k : St none_ h h50 [A.blk b47 #[.int .i64 0, .slice m.a m.xs.length m.c] 50, A.blk b49 #[.slice (some ⟨b47, 0, none⟩) 1 1] 53, Pool ps', LogA 81 83 p41 st.s, A.blk b11 #[.slice sa ms.length sc] 53, A.vec 50 2 sa ms.length sc (ms.flatMap smC), LV a42 l42 c42 st.recs, A.blk b32 #[.slice a31 l31 c31] 34, LV a31 l31 c31 (downS s.segs s.ws crash.toNat), LogA 81 83 p6 s] := k.sel 10 [4, 3, 2, 5, 0, 1, 6, 7, 8, 9] rfl (by decide) (by rfl)
      have k := k.blkvec (sz := 2) (n := 1) rfl (by omega) (by omega)
      have k := StoA.close (ms := [⟨0, m.a, m.c, m.xs⟩]) (sa := some ⟨b47, 0, none⟩) (sc := 1) (n := 1) (ps := ps') rfl (fun y hy => by
        simp only [List.mem_singleton] at hy; subst hy; exact hps m hm) k.pull1
      exact k.only2
    have fit2 : Fits [⟨0, m.a, m.c, m.xs⟩] st.s st.recs := ⟨[], by rw [eS2]; show [(0, m.xs.map Sg.bs)] = _; rw [← hrw]; rfl, inv2⟩
    have hb2 : st.s.big ≤ 536870912 := by
      unfold LogS.big; rw [eS1, eS2]
      show tot _ + 0 ≤ _
      omega
    have hst : ∃ n, ∃ (j : Nat) (ms : List SmM) (s : LogS) (recs : List Bytes), (0 : Int) = j ∧ j ≤ l2 ∧ n = l2 - j ∧ Fits ms s recs ∧ s.big ≤ 536870912 + pgR ps j ∧ ms.length ≤ j + 1 ∧ j ≤ 25 ∧ St none_ h h50 [StoA b49 ms, LogA 81 83 p41 s] :=
      ⟨_, 0, _, _, _, rfl, by omega, rfl, fit2, by omega, Nat.le_refl _, by omega, k⟩
    refine ⟨fun n hh _ _ i => ∃ (j : Nat) (ms : List SmM) (s : LogS) (recs : List Bytes), i = j ∧ j ≤ l2 ∧ n = l2 - j ∧ Fits ms s recs ∧ s.big ≤ 536870912 + pgR ps j ∧ ms.length ≤ j + 1 ∧ j ≤ 25 ∧ St none_ h hh [StoA b49 ms, LogA 81 83 p41 s], hst, ?_⟩
    clear hst k fit2 fit inv inv2 hml hbig hbt htd hm hw hpl
    clear q3 e hne
    rintro n hh _ _ _ i ⟨j, ms, s, recs, rfl, hj, rfl, fit, hbig, hml, hj25, k⟩
    refine cond_split (fun hc => cond_split (fun hc25 => ?_) (fun _ => ⟨rfl, k.ext⟩)) (fun _ => ⟨rfl, k.ext⟩)
    have hjl : j < l2 := Int.ofNat_lt.1 (of_decide_eq_true hc)
    have hj24 : j < 25 := by
      have : (j : Int) < 25 := of_decide_eq_true hc25
      omega
    obtain ⟨o, hoj⟩ : ∃ o, ps[j]? = some o := ⟨_, List.getElem?_eq_getElem (by omega)⟩
    obtain ⟨o1, o2, o3⟩ := ho2 o (List.mem_of_getElem? hoj)
    have hbn := pgR_next hoj
    have hbl := pgR_le (os := ps) (j := j + 1) (by omega)
    refine (hs2.ext k.ext).row (f := psC) (fun _ => rfl) (by omega) hl2 (by omega) (by omega) fun ad o' ho' hcell => ?_
    rw [Int.toNat_natCast, hoj] at ho'
    cases ho'
    refine ⟨_, hcell 0 _ rfl, _, hcell 1 _ rfl, _, _, _, hcell 2 _ rfl, _, hcell 3 _ rfl, ?_⟩
    refine step_st k hT o1.ro o2 (by omega) fit (by omega) (by omega) fun h65 ms s' recs fit hbig' hml' k => ⟨_, rfl, cond_false rfl ?_⟩
    have hdb : dirtyS s'.ws ≤ s'.big := by
      have := dirty_wtot s'.ws
      show _ ≤ tot s'.segs + wtot s'.ws
      omega
    refine CallsH.mono (dirty_spec (k.log (p := p41)) (by omega)) ?_
    rintro _ h68 ⟨rfl, m68⟩
    have k := k.next m68
    refine ⟨_, rfl, ?_⟩
    refine recov_st _ (by omega) k hT fit (by omega) (by omega) fun h71 k => ⟨_, rfl, cond_false rfl ?_⟩
    have ew : IntKind.i64.wrap ((dirtyS s'.ws : Int) - 1) = (dirtyS s'.ws : Int) - 1 := wrap_id (by omega) (by omega)
    rw [ew]
    refine recov_st _ (by omega) k hT fit (by omega) (by omega) fun h74 k => ⟨_, rfl, cond_false rfl ?_⟩
    refine recov_st _ (by omega) k hT fit (by omega) (by omega) fun h77 k => ⟨_, rfl, cond_false rfl ?_⟩
    refine recov_st _ (by omega) k hT fit (by omega) (by omega) fun h80 k => ⟨_, rfl, cond_false rfl ?_⟩
    have hst : ∃ n, ∃ i : Nat, (0 : Int) = i ∧ i ≤ l3 ∧ n = l3 - i ∧ St none_ h h80 [StoA b49 ms, LogA 81 83 p41 s'] := ⟨_, 0, rfl, by omega, rfl, k⟩
    refine ⟨fun n hh _ x => ∃ i : Nat, x = i ∧ i ≤ l3 ∧ n = l3 - i ∧ St none_ h hh [StoA b49 ms, LogA 81 83 p41 s'], hst, ?_⟩
    clear hst k
    rintro n hh _ _ x ⟨i, rfl, hi, rfl, k⟩
    have nxt : ∃ m, m < l2 - j ∧ ∃ (j' : Nat) (ms : List SmM) (s : LogS) (recs : List Bytes), IntKind.i64.wrap ((j : Int) + 1) = j' ∧ j' ≤ l2 ∧ m = l2 - j' ∧ Fits ms s recs ∧ s.big ≤ 536870912 + pgR ps j' ∧ ms.length ≤ j' + 1 ∧ j' ≤ 25 ∧ St none_ h hh [StoA b49 ms, LogA 81 83 p41 s] :=
      ⟨l2 - (j + 1), by omega, j + 1, ms, s', recs, by rw [wrap_id (by omega) (by omega)]; omega, hjl, rfl, fit, by omega, by omega, by omega, k⟩
    refine cond_split (fun hc => cond_split (fun hc6 => ?_) (fun _ => nxt)) (fun _ => nxt)
    clear nxt
    have hil : i < l3 := Int.ofNat_lt.1 (of_decide_eq_true hc)
    have hi6 : i < 6 := by
      have : (i : Int) < 6 := of_decide_eq_true hc6
      omega
    refine (hs3.ext k.ext).one hl3 (by omega) (by omega) fun ad x hx hcx => ⟨_, hcx, ?_⟩
    refine recov_st x (ho3 x (List.mem_of_getElem? hx)) k hT fit (by omega) (by omega) fun h92 k => ⟨_, rfl, cond_false rfl ?_⟩
    exact ⟨l3 - (i + 1), by omega, i + 1, by rw [wrap_id (by omega) (by omega)]; omega, hil, rfl, k⟩
end Go.Proofs.YtbaglaoefaoaoaaDoor.F
