/- The laws of the log: one step of a script, on both logs. Conditions: none. -/
import Derived.Test.YtbaglaoefaoaoaaDoorLF
namespace Go.Proofs.YtbaglaoefaoaoaaDoor.F
open Go Go.VC Go.Proofs
set_option linter.unusedSimpArgs false
set_option linter.unusedVariables false
set_option maxRecDepth 100000
attribute [local irreducible] CallsH RunsTo PureTo

variable {S F G : Nat → Prop} {h0 h h1 : Heap} {L R L' : List A} {a b la wa : Option Addr} {l c l2 c2 p q1 q2 cl cw : Nat} {bs cs : List UInt8} {bss css : List Bytes} {s : LogS}
/-- What one step of a script does to a log. -/
def stepS (s : LogS) (kind : Int) (r : Bytes) : LogS :=
  if kind = 1 then (if r.length ≤ 1048576 then addS s r else s) else if kind = 2 then (if r.length ≤ 1048576 then rollS s r else s) else if kind = 3 then syncS s else s
theorem stepS_ok (k : s.Ok) (kind : Int) (r : Bytes) : (stepS s kind r).Ok := by
  unfold stepS
  repeat' split
  all_goals first | exact addS_ok k r | exact rollS_ok k r | exact syncS_ok k | exact k
theorem stepS_big (s : LogS) (kind : Int) (r : Bytes) : (stepS s kind r).big ≤ s.big + r.length + 25 := by
  unfold stepS
  have := addS_big s r
  have := rollS_big s r
  have := syncS_big s
  repeat' split
  all_goals omega
theorem PlA.open {p : Nat} (k : St S h0 h (PlA p :: R)) : ∃ m : PlM, St S h0 h (A.blk p #[.slice m.sa m.sl m.sc, .slice m.ra m.rl m.rc] 28 :: BV m.ra m.rl m.rc m.rb :: A.vec 26 1 m.sa m.sl m.sc (m.xs.map sgV) :: A.all (m.xs.map BS) :: R) := by
  obtain ⟨m, w⟩ := St.opens k
  exact ⟨m, St.open w⟩
theorem PlA.close {p : Nat} {m : PlM} (k : St S h0 h (A.blk p #[.slice m.sa m.sl m.sc, .slice m.ra m.rl m.rc] 28 :: BV m.ra m.rl m.rc m.rb :: A.vec 26 1 m.sa m.sl m.sc (m.xs.map sgV) :: A.all (m.xs.map BS) :: R)) : St S h0 h (PlA p :: R) :=
  St.closes (f := fun m : PlM => A.all [A.blk p #[.slice m.sa m.sl m.sc, .slice m.ra m.rl m.rc] 28, BV m.ra m.rl m.rc m.rb, A.vec 26 1 m.sa m.sl m.sc (m.xs.map sgV), A.all (m.xs.map BS)]) (x := m) (St.close (L := [_, _, _, _]) k)
theorem plays_spec {kind on keep : Int} {r : Bytes} (k : Holds [PlA p, LogA 81 83 q1 s, LogA 101 107 q2 s] F h) (hT : Tab F h) (hr : Ro F h a (bytesV r)) (hl : r.length = l) (hlb : l ≤ 1099511627776) (hok : s.Ok) (hb : s.big ≤ 274877906944) (hk : keep < 9223372036854775808) :
    CallsH Tryd.prog 13 #[.pointer (some ⟨p, 0, none⟩), .pointer (some ⟨q1, 0, none⟩), .pointer (some ⟨q2, 0, none⟩), .agg #[.int .i64 kind, .int .i64 on, .slice a l c, .int .i64 keep]] h
      (fun v h' => v = .bool true ∧ St F h h' [PlA p, LogA 81 83 q1 (stepS s kind r), LogA 101 107 q2 (stepS s kind r)]) := by
  refine vf13 _ _ _ _ _ _ _ _ _ h _ ?_
  unfold F13
  have k := St.start k
  refine k.vnew fun b1 h1 k => VSome.mk ?_
  obtain ⟨m, k⟩ := PlA.open k.pull1
  refine ⟨_, _, _, k.rd (by rfl), ?_⟩
  refine k.pull1.cut (lo := 0) (hi := 0) (mx := m.rc) rfl rfl rfl (Nat.le_refl _) (Nat.zero_le _) (Nat.zero_le _) (Nat.le_refl _) fun a5 k => ?_
  have k := k.re (y := BV a5 0 m.rc []) rfl
  refine ⟨_, _, _, k.rd (by rfl), ?_⟩
  refine CallsH.mono (roomy_spec (hr.mod k.ext).sl hl hlb) ?_
  rintro _ h8 ⟨a9, c9, rfl, k9⟩
  have k := k.add1 k9
  refine ⟨_, _, _, rfl, k.rd (by rfl), ?_⟩
  have hs9 := k.sl (a := a9)
  refine k.pull1.app T26 und26 (by simp) (Src.slice hs9 (by rw [bytesV_len, roomB_len, hl, Nat.mul_one])) (oneC_bytes _) (by omega) fun a12 c12 h11 k => ⟨_, _, _, rfl, VSome.mk ?_⟩
  simp only [Nat.zero_add] at k ⊢
  have k := k.re (y := BV a12 (l + 70) c12 (roomB r)) rfl
  have k := k.pull1.drop
  refine k.vst (by simp) fun h14 k => ?_
  refine VSome.mk ⟨_, _, _, k.rd (by rfl), ?_⟩
  have k : St F h h14 [A.blk p #[.slice m.sa m.sl m.sc, .slice a12 (l + 70) c12] 28, BV a12 (l + 70) c12 (roomB r), A.vec 26 1 m.sa m.sl m.sc (m.xs.map sgV), A.all (m.xs.map BS), A.blk b1 #[.int .i64 kind, .int .i64 on, .slice a l c, .int .i64 keep] 41, LogA 81 83 q1 s, LogA 101 107 q2 s] := k.pull1
  have hcut : ∀ {F' : Nat → Prop} {hh : Heap} {K : Option Addr → Nat → Nat → Prop}, Ro F' hh a12 (bytesV (roomB r)) → l + 70 ≤ c12 → (∀ a', Ro F' hh a' (bytesV r) → K a' l (l + 70)) → VSlice 1 a12 c12 0 (l : Int) ((l + 70 : Nat) : Int) K := fun ro hc q => by
    refine ro.cut (lo := 0) (hi := l) (mx := l + 70) (l := l + 70) (by rw [bytesV_len, roomB_len, hl]; omega) rfl rfl rfl (Nat.zero_le _) (by omega) (by omega) hc fun a' ro' _ => q a' ?_
    have e : ((bytesV (roomB r)).take (l * 1)).drop (0 * 1) = bytesV r := by
      rw [Nat.mul_one, Nat.mul_one, List.drop_zero, roomB, bytesV_app, ← hl, ← bytesV_len, List.take_left]
    rw [e] at ro'
    exact ro'
  refine ⟨fun h' ok => ok = true ∧ St F h h' [A.blk p #[.slice m.sa m.sl m.sc, .slice a12 (l + 70) c12] 28, BV a12 (l + 70) c12 (roomB r), A.vec 26 1 m.sa m.sl m.sc (m.xs.map sgV), A.all (m.xs.map BS), A.blk b1 #[.int .i64 kind, .int .i64 on, .slice a l c, .int .i64 keep] 41, LogA 81 83 q1 (stepS s kind r), LogA 101 107 q2 (stepS s kind r)],
    ⟨_, k.rd (by rfl), ?_⟩, ?_⟩
  · have hcc : l + 70 ≤ c12 := (k.vec (a := a12)).1.le
    refine cond_split (fun hc => ?_) (fun hc => cond_split (fun hc2 => ?_) (fun hc2 => cond_split (fun hc3 => ?_) (fun hc3 => ?_)))
    · have hk1 : kind = 1 := by simpa using hc
      refine ⟨_, _, _, k.rd (by rfl), ?_⟩
      obtain ⟨F', G, k1, kG, d, hF, back⟩ := k.pull5.frameA
      refine hcut (kG.ro d (a := a12)) hcc fun a' ro => ?_
      refine CallsH.mono (append_spec k1 (hT.at k.ext hF) ro hl hb hok (by omega)) ?_
      rintro _ h22 (⟨hgt, rfl, k2⟩ | ⟨hle, rfl, k2⟩)
      · have k := (back k2)
        refine ⟨_, rfl, _, _, _, k.rd (by rfl), ?_⟩
        obtain ⟨F', G, k1, kG, d, hF, back⟩ := k.pull6.frameA
        refine CallsH.mono (rappend_spec k1 (hr.at k.ext hF) hl hb hok (by omega)) ?_
        rintro _ h26 (⟨_, rfl, k2⟩ | ⟨hle, _⟩)
        · have k := (back k2)
          refine ⟨_, rfl, rfl, ?_⟩
          have e : stepS s kind r = s := by unfold stepS; rw [if_pos hk1, if_neg (by omega)]
          rw [e]
          exact k.sel 7 [2, 3, 4, 5, 6, 1, 0] rfl (by decide) (by rfl)
        · omega
      · have k := (back k2)
        refine ⟨_, rfl, _, _, _, k.rd (by rfl), ?_⟩
        obtain ⟨F', G, k1, kG, d, hF, back⟩ := k.pull6.frameA
        refine CallsH.mono (rappend_spec k1 (hr.at k.ext hF) hl hb hok (by omega)) ?_
        rintro _ h26 (⟨hgt, _⟩ | ⟨_, rfl, k2⟩)
        · omega
        · have k := (back k2)
          refine ⟨_, rfl, rfl, ?_⟩
          have e : stepS s kind r = addS s r := by unfold stepS; rw [if_pos hk1, if_pos (by omega)]
          rw [e]
          exact k.sel 7 [2, 3, 4, 5, 6, 1, 0] rfl (by decide) (by rfl)
    · have hk1 : kind ≠ 1 := by simpa using hc
      have hk2 : kind = 2 := by simpa using hc2
      refine ⟨_, _, _, k.rd (by rfl), ?_⟩
      obtain ⟨F', G, k1, kG, d, hF, back⟩ := k.pull5.frameA
      refine hcut (kG.ro d (a := a12)) hcc fun a' ro => ?_
      refine CallsH.mono (roll_spec k1 (hT.at k.ext hF) ro hl hb hok (by omega)) ?_
      rintro _ h22 (⟨hgt, rfl, k2⟩ | ⟨hle, rfl, k2⟩)
      · have k := (back k2)
        refine ⟨_, rfl, _, _, _, k.rd (by rfl), ?_⟩
        obtain ⟨F', G, k1, kG, d, hF, back⟩ := k.pull6.frameA
        refine CallsH.mono (rroll_spec k1 (hr.at k.ext hF) hl hb hok (by omega)) ?_
        rintro _ h26 (⟨_, rfl, k2⟩ | ⟨hle, _⟩)
        · have k := (back k2)
          refine ⟨_, rfl, rfl, ?_⟩
          have e : stepS s kind r = s := by unfold stepS; rw [if_neg hk1, if_pos hk2, if_neg (by omega)]
          rw [e]
          exact k.sel 7 [2, 3, 4, 5, 6, 1, 0] rfl (by decide) (by rfl)
        · omega
      · have k := (back k2)
        refine ⟨_, rfl, _, _, _, k.rd (by rfl), ?_⟩
        obtain ⟨F', G, k1, kG, d, hF, back⟩ := k.pull6.frameA
        refine CallsH.mono (rroll_spec k1 (hr.at k.ext hF) hl hb hok (by omega)) ?_
        rintro _ h26 (⟨hgt, _⟩ | ⟨_, rfl, k2⟩)
        · omega
        · have k := (back k2)
          refine ⟨_, rfl, rfl, ?_⟩
          have e : stepS s kind r = rollS s r := by unfold stepS; rw [if_neg hk1, if_pos hk2, if_pos (by omega)]
          rw [e]
          exact k.sel 7 [2, 3, 4, 5, 6, 1, 0] rfl (by decide) (by rfl)
    · have hk1 : kind ≠ 1 := by simpa using hc
      have hk2 : kind ≠ 2 := by simpa using hc2
      have hk3 : kind = 3 := by simpa using hc3
      obtain ⟨F', G, k1, kG, d, hF, back⟩ := k.pull5.frameA
      refine CallsH.mono (sync_spec k1 hb hok) ?_
      rintro _ h22 ⟨rfl, k2⟩
      have k := (back k2)
      refine ⟨rfl, ?_⟩
      obtain ⟨F', G, k1, kG, d, hF, back⟩ := k.pull6.frameA
      refine CallsH.mono (rsync_spec k1 hb hok) ?_
      rintro _ h26 ⟨rfl, k2⟩
      have k := (back k2)
      refine ⟨rfl, rfl, ?_⟩
      have e : stepS s kind r = syncS s := by unfold stepS; rw [if_neg hk1, if_neg hk2, if_pos hk3]
      rw [e]
      exact k.sel 7 [2, 3, 4, 5, 6, 1, 0] rfl (by decide) (by rfl)
    · have hk1 : kind ≠ 1 := by simpa using hc
      have hk2 : kind ≠ 2 := by simpa using hc2
      have hk3 : kind ≠ 3 := by simpa using hc3
      have e : stepS s kind r = s := by unfold stepS; rw [if_neg hk1, if_neg hk2, if_neg hk3]
      rw [e]
      refine cond_split (fun hc4 => ?_) (fun hc4 => cond_split (fun hc5 => ?_) (fun hc5 => ⟨rfl, k⟩))
      · refine ⟨_, k.rd (by rfl), ?_⟩
        refine CallsH.mono (crash_spec keep (k.log (p := q1)) hok.ws (by omega) hk) ?_
        rintro _ h43 ⟨a44, l44, c44, rfl, k4⟩
        have k := k.add1 k4
        refine ⟨_, _, _, rfl, k.vnew fun b45 h46 k => ?_⟩
        refine k.vst (by simp) fun h47 k => ⟨_, k.rd (by rfl), ?_⟩
        refine CallsH.mono (rcrash_spec keep (k.log (p := q2)) hok.ws (by omega) hk) ?_
        rintro _ h50 ⟨a51, l51, c51, rfl, k5⟩
        have k := k.add1 k5
        refine ⟨_, _, _, rfl, k.vnew fun b52 h53 k => ?_⟩
        refine k.vst (by simp) fun h54 k => ⟨_, _, _, k.rd (by rfl), _, _, _, k.rd (by rfl), ?_⟩
        have ht : tot (downS s.segs s.ws keep.toNat) ≤ tot s.segs + wtot s.ws := tot_steps s.ws (s.segs, keep.toNat)
        have hb' : tot s.segs + wtot s.ws ≤ 274877906944 := hb
        refine CallsH.mono (sameLists_spec (k.roL (a := a44)) (k.roL (a := a51)) (by omega)) ?_
        rintro _ _ ⟨rfl, rfl⟩
        exact ⟨_, rfl, by simp, k.dropL (L := [_, _, _, _])⟩
      · refine CallsH.mono (dirty_spec (k.log (p := q1)) (by omega)) ?_
        rintro _ h61 ⟨rfl, m61⟩
        have k := k.next m61
        refine ⟨_, rfl, CallsH.mono (rdirty_spec (k.log (p := q2)) (by omega)) ?_⟩
        rintro _ _ ⟨rfl, rfl⟩
        exact ⟨_, rfl, by simp, k⟩
  · clear k hcut
    rintro h66 _ ok ⟨rfl, k⟩
    refine ⟨_, _, _, k.rd (by rfl), ?_⟩
    refine CallsH.mono (roomy_spec (hr.mod k.ext).sl hl hlb) ?_
    rintro _ h71 ⟨a72, c72, rfl, k7⟩
    have k := k.add1 k7
    refine ⟨_, _, _, rfl, CallsH.mono (sameBytes_spec (k.sl (a := a12)) (by rw [roomB_len, hl]) (k.sl (a := a72)) (by rw [roomB_len, hl]) (by omega)) ?_⟩
    rintro _ h71 ⟨rfl, rfl⟩
    rw [decide_eq_true rfl]
    refine ⟨_, rfl, ?_⟩
    have k := k.drop
    have hst : ∃ n, ∃ (j : Nat) (xs : Bytes), (0 : Int) = j ∧ j ≤ l + 70 ∧ n = l + 70 - j ∧ St F h h71 [A.blk p #[.slice m.sa m.sl m.sc, .slice a12 (l + 70) c12] 28, BV a12 (l + 70) c12 xs, A.vec 26 1 m.sa m.sl m.sc (m.xs.map sgV), A.all (m.xs.map BS), A.blk b1 #[.int .i64 kind, .int .i64 on, .slice a l c, .int .i64 keep] 41, LogA 81 83 q1 (stepS s kind r), LogA 101 107 q2 (stepS s kind r)] :=
      ⟨_, 0, _, rfl, by omega, rfl, k⟩
    refine ⟨fun n hh i => ∃ (j : Nat) (xs : Bytes), i = j ∧ j ≤ l + 70 ∧ n = l + 70 - j ∧ St F h hh [A.blk p #[.slice m.sa m.sl m.sc, .slice a12 (l + 70) c12] 28, BV a12 (l + 70) c12 xs, A.vec 26 1 m.sa m.sl m.sc (m.xs.map sgV), A.all (m.xs.map BS), A.blk b1 #[.int .i64 kind, .int .i64 on, .slice a l c, .int .i64 keep] 41, LogA 81 83 q1 (stepS s kind r), LogA 101 107 q2 (stepS s kind r)], hst, ?_⟩
    clear hst k
    rintro n hh _ i ⟨j, xs, rfl, hj, rfl, k⟩
    refine cond_split (fun hc => ?_) (fun hc => ?_)
    · have hjl : j < l + 70 := Int.ofNat_lt.1 (of_decide_eq_true hc)
      have k := k.pull1
      have hx : xs.length = l + 70 ∧ l + 70 ≤ c12 ∧ c12 < 9223372036854775808 := BS.len (x := ⟨a12, l + 70, c12, xs⟩) k
      obtain ⟨g, o, rfl⟩ := k.vaddr (by omega)
      refine vidx_at hjl ?_
      refine BS.put (x := ⟨some ⟨g, o, none⟩, l + 70, c12, xs⟩) (b := 238) k rfl hjl fun h' k => ?_
      exact ⟨_, by omega, j + 1, xs.set j 238, wrap_nat hjl (by omega), hjl, rfl, k.pull1⟩
    · refine cond_true rfl ⟨rfl, ?_⟩
      have k : St F h hh (PlA p :: [A.blk b1 #[.int .i64 kind, .int .i64 on, .slice a l c, .int .i64 keep] 41, LogA 81 83 q1 (stepS s kind r), LogA 101 107 q2 (stepS s kind r)]) :=
        PlA.close (m := { m with ra := a12, rl := l + 70, rc := c12, rb := xs }) k
      exact k.pull1.drop
end Go.Proofs.YtbaglaoefaoaoaaDoor.F
