/- The laws of the log: LogOpens answers true. Conditions: none. -/
import Derived.Test.YtbaglaoefaoaoaaDoorLE
import Derived.Test.YtbaglaoefaoaoaaDoorP4
namespace Go.Proofs.YtbaglaoefaoaoaaDoor.F
open Go Go.VC Go.Proofs
set_option linter.unusedSimpArgs false
set_option linter.unusedVariables false
set_option maxRecDepth 100000
attribute [local irreducible] CallsH RunsTo PureTo

variable {S F G : Nat → Prop} {h0 h h1 : Heap} {L R L' : List A} {a b la wa : Option Addr} {l c l2 c2 p cl cw : Nat} {bs cs : List UInt8} {bss css : List Bytes}
theorem seg0_big : tot [seg0] ≤ 137438953472 := by
  show seg0.length + 1 + 0 ≤ _
  rw [seg0_len]; omega
theorem begun_spec (hT : Tab none_ h) : CallsH Tryd.prog 8 #[] h (fun v h' => v = .bool true ∧ Ext h h') := by
  refine vf8 h _ ?_
  unfold F8
  have k := St.fresh h
  refine CallsH.mono (open_spec hT (.nil _ _) (Nat.zero_le _)) ?_
  rintro _ h1 (⟨hS, _⟩ | ⟨st, p, ra, rl, rc, hS, rfl, k1⟩)
  · rw [open_none] at hS; cases hS
  rw [open_none] at hS
  have hS := Option.some.inj hS
  subst hS
  have k := k.add2 k1
  have hrl := (LV.len k.pull1).1
  have hr0 : rl = 0 := hrl.symm
  subst hr0
  refine ⟨_, _, _, _, _, rfl, cond_false rfl (cond_false rfl (cond_false rfl (k.vnew fun b h2 k => ?_)))⟩
  refine k.marked und26 und5 fun h3 k => ⟨_, _, _, rfl, ?_⟩
  obtain ⟨F, G, k2, kG, d, hF, back⟩ := k.pull1.frameA
  have hro : Ro F h3 (some ⟨b, 0, none⟩) (bytesV ab) := kG.roB d (b := b)
  have ok0 : (open0 []).s.Ok := (openS_ok open_none).1
  refine CallsH.mono (append_spec (r := ab) k2 (hT.at k.ext hF) hro rfl (Nat.zero_le _) ok0 (by omega)) ?_
  rintro _ h4 (⟨hgt, _⟩ | ⟨_, rfl, k3⟩)
  · omega
  have k := back k3
  have ok1 := addS_ok ok0 ab
  have hbig : (addS (open0 []).s ab).big ≤ 549755813888 := by
    have := addS_big (open0 []).s ab
    have e1 : (open0 []).s.big = 0 := rfl
    have e2 : ab.length = 2 := rfl
    omega
  refine ⟨_, rfl, CallsH.mono (crash_spec 99 k.log ok1.ws hbig (by omega)) ?_⟩
  rintro _ h5 ⟨a5, l5, c5, rfl, k5⟩
  rw [show (99 : Int).toNat = 99 from rfl, down_ab] at k5
  have k := k.add1 k5
  have hl5 := (LV.len k).1
  have hl5' : l5 = 1 := hl5.symm
  subst hl5'
  refine ⟨_, _, _, rfl, k.vnew fun b2 h6 k => ?_⟩
  refine k.vst (by simp) fun h7 k => ?_
  refine CallsH.mono (dirty_spec (k.log (p := p)) hbig) ?_
  rintro _ h8 ⟨rfl, m8⟩
  have k := k.next m8
  rw [dirty_ab]
  refine ⟨_, rfl, _, _, _, k.rd (by rfl), ?_⟩
  obtain ⟨st2, hS2, hrecs⟩ := open_ab
  refine CallsH.mono (open_spec (hT.in k) (k.roL (a := a5)) (by have := seg0_big; omega)) ?_
  rintro _ h9 (⟨hS3, _⟩ | ⟨st3, p3, ra3, rl3, rc3, hS3, rfl, k9⟩)
  · rw [hS2] at hS3; cases hS3
  have e3 : st2 = st3 := by rw [hS2] at hS3; exact Option.some.inj hS3
  subst e3
  rw [hrecs] at k9
  have k := k.add2 k9
  have hl9 := (LV.len k.pull1).1
  have hl9' : rl3 = 1 := hl9.symm
  subst hl9'
  refine ⟨_, _, _, _, _, rfl, cond_false rfl (cond_false rfl ⟨_, _, _, k.rd (by rfl), cond_false rfl ⟨_, _, _, k.rd (by rfl), ?_⟩⟩)⟩
  refine (k.roL (a := a5)).one (by omega) (by omega) fun ad x hx hcell r1 r2 r3 => ⟨_, _, _, hcell, ?_⟩
  have hxb : x.bs = seg0 := (Option.some.inj hx).symm
  have hxl : x.l = 26 := by rw [← r2, hxb]; rfl
  rw [hxl]
  refine cond_false rfl (cond_false rfl (cond_false rfl ?_))
  refine (k.roL (a := ra3)).one (by omega) (by omega) fun ad2 y hy hcell2 s1 s2 s3 => ⟨_, _, _, hcell2, ?_⟩
  have hyb : y.bs = ab := (Option.some.inj hy).symm
  refine bytes_text und26 und5 und9 s1.sl s2 ⟨_, rfl, ?_⟩
  have em : strEq ⟨y.bs.toArray⟩ (ByteArray.mk #[97, 98]) = true := by
    have := eqStr y.bs ab
    rw [hyb] at this ⊢
    rw [decide_eq_true rfl] at this
    exact this
  rw [em]
  have hat : ∀ (i : Nat) (v : UInt8), seg0[i]? = some v → i < 26 → ∀ K : Addr → Prop, (∀ ad, cellH h9 ad = some (byteV v) → K ad) → VIdx x.a x.l (i : Int) 1 K := fun i v hv hi K q =>
    r1.sl.one r2 (by omega) (by omega) fun ad z hz hc => by
      rw [Int.toNat_natCast, hxb, hv] at hz
      cases hz
      exact q ad hc
  refine cond_true rfl ⟨_, _, _, k.rd (by rfl), ?_⟩
  refine (k.roL (a := a5)).one (by omega) (by omega) fun ad3 x3 hx3 hcell3 t1 t2 t3 => ⟨_, _, _, hcell3, ?_⟩
  have hx3b : x3.bs = seg0 := (Option.some.inj hx3).symm
  refine t1.sl.one t2 (by omega) (by rw [← t2, hx3b]; decide) fun ad4 z hz hc4 => ⟨_, hc4, ?_⟩
  rw [hx3b] at hz
  have hz := (seg0_8.symm.trans hz)
  cases hz
  refine cond_true rfl ⟨_, _, _, k.rd (by rfl), ?_⟩
  refine (k.roL (a := a5)).one (by omega) (by omega) fun ad5 x5 hx5 hcell5 u1 u2 u3 => ⟨_, _, _, hcell5, ?_⟩
  have hx5b : x5.bs = seg0 := (Option.some.inj hx5).symm
  refine u1.sl.one u2 (by omega) (by rw [← u2, hx5b]; decide) fun ad6 z hz hc6 => ⟨_, hc6, ?_⟩
  rw [hx5b] at hz
  have hz := (seg0_20.symm.trans hz)
  cases hz
  exact ⟨rfl, k.ext⟩

structure DkM where
  a : Option Addr
  l : Nat
  c : Nat
  bss : List Bytes
def dkV (d : DkM) : Value := .slice d.a d.l d.c
theorem PlA.mk {p : Nat} {ra : Option Addr} {rl rc : Nat} {rb : Bytes} (k : St S h0 h (A.blk p #[.slice none 0 0, .slice ra rl rc] 28 :: BV ra rl rc rb :: R)) : St S h0 h (PlA p :: R) := by
  have k := ((k.all0).vnil 26 (sz := 1) (by omega)).pull2.pull3
  exact St.closes (f := fun m : PlM => A.all [A.blk p #[.slice m.sa m.sl m.sc, .slice m.ra m.rl m.rc] 28, BV m.ra m.rl m.rc m.rb, A.vec 26 1 m.sa m.sl m.sc (m.xs.map sgV), A.all (m.xs.map BS)]) (x := ⟨none, 0, 0, ra, rl, rc, rb, []⟩) (St.close (L := [_, _, _, _]) k.pull1)
theorem logOpens_spec {ds : List DkM} (hT : Tab none_ h) (hs : Sl h a (ds.map dkV)) (hl : ds.length = l) (hd : ∀ d ∈ ds, RoL none_ h d.a d.l d.bss ∧ tot d.bss ≤ 137438953472) (hlb : l < 9223372036854775807) :
    CallsH Tryd.prog 3 #[.slice a l c] h (fun v h' => v = .bool true ∧ Ext h h') := by
  refine vf3 _ _ _ h _ ?_
  unfold F3
  have k := St.fresh h
  refine CallsH.mono (begun_spec hT) ?_
  rintro _ h1 ⟨rfl, m1⟩
  have k := k.next m1
  refine ⟨_, rfl, cond_false rfl (k.vnew fun b4 h2 k => ?_)⟩
  have k := PlA.mk ((k.vnil 5 (sz := 1) (by omega)).pull1.re rfl) (rb := [])
  refine ⟨fun n hh _ i => ∃ j : Nat, i = j ∧ j ≤ l ∧ n = l - j ∧ St none_ h hh [PlA b4], ⟨_, 0, rfl, by omega, rfl, k⟩, ?_⟩
  clear k
  rintro n hh _ _ i ⟨j, rfl, hj, rfl, k⟩
  refine cond_split (fun hc => ?_) (fun hc => ⟨rfl, k.ext⟩)
  have hjl : j < l := Int.ofNat_lt.1 (of_decide_eq_true hc)
  obtain ⟨d, hdj⟩ : ∃ d, ds[j]? = some d := ⟨_, List.getElem?_eq_getElem (by omega)⟩
  obtain ⟨d1, d2⟩ := hd d (List.mem_of_getElem? hdj)
  refine ⟨fun h' _ _ _ _ => St none_ h h' [PlA b4], ?_, fun h' _ _ _ _ _ k => ⟨_, by omega, j + 1, wrap_nat hjl (by omega), hjl, rfl, k⟩⟩
  have key : ∀ {hh : Heap} {K : Addr → Prop}, Ext h hh → (∀ ad, cellH hh ad = some (dkV d) → K ad) → VIdx a l (j : Int) 1 K := fun m q =>
    (hs.ext m).one hl (by omega) (by omega) fun ad x hx hcell => by
      rw [Int.toNat_natCast, hdj] at hx
      cases hx
      exact q ad hcell
  refine key k.ext fun ad hc1 => ⟨_, _, _, hc1, ?_⟩
  obtain ⟨F, G, k1, kG, _, hF, back⟩ := St.frame (L := [PlA b4]) (R := []) k
  refine CallsH.mono (opened_spec k1 (hT.at k.ext hF) (d1.at k.ext hF) d2) ?_
  rintro _ h3 (⟨hS, rfl, k3⟩ | ⟨st, q1, q2, hS, rfl, k3⟩)
  · exact ⟨_, _, _, rfl, cond_false rfl (cond_true rfl (back k3))⟩
  · have k : St none_ h h3 [PlA b4, LogA 81 83 q1 st.s, LogA 101 107 q2 st.s] := back k3
    obtain ⟨ok, e1, e2, ht, hf⟩ := openS_ok hS
    have hbig : st.s.big ≤ 549755813888 := by
      unfold LogS.big; rw [e1, e2]
      show tot d.bss + 0 ≤ _
      omega
    refine ⟨_, _, _, rfl, cond_false rfl (cond_false rfl (CallsH.mono (crash_spec 1073741824 (k.log (p := q1)) ok.ws hbig (by omega)) ?_))⟩
    rintro _ h4 ⟨a4, l4, c4, rfl, k4⟩
    have ed : downS st.s.segs st.s.ws (1073741824 : Int).toNat = d.bss := by rw [e1, e2]; rfl
    rw [ed] at k4
    have k := k.add1 k4
    refine ⟨_, _, _, rfl, k.vnew fun b5 h5 k => ?_⟩
    refine k.vst (by simp) fun h6 k => ?_
    refine CallsH.mono (dirty_spec (k.log (p := q1)) hbig) ?_
    rintro _ h7 ⟨rfl, m7⟩
    have k := k.next m7
    have ez : dirtyS st.s.ws = 0 := by rw [e2]; rfl
    rw [ez]
    refine ⟨_, rfl, cond_false rfl ⟨_, _, _, k.rd (by rfl), key k.ext fun ad2 hc2 => ⟨_, _, _, hc2, ?_⟩⟩⟩
    refine CallsH.mono (sameLists_spec (k.roL (a := a4)) (d1.in k) (by omega)) ?_
    rintro _ _ ⟨rfl, rfl⟩
    exact ⟨_, rfl, cond_false (by simp) k.pull2.only⟩
end Go.Proofs.YtbaglaoefaoaoaaDoor.F
