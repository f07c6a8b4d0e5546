/- One call of the law AggAll: it answers true. Conditions: none. -/
import Derived.Test.YtcncagllbkohfaaC4
namespace Go.Proofs.Ytcncagllbkohfaa.F
open Go Go.VC Go.Proofs
set_option linter.unusedSimpArgs false
set_option linter.unusedVariables false
set_option maxRecDepth 100000
attribute [local irreducible] CallsH RunsTo PureTo IntKind.wrap

/-- Both sliding rows, and own blocks beside them. -/
structure Pair (TR : Nat → Prop) (h hh : Heap) (L : List (Nat × Array Value × Nat)) (b1 b2 : Nat) (sz : Int) (ha hb : List Int) (S1 S2 : Nat → Prop) : Prop where
  own : Own TR h hh L
  sl : SL hh b1 sz ha S1
  sr : SR hh b2 sz hb S2
  d12 : ∀ z, S1 z → ¬ S2 z
  s1 : ∀ z, S1 z → TR z ∨ h.size ≤ z
  s2 : ∀ z, S2 z → TR z ∨ h.size ≤ z
  dis : ∀ x ∈ L, ¬ S1 x.1 ∧ ¬ S2 x.1
def PairE (TR : Nat → Prop) (h hh : Heap) (L : List (Nat × Array Value × Nat)) (b1 b2 : Nat) (sz : Int) (ha hb : List Int) : Prop := ∃ S1 S2, Pair TR h hh L b1 b2 sz ha hb S1 S2
variable {TR : Nat → Prop} {h hh : Heap} {L : List (Nat × Array Value × Nat)} {b1 b2 : Nat} {sz : Int} {ha hb : List Int}
theorem PairE.own (k : PairE TR h hh L b1 b2 sz ha hb) : Own TR h hh L := by obtain ⟨_, _, k⟩ := k; exact k.own
theorem PairE.next {h' : Heap} (k : PairE TR h hh L b1 b2 sz ha hb) (m : Ext hh h') : PairE TR h h' L b1 b2 sz ha hb := by
  obtain ⟨S1, S2, k⟩ := k
  exact ⟨S1, S2, k.own.next m, k.sl.ext m, k.sr.mod m fun _ _ => id, k.d12, k.s1, k.s2, k.dis⟩
theorem PairE.left1 {h' : Heap} {S1 S2 : Nat → Prop} {ha' : List Int} (k : Pair TR h hh L b1 b2 sz ha hb S1 S2) (m : SLeft hh b1 sz ha' S1 h') : PairE TR h h' L b1 b2 sz ha' hb := by
  obtain ⟨m1, m2⟩ := m
  have hl := k.sr.lt
  refine ⟨_, S2, k.own.other m2 k.s1 fun x hx => (k.dis x hx).1, m1, k.sr.mod m2 fun z hz e => k.d12 z e hz, ?_, ?_, k.s2, fun x hx => ⟨?_, (k.dis x hx).2⟩⟩
  · rintro z (hz | hz) h2
    · exact k.d12 z hz h2
    · have := hl z h2; omega
  · rintro z (hz | hz)
    · exact k.s1 z hz
    · have := k.own.ext.size; right; omega
  · rintro (hz | hz)
    · exact (k.dis x hx).1 hz
    · have := (k.own.blk x hx).lt; omega
theorem PairE.left2 {h' : Heap} {S1 S2 : Nat → Prop} {hb' : List Int} (k : Pair TR h hh L b1 b2 sz ha hb S1 S2) (m : SRL hh b2 sz hb' S2 h') : PairE TR h h' L b1 b2 sz ha hb' := by
  obtain ⟨m1, m2⟩ := m
  have hl := k.sl.lt
  refine ⟨S1, _, k.own.other m2 k.s2 fun x hx => (k.dis x hx).2, k.sl.mod m2 fun z hz e => k.d12 z hz e, m1, ?_, k.s1, ?_, fun x hx => ⟨(k.dis x hx).1, ?_⟩⟩
  · rintro z h1 (hz | hz)
    · exact k.d12 z h1 hz
    · have := hl z h1; omega
  · rintro z (hz | hz)
    · exact k.s2 z hz
    · have := k.own.ext.size; right; omega
  · rintro (hz | hz)
    · exact (k.dis x hx).2 hz
    · have := (k.own.blk x hx).lt; omega
theorem pr_push1 (k : PairE TR h hh L b1 b2 sz ha hb) (n : Int) : CallsH Try.prog 15 #[.pointer (some ⟨b1, 0, none⟩), .int .i64 n] hh fun v h' => v = .tuple #[] ∧ PairE TR h h' L b1 b2 sz (pushH sz ha n) hb := by
  obtain ⟨S1, S2, k⟩ := k
  exact CallsH.mono (sl_push k.sl n) fun _ _ ⟨e, m⟩ => ⟨e, PairE.left1 k m⟩
theorem pr_push2 (k : PairE TR h hh L b1 b2 sz ha hb) (n : Int) : CallsH Try.prog 24 #[.pointer (some ⟨b2, 0, none⟩), .int .i64 n] hh fun v h' => v = .tuple #[] ∧ PairE TR h h' L b1 b2 sz ha (pushH sz hb n) := by
  obtain ⟨S1, S2, k⟩ := k
  exact CallsH.mono (rpush_spec k.sr n) fun _ _ ⟨e, m⟩ => ⟨e, PairE.left2 k m⟩
theorem pr_pop1 (k : PairE TR h hh L b1 b2 sz ha hb) : CallsH Try.prog 16 #[.pointer (some ⟨b1, 0, none⟩)] hh fun v h' => v = .int .i64 (if ha = [] then 3 else 0) ∧ PairE TR h h' L b1 b2 sz ha.tail hb := by
  obtain ⟨S1, S2, k⟩ := k
  exact CallsH.mono (sl_pop k.sl) fun _ _ ⟨e, m⟩ => ⟨e, PairE.left1 k m⟩
theorem pr_pop2 (k : PairE TR h hh L b1 b2 sz ha hb) : CallsH Try.prog 25 #[.pointer (some ⟨b2, 0, none⟩)] hh fun v h' => v = .int .i64 (if hb = [] then 3 else 0) ∧ PairE TR h h' L b1 b2 sz ha hb.tail := by
  obtain ⟨S1, S2, k⟩ := k
  exact CallsH.mono (rpop_spec k.sr) fun _ _ ⟨e, m⟩ => ⟨e, PairE.left2 k m⟩
theorem pr_acc1 (k : PairE TR h hh L b1 b2 sz ha hb) : CallsH Try.prog 17 #[.pointer (some ⟨b1, 0, none⟩)] hh fun v h' => v = (plainA ha).v ∧ PairE TR h h' L b1 b2 sz ha hb := by
  obtain ⟨S1, S2, k0⟩ := id k
  exact CallsH.mono (sl_acc k0.sl) fun _ _ ⟨e, m⟩ => ⟨e, k.next m⟩
theorem pr_acc2 (k : PairE TR h hh L b1 b2 sz ha hb) : CallsH Try.prog 26 #[.pointer (some ⟨b2, 0, none⟩)] hh fun v h' => v = (plainA hb).v ∧ PairE TR h h' L b1 b2 sz ha hb := by
  obtain ⟨S1, S2, k0⟩ := id k
  exact CallsH.mono (racc_spec k0.sr) fun _ _ ⟨e, m⟩ => ⟨e, k.next m⟩

/-- What a call of the law leaves: the hand, the row, all else as it was. -/
def After (TH TR : Nat → Prop) (h : Heap) (hb : Nat) (p q : Option Addr) (sz : Int) (h' : Heap) : Prop :=
  ∃ vs a c held TH' TR', HD h' hb vs TH' a c ∧ RS h' p q sz held TR' ∧ (∀ z, TH' z → ¬ TR' z) ∧ (∀ z, TH' z → TH z ∨ h.size ≤ z) ∧ (∀ z, TR' z → TR z ∨ h.size ≤ z) ∧ Mod (fun z => TH z ∨ TR z) h h'
structure HP (TH TR : Nat → Prop) (h hh : Heap) (L : List (Nat × Array Value × Nat)) (hb : Nat) (vs : List Value) (T : Nat → Prop) (a : Option Addr) (c : Nat) (p q : Option Addr) (sz : Int) (held : List Int) : Prop where
  own : Own (fun z => TH z ∨ TR z) h hh L
  hd : HD hh hb vs T a c
  rs : RS hh p q sz held TR
  sub : ∀ z, T z → TH z ∨ h.size ≤ z
  dT : ∀ z, T z → ¬ TR z
  dis : ∀ x ∈ L, ¬ T x.1 ∧ ¬ TR x.1
section
variable {TH T : Nat → Prop} {vs : List Value} {a p q : Option Addr} {c hb : Nat} {held : List Int}
theorem HP.next {h' : Heap} (k : HP TH TR h hh L hb vs T a c p q sz held) (m : Ext hh h') : HP TH TR h h' L hb vs T a c p q sz held :=
  ⟨k.own.next m, k.hd.mod m fun _ _ => id, k.rs.mod m fun _ _ => id, k.sub, k.dT, k.dis⟩
theorem HP.call {h' : Heap} {vs' : List Value} {a' : Option Addr} {c' : Nat} (k : HP TH TR h hh L hb vs T a c p q sz held) (hd : HD h' hb vs' (grow T hh h') a' c') (m : Mod T hh h') : HP TH TR h h' L hb vs' (grow T hh h') a' c' p q sz held := by
  have e := k.own.ext.size
  refine ⟨k.own.other m (fun z hz => (k.sub z hz).imp .inl id) fun x hx => (k.dis x hx).1, hd, k.rs.mod m fun z hz e => k.dT z e hz, ?_, ?_, fun x hx => ⟨?_, (k.dis x hx).2⟩⟩
  · rintro z (hz | hz)
    · exact k.sub z hz
    · right; omega
  · rintro z (hz | hz) h2
    · exact k.dT z hz h2
    · have := k.rs.1 z h2; omega
  · rintro (hz | hz)
    · exact (k.dis x hx).1 hz
    · have := (k.own.blk x hx).lt; omega
theorem HP.same {h' : Heap} {vs' : List Value} {a' : Option Addr} {c' : Nat} (k : HP TH TR h hh L hb vs T a c p q sz held) (hd : HD h' hb vs' T a' c') (m : Mod T hh h') : HP TH TR h h' L hb vs' T a' c' p q sz held :=
  ⟨k.own.other m (fun z hz => (k.sub z hz).imp .inl id) fun x hx => (k.dis x hx).1, hd, k.rs.mod m fun z hz e => k.dT z e hz, k.sub, k.dT, k.dis⟩
theorem HP.vnew {cs : Array Value} {t : Nat} {K : Nat → Heap → Prop} (k : HP TH TR h hh L hb vs T a c p q sz held) (r : ∀ b h1, HP TH TR h h1 ((b, cs, t) :: L) hb vs T a c p q sz held → K b h1) : VNew hh (.cells cs t) K :=
  VNew.mk fun b h1 hb hB m _ => r b h1 ⟨k.own.alloc hb hB m, k.hd.mod m fun _ _ => id, k.rs.mod m fun _ _ => id, k.sub, k.dT, fun x hx => by
    rcases List.mem_cons.1 hx with rfl | hx
    · subst hb
      exact ⟨fun e => Nat.lt_irrefl _ (k.hd.lt _ e), fun e => Nat.lt_irrefl _ (k.rs.1 _ e)⟩
    · exact k.dis x hx⟩
theorem HP.store (k : HP TH TR h hh L hb vs T a c p q sz held) (n : Nat) {b t : Nat} {cs : Array Value} {ws : List Value} {K : Heap → Prop} (hn : L[n]? = some (b, cs, t)) (hl : ws.length = cs.size) (hv : ws.all oneC = true)
    (r : ∀ h1, HP TH TR h h1 (L.set n (b, ws.toArray, t)) hb vs T a c p q sz held → K h1) : storeL ⟨b, 0, none⟩ 0 ws hh K :=
  storeL.all (k.own.get n hn) hl (List.all_eq_true.1 hv) fun h1 hB m _ => by
    have hd := k.dis _ (List.mem_of_getElem? hn)
    refine r h1 ⟨k.own.change n hn hB m, k.hd.mod m fun z hz e => hd.1 (e ▸ hz), k.rs.mod m fun z hz e => hd.2 (e ▸ hz), k.sub, k.dT, fun x hx => ?_⟩
    rcases List.mem_or_eq_of_mem_set hx with hx | rfl
    · exact k.dis x hx
    · exact hd
theorem HP.after (k : HP TH TR h hh L hb vs T a c p q sz held) : After TH TR h hb p q sz hh :=
  ⟨vs, a, c, held, T, TR, k.hd, k.rs, k.dT, k.sub, fun _ => .inl, k.own.ext⟩
end
theorem PairE.after {TH : Nat → Prop} {vs : List Value} {a : Option Addr} {c bb : Nat} {h' : Heap} {held : List Int} (k : PairE TR h h' L b1 b2 sz held held) (kH : HD h bb vs TH a c) (hd : ∀ z, TH z → ¬ TR z) : After TH TR h bb (some ⟨b1, 0, none⟩) (some ⟨b2, 0, none⟩) sz h' := by
  obtain ⟨S1, S2, k⟩ := k
  refine ⟨vs, a, c, held, TH, fun z => S1 z ∨ S2 z, kH.mod k.own.ext hd, ⟨?_, .inr ⟨b1, b2, S1, S2, rfl, rfl, k.sl, k.sr, k.d12, fun _ => .inl, fun _ => .inr⟩⟩, ?_, fun _ => .inl, ?_, k.own.ext.mono fun z hz => .inl (.inr hz)⟩
  · rintro z (hz | hz)
    · exact k.sl.lt z hz
    · exact k.sr.lt z hz
  · rintro z hz (h1 | h1)
    · rcases k.s1 z h1 with h2 | h2
      · exact hd z hz h2
      · have := kH.lt z hz; omega
    · rcases k.s2 z h1 with h2 | h2
      · exact hd z hz h2
      · have := kH.lt z hz; omega
  · rintro z (hz | hz)
    · exact k.s1 z hz
    · exact k.s2 z hz
end Go.Proofs.Ytcncagllbkohfaa.F
