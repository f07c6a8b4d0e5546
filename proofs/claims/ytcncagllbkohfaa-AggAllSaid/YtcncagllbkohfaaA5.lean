/- Package agg: the sliding row: what it holds in memory; its stacks written. Conditions: none. -/
import Derived.Test.YtcncagllbkohfaaA4
namespace Go.Proofs.Ytcncagllbkohfaa.F
open Go Go.VC Go.Proofs
set_option linter.unusedSimpArgs false
set_option linter.unusedVariables false
set_option maxRecDepth 100000
attribute [local irreducible] CallsH RunsTo

/-- S, and the blocks that have come. -/
def grow (S : Nat → Prop) (h h' : Heap) : Nat → Prop := fun z => S z ∨ (h.size ≤ z ∧ z < h'.size)
structure Sld (h : Heap) (b : Nat) (sz : Int) (x y : List Ent) (S : Nat → Prop) (a1 : Option Addr) (l1 c1 : Nat) (a2 : Option Addr) (l2 c2 : Nat) : Prop where
  s1 : Stk h b #[.int .i64 sz, .slice a1 l1 c1, .slice a2 l2 c2] 67 1 a1 l1 c1 x
  s2 : Stk h b #[.int .i64 sz, .slice a1 l1 c1, .slice a2 l2 c2] 67 2 a2 l2 c2 y
  ne : ∀ z, ob a1 = some z → ob a2 ≠ some z
  in0 : S b
  in1 : ∀ z, ob a1 = some z → S z
  in2 : ∀ z, ob a2 = some z → S z
  lt : ∀ z, S z → z < h.size
def SldE (h : Heap) (b : Nat) (sz : Int) (x y : List Ent) (S : Nat → Prop) : Prop := ∃ a1 l1 c1 a2 l2 c2, Sld h b sz x y S a1 l1 c1 a2 l2 c2
theorem SldE.mod {S T : Nat → Prop} {h h' : Heap} {b : Nat} {sz : Int} {x y : List Ent} (k : SldE h b sz x y S) (m : Mod T h h') (hd : ∀ z, S z → ¬ T z) : SldE h' b sz x y S := by
  obtain ⟨a1, l1, c1, a2, l2, c2, k⟩ := k
  exact ⟨a1, l1, c1, a2, l2, c2, k.s1.mod m (hd _ k.in0) fun z hz => hd z (k.in1 z hz), k.s2.mod m (hd _ k.in0) fun z hz => hd z (k.in2 z hz), k.ne, k.in0, k.in1, k.in2, fun z hz => Nat.lt_of_lt_of_le (k.lt z hz) m.size⟩
theorem SldE.ext {S : Nat → Prop} {h h' : Heap} {b : Nat} {sz : Int} {x y : List Ent} (k : SldE h b sz x y S) (m : Ext h h') : SldE h' b sz x y S := k.mod m fun _ _ => id
theorem Sld.write1 {S : Nat → Prop} {h h' : Heap} {b : Nat} {sz : Int} {x x' y : List Ent} {a1 a2 : Option Addr} {l1 c1 l2 c2 : Nat} (k : Sld h b sz x y S a1 l1 c1 a2 l2 c2)
    (k' : Left1 h b #[.int .i64 sz, .slice a1 l1 c1, .slice a2 l2 c2] 67 1 a1 x' h') : SldE h' b sz x' y (grow S h h') ∧ Mod S h h' := by
  obtain ⟨a', l', c', hs, hm, hf⟩ := k'
  have m : Mod S h h' := hm.mono fun z hz => by
    rcases hz with rfl | hz
    · exact .inl k.in0
    · exact .inl (k.in1 z hz)
  refine ⟨⟨a', l', c', a2, l2, c2, hs, ⟨hs.blk, rfl, k.s2.vec.mod hm fun z hz e => ?_, k.s2.apart, fun z hz => Nat.lt_of_lt_of_le (k.s2.lt z hz) hm.size⟩, ?_, .inl k.in0, ?_, fun z hz => .inl (k.in2 z hz), ?_⟩, m⟩
  · rcases e with rfl | e
    · exact k.s2.apart hz
    · exact k.ne z e hz
  · intro z hz hz2
    rcases hf z hz with h1 | h1
    · exact k.ne z h1 hz2
    · have := k.s2.lt z hz2; omega
  · intro z hz
    rcases hf z hz with h1 | h1
    · exact .inl (k.in1 z h1)
    · exact .inr ⟨h1, hs.lt z hz⟩
  · rintro z (hz | hz)
    · exact Nat.lt_of_lt_of_le (k.lt z hz) m.size
    · exact hz.2
theorem Sld.write2 {S : Nat → Prop} {h h' : Heap} {b : Nat} {sz : Int} {x y y' : List Ent} {a1 a2 : Option Addr} {l1 c1 l2 c2 : Nat} (k : Sld h b sz x y S a1 l1 c1 a2 l2 c2)
    (k' : Left1 h b #[.int .i64 sz, .slice a1 l1 c1, .slice a2 l2 c2] 67 2 a2 y' h') : SldE h' b sz x y' (grow S h h') ∧ Mod S h h' := by
  obtain ⟨a', l', c', hs, hm, hf⟩ := k'
  have m : Mod S h h' := hm.mono fun z hz => by
    rcases hz with rfl | hz
    · exact .inl k.in0
    · exact .inl (k.in2 z hz)
  refine ⟨⟨a1, l1, c1, a', l', c', ⟨hs.blk, rfl, k.s1.vec.mod hm fun z hz e => ?_, k.s1.apart, fun z hz => Nat.lt_of_lt_of_le (k.s1.lt z hz) hm.size⟩, hs, ?_, .inl k.in0, fun z hz => .inl (k.in1 z hz), ?_, ?_⟩, m⟩
  · rcases e with rfl | e
    · exact k.s1.apart hz
    · exact k.ne z hz e
  · intro z hz hz2
    rcases hf z hz2 with h1 | h1
    · exact k.ne z hz h1
    · have := k.s1.lt z hz; omega
  · intro z hz
    rcases hf z hz with h1 | h1
    · exact .inl (k.in2 z h1)
    · exact .inr ⟨h1, hs.lt z hz⟩
  · rintro z (hz | hz)
    · exact Nat.lt_of_lt_of_le (k.lt z hz) m.size
    · exact hz.2
/-- What a call that writes a sliding row leaves. -/
def LeftS (h : Heap) (b : Nat) (sz : Int) (x y : List Ent) (S : Nat → Prop) (h' : Heap) : Prop := SldE h' b sz x y (grow S h h') ∧ Mod S h h'
theorem lay1 {S : Nat → Prop} {h : Heap} {b : Nat} {sz : Int} {x y : List Ent} (k : SldE h b sz x y S) (hl : x.length < 4294967296) (n : Int) :
    CallsH Try.prog 28 #[.pointer (some ⟨b, 1, none⟩), .int .i64 n] h fun v h' => v = .tuple #[] ∧ LeftS h b sz (layS x n) y S h' := by
  obtain ⟨a1, l1, c1, a2, l2, c2, k⟩ := k
  exact CallsH.mono (lay_spec k.s1 (by rw [← k.s1.len]; exact hl) n) fun _ _ ⟨e, q⟩ => ⟨e, k.write1 q⟩
theorem lay2 {S : Nat → Prop} {h : Heap} {b : Nat} {sz : Int} {x y : List Ent} (k : SldE h b sz x y S) (hl : y.length < 4294967296) (n : Int) :
    CallsH Try.prog 28 #[.pointer (some ⟨b, 2, none⟩), .int .i64 n] h fun v h' => v = .tuple #[] ∧ LeftS h b sz x (layS y n) S h' := by
  obtain ⟨a1, l1, c1, a2, l2, c2, k⟩ := k
  exact CallsH.mono (lay_spec k.s2 (by rw [← k.s2.len]; exact hl) n) fun _ _ ⟨e, q⟩ => ⟨e, k.write2 q⟩
theorem pop1 {S : Nat → Prop} {h : Heap} {b : Nat} {sz : Int} {x y : List Ent} (k : SldE h b sz x y S) (hl : x.length < 4294967296) :
    CallsH Try.prog 29 #[.pointer (some ⟨b, 1, none⟩)] h fun v h' => v = .tuple #[(topS x).1.v, .bool (topS x).2] ∧ LeftS h b sz x.dropLast y S h' := by
  obtain ⟨a1, l1, c1, a2, l2, c2, k⟩ := k
  exact CallsH.mono (pop_spec k.s1 (by rw [← k.s1.len]; exact hl)) fun _ _ ⟨e, q⟩ => ⟨e, k.write1 q⟩
theorem pop2 {S : Nat → Prop} {h : Heap} {b : Nat} {sz : Int} {x y : List Ent} (k : SldE h b sz x y S) (hl : y.length < 4294967296) :
    CallsH Try.prog 29 #[.pointer (some ⟨b, 2, none⟩)] h fun v h' => v = .tuple #[(topS y).1.v, .bool (topS y).2] ∧ LeftS h b sz x y.dropLast S h' := by
  obtain ⟨a1, l1, c1, a2, l2, c2, k⟩ := k
  exact CallsH.mono (pop_spec k.s2 (by rw [← k.s2.len]; exact hl)) fun _ _ ⟨e, q⟩ => ⟨e, k.write2 q⟩
theorem known1 {S : Nat → Prop} {h : Heap} {b : Nat} {sz : Int} {x y : List Ent} (k : SldE h b sz x y S) (hl : x.length < 4294967296) :
    CallsH Try.prog 30 #[.pointer (some ⟨b, 1, none⟩)] h fun v h' => v = (knownS x).v ∧ Ext h h' := by
  obtain ⟨a1, l1, c1, a2, l2, c2, k⟩ := k
  exact known_spec k.s1 (by rw [← k.s1.len]; omega)
theorem known2 {S : Nat → Prop} {h : Heap} {b : Nat} {sz : Int} {x y : List Ent} (k : SldE h b sz x y S) (hl : y.length < 4294967296) :
    CallsH Try.prog 30 #[.pointer (some ⟨b, 2, none⟩)] h fun v h' => v = (knownS y).v ∧ Ext h h' := by
  obtain ⟨a1, l1, c1, a2, l2, c2, k⟩ := k
  exact known_spec k.s2 (by rw [← k.s2.len]; omega)
def newP (sz : Int) : Prop := 1 ≤ sz ∧ sz ≤ 4096
theorem new_spec (sz : Int) (h : Heap) : CallsH Try.prog 14 #[.int .i64 sz] h fun v h' =>
    (¬ newP sz ∧ v = .tuple #[.pointer none, .int .i64 1] ∧ h' = h) ∨
    (newP sz ∧ ∃ b, v = .tuple #[.pointer (some ⟨b, 0, none⟩), .int .i64 0] ∧ SldE h' b sz [] [] (fun z => z = b) ∧ Ext h h' ∧ h.size ≤ b) := by
  refine vf14 _ h _ ?_
  unfold F14
  refine cond_split (fun hc => ?_) (fun hc => ?_)
  · exact .inl ⟨by have : sz < 1 := by simpa using hc
                   unfold newP; omega, rfl, rfl⟩
  refine cond_split (fun hd => ?_) (fun hd => ?_)
  · exact .inl ⟨by have : sz > 4096 := by simpa using hd
                   unfold newP; omega, rfl, rfl⟩
  refine VNew.mk fun b h1 hb hB m s => .inr ⟨?_, b, rfl, ⟨none, 0, 0, none, 0, 0, ⟨hB, rfl, Vec.nil _ _ _, by simp [ob], by simp [ob]⟩, ⟨hB, rfl, Vec.nil _ _ _, by simp [ob], by simp [ob]⟩, by simp [ob], rfl, by simp [ob], by simp [ob], fun z hz => by subst hz; exact hB.lt⟩, m, by omega⟩
  have h1 : ¬ sz < 1 := by simpa using hc
  have h2 : ¬ sz > 4096 := by simpa using hd
  unfold newP; omega
theorem acc_spec {S : Nat → Prop} {h : Heap} {b : Nat} {sz : Int} {x y : List Ent} (k : SldE h b sz x y S) (hl : x.length < 4294967296) (hl2 : y.length < 4294967296) :
    CallsH Try.prog 17 #[.pointer (some ⟨b, 0, none⟩)] h fun v h' => v = (joinS (knownS y) (knownS x)).v ∧ Ext h h' := by
  refine vf17 _ h _ ?_
  unfold F17
  have hL := Lcl.start h
  repeat' first
    | ((with_reducible show VNew _ _ _); refine Own.vnew ‹Own _ _ _ _› fun _ _ _ _ => ?_)
    | ((with_reducible show VSome _ _); refine VSome.mk ?_)
    | ((with_reducible show Exists _); refine ⟨_, Own.cell ‹Own _ _ _ _› 0 (by rfl) (by rfl), ?_⟩)
    | ((with_reducible show storeL _ _ _ _ _); refine Own.vstoreAll ‹Own _ _ _ _› 0 (by rfl) (by rfl) (by rfl) fun _ _ => ?_)
    | ((with_reducible show VStore _ _ _ _); refine Own.vstore ‹Own _ _ _ _› 0 (by rfl) (by simp) fun _ _ => ?_)
    | ((with_reducible show And _ _); refine ⟨Own.cell ‹Own _ _ _ _› 0 (by rfl) (by rfl), ?_⟩)
    | ((with_reducible show Exists _); refine ⟨_, _, _, Own.cell ‹Own _ _ _ _› 0 (by rfl) (by rfl), ?_⟩)
    | ((with_reducible show And _ _); refine And.intro (And.intro (Own.cell ‹Own _ _ _ _› 0 (by rfl) (by rfl)) ?_) ?_)
    | ((with_reducible show @Eq (Option Value) _ _); exact Own.cell ‹Own _ _ _ _› 0 (by rfl) (by rfl))
    | ((with_reducible show Exists _); refine ⟨_, Own.old ‹Own _ _ _ _› (by assumption) id, ?_⟩)
    | ((with_reducible show Exists _); refine ⟨_, _, _, Own.old ‹Own _ _ _ _› (by assumption) id, ?_⟩)
    | ((with_reducible show And _ _); refine ⟨Own.old ‹Own _ _ _ _› (by assumption) id, ?_⟩)
    | ((with_reducible show Exists _); refine ⟨_, Own.old ‹Own _ _ _ _› (by assumption) (by assumption), ?_⟩)
    | ((with_reducible show Exists _); refine ⟨_, _, _, Own.old ‹Own _ _ _ _› (by assumption) (by assumption), ?_⟩)
    | ((with_reducible show And _ _); refine ⟨Own.old ‹Own _ _ _ _› (by assumption) (by assumption), ?_⟩)
    | ((with_reducible show CallsH _ _ _ _ _); refine CallsH.mono (known2 (k.ext (‹Own _ _ _ _›).ext) hl2) ?_; rintro _ _ ⟨rfl, hm⟩; (first | refine ⟨rfl, ?_⟩ | refine ⟨_, rfl, ?_⟩ | refine ⟨_, _, rfl, ?_⟩ | refine ⟨_, _, _, _, rfl, ?_⟩ | refine ⟨_, _, _, _, _, rfl, ?_⟩ | refine ⟨_, _, _, _, _, _, rfl, ?_⟩); have hnx := Own.next ‹Own _ _ _ _› hm; clear hm)
    | ((with_reducible show CallsH _ _ _ _ _); refine CallsH.mono (known1 (k.ext (‹Own _ _ _ _›).ext) hl) ?_; rintro _ _ ⟨rfl, hm⟩; (first | refine ⟨rfl, ?_⟩ | refine ⟨_, rfl, ?_⟩ | refine ⟨_, _, rfl, ?_⟩ | refine ⟨_, _, _, _, rfl, ?_⟩ | refine ⟨_, _, _, _, _, rfl, ?_⟩ | refine ⟨_, _, _, _, _, _, rfl, ?_⟩); have hnx := Own.next ‹Own _ _ _ _› hm; clear hm)
    | ((with_reducible show CallsH _ _ _ _ _); refine CallsH.mono (join_spec (knownS y) (knownS x) _) ?_; rintro _ _ ⟨rfl, hm⟩; (first | refine ⟨rfl, ?_⟩ | refine ⟨_, rfl, ?_⟩ | refine ⟨_, _, rfl, ?_⟩ | refine ⟨_, _, _, _, rfl, ?_⟩ | refine ⟨_, _, _, _, _, rfl, ?_⟩ | refine ⟨_, _, _, _, _, _, rfl, ?_⟩); have hnx := Own.next ‹Own _ _ _ _› hm; clear hm)
    | fail
  exact ⟨rfl, (‹Own _ _ _ _›).ext⟩
end Go.Proofs.Ytcncagllbkohfaa.F
