/- Memory: blocks, what a step leaves alone, slices' rows, and how the conditions' forms are met by them. Conditions: none. -/
import Derived.Test.YtofaihacmoacjaaDoorV8
namespace Go.VC
open Go

/-! ### Blocks, and what a step leaves alone -/
def Blk (h : Heap) (b : Nat) (cs : Array Value) (t : Nat) : Prop := ∃ lo hi, h[b]? = some (.cells cs t (lo, hi)) ∧ (lo = hi ∨ cs.size ≤ lo)
structure Mod (S : Nat → Prop) (h h' : Heap) : Prop where
  size : h.size ≤ h'.size
  keep : ∀ b, b < h.size → ¬ S b → h'[b]? = h[b]?
abbrev Ext : Heap → Heap → Prop := Mod fun _ => False
theorem Blk.lt {h : Heap} {b : Nat} {cs : Array Value} {t : Nat} (k : Blk h b cs t) : b < h.size := let ⟨_, _, k, _⟩ := k; (Array.getElem?_eq_some_iff.1 k).1
theorem Blk.cell {h : Heap} {b : Nat} {cs : Array Value} {t : Nat} (k : Blk h b cs t) (i : Nat) : cellH h ⟨b, i, none⟩ = cs[i]? := by
  obtain ⟨lo, hi, k, _⟩ := k; simp [cellH, k]
theorem Blk.frozen {h : Heap} {b : Nat} {cs : Array Value} {t : Nat} (k : Blk h b cs t) {i : Nat} (hi : i < cs.size) : frozenH h ⟨b, i, none⟩ = false := by
  obtain ⟨lo, hi', k, q⟩ := k
  simp [frozenH, k]
  rcases q with rfl | q
  · intro h; omega
  · intro h; omega
theorem Mod.refl (S : Nat → Prop) (h : Heap) : Mod S h h := ⟨Nat.le_refl _, fun _ _ _ => rfl⟩
theorem Mod.trans {S S' : Nat → Prop} {h h1 h2 : Heap} (k : Mod S h h1) (k' : Mod S' h1 h2) (hs : ∀ b, S' b → S b ∨ h.size ≤ b) : Mod S h h2 :=
  ⟨Nat.le_trans k.size k'.size, fun b hb hn => by
    rw [k'.keep b (Nat.lt_of_lt_of_le hb k.size) fun h1 => (hs b h1).elim hn (by omega), k.keep b hb hn]⟩
theorem Mod.mono {S S' : Nat → Prop} {h h1 : Heap} (k : Mod S h h1) (hs : ∀ b, S b → S' b ∨ h.size ≤ b) : Mod S' h h1 :=
  ⟨k.size, fun b hb hn => k.keep b hb fun h1 => (hs b h1).elim hn (by omega)⟩
/-- A change of new blocks alone is none. -/
theorem Mod.then {S : Nat → Prop} {h h1 h2 : Heap} (k : Mod S h h1) (k' : Ext h1 h2) : Mod S h h2 := k.trans k' fun _ h => h.elim
theorem Mod.after {S : Nat → Prop} {h h1 h2 : Heap} (k : Ext h h1) (k' : Mod S h1 h2) : Mod S h h2 := (k.mono fun _ h => h.elim).trans k' fun _ h => .inl h
theorem Mod.fresh {S : Nat → Prop} {h h1 h2 : Heap} (k : Ext h h1) (k' : Mod S h1 h2) (hs : ∀ b, S b → h.size ≤ b) : Ext h h2 := k.trans k' fun b hb => .inr (hs b hb)
theorem Mod.push (h : Heap) (o : Obj) : Ext h (h.push o) := ⟨by simp, fun b hb _ => by rw [Array.getElem?_push]; split; (· omega); (· rfl)⟩
theorem Blk.push (h : Heap) (cs : Array Value) (t : Nat) : Blk (h.push (.cells cs t)) h.size cs t := ⟨0, 0, by simp, .inl rfl⟩
theorem Mod.set (h : Heap) (a : Addr) (v : Value) : Mod (· = a.block) h (setH h a v) := ⟨by simp [setH], fun b hb hn => by
  unfold setH; rw [Array.getElem?_modify]; rw [if_neg (fun e => hn e.symm)]⟩
theorem size_set (h : Heap) (a : Addr) (v : Value) : (setH h a v).size = h.size := by simp [setH]
theorem Blk.set {h : Heap} {b : Nat} {cs : Array Value} {t : Nat} (k : Blk h b cs t) (i : Nat) (v : Value) : Blk (setH h ⟨b, i, none⟩ v) b (cs.setIfInBounds i v) t := by
  obtain ⟨lo, hi, k, q⟩ := k
  refine ⟨lo, hi, ?_, by simpa using q⟩
  unfold setH; rw [Array.getElem?_modify]; simp [k]
theorem Blk.mod {S : Nat → Prop} {h h' : Heap} {b : Nat} {cs : Array Value} {t : Nat} (k : Blk h b cs t) (m : Mod S h h') (hn : ¬ S b) : Blk h' b cs t := by
  have hl := k.lt; unfold Blk at *; rw [m.keep b hl hn]; exact k
theorem Blk.ext {h h' : Heap} {b : Nat} {cs : Array Value} {t : Nat} (k : Blk h b cs t) (m : Ext h h') : Blk h' b cs t := k.mod m id
theorem cellH_lt {h : Heap} {a : Addr} {v : Value} (k : cellH h a = some v) : a.block < h.size := by
  unfold cellH at k
  cases hb : h[a.block]? with
  | none => simp [hb] at k
  | some o => exact (Array.getElem?_eq_some_iff.1 hb).1
theorem cellH_mod {S : Nat → Prop} {h h' : Heap} {a : Addr} {v : Value} (k : cellH h a = some v) (m : Mod S h h') (hn : ¬ S a.block) : cellH h' a = some v := by
  have := m.keep a.block (cellH_lt k) hn
  unfold cellH at *; rw [this]; exact k

/-! ### The forms met -/
theorem VNew.mk {h : Heap} {cs : Array Value} {t : Nat} {K : Nat → Heap → Prop} (k : ∀ b h1, b = h.size → Blk h1 b cs t → Ext h h1 → h1.size = h.size + 1 → K b h1) : VNew h (.cells cs t) K :=
  k h.size _ rfl (Blk.push h cs t) (Mod.push h _) (by simp)
theorem VStore.mk {h : Heap} {b i : Nat} {cs : Array Value} {t : Nat} {v : Value} {K : Heap → Prop} (hb : Blk h b cs t) (hi : i < cs.size)
    (k : ∀ h1, Blk h1 b (cs.setIfInBounds i v) t → Mod (· = b) h h1 → h1.size = h.size → K h1) : VStore h ⟨b, i, none⟩ v K :=
  ⟨⟨cs[i], by rw [hb.cell]; simp [hi]⟩, hb.frozen hi, k _ (hb.set i v) (Mod.set h ⟨b, i, none⟩ v) (size_set _ _ _)⟩
/-- A string's mark behind a block. -/
theorem Blk.freeze {h : Heap} {b : Nat} {cs : Array Value} {t n : Nat} (k : Blk h b cs t) (hn : cs.size ≤ n) {f : Obj → Obj} (hf : ∀ c e lo hi, f (.cells c e (lo, hi)) = .cells c e (if lo == hi then (n, n + 1) else (min lo n, max hi (n + 1)))) : Blk (h.modify b f) b cs t := by
  obtain ⟨lo, hi, k, q⟩ := k
  unfold Blk
  rw [Array.getElem?_modify]
  simp only [if_true, k, Option.map_some, hf]
  by_cases e : lo = hi
  · subst e; exact ⟨n, n + 1, by simp, .inr hn⟩
  · exact ⟨min lo n, max hi (n + 1), by simp [e], .inr (by have := q.resolve_left e; omega)⟩
theorem Mod.modify (h : Heap) (b : Nat) (f : Obj → Obj) : Mod (· = b) h (h.modify b f) := ⟨by simp, fun x hb hn => by
  rw [Array.getElem?_modify, if_neg (fun e => hn e.symm)]⟩
def oneC : Value → Bool
  | .agg _ => false
  | .tuple _ => false
  | _ => true
theorem storeOne.of {h : Heap} {a : Addr} {v : Value} {K : Heap → Prop} (hv : oneC v = true) (k : VStore h a v K) : storeOne h a v K := by
  cases v <;> first | exact k | (simp [oneC] at hv)
/-- The cells with some written over, from a place on. -/
def putAt : Array Value → Nat → List Value → Array Value
  | cs, _, [] => cs
  | cs, i, v :: vs => putAt (cs.setIfInBounds i v) (i + 1) vs
theorem putAt_size : ∀ (vs : List Value) (cs : Array Value) (i : Nat), (putAt cs i vs).size = cs.size
  | [], _, _ => rfl
  | v :: vs, cs, i => by simp [putAt, putAt_size vs]
theorem putAt_get : ∀ (vs : List Value) (cs : Array Value) (i j : Nat), i + vs.length ≤ cs.size → (putAt cs i vs)[j]? = if i ≤ j ∧ j < i + vs.length then vs[j - i]? else cs[j]?
  | [], cs, i, j, _ => by
    rw [if_neg (by simp only [List.length_nil]; omega)]; rfl
  | v :: vs, cs, i, j, h => by
    simp only [List.length_cons] at h ⊢
    unfold putAt
    rw [putAt_get vs _ (i + 1) j (by simp; omega), Array.getElem?_setIfInBounds]
    by_cases e : i = j
    · subst e
      rw [if_neg (by omega), if_pos rfl, if_pos (by omega : i < cs.size), if_pos (by omega)]; simp
    · by_cases h1 : i + 1 ≤ j ∧ j < i + 1 + vs.length
      · rw [if_pos h1, if_pos (by omega)]
        rw [show j - i = (j - (i + 1)) + 1 by omega]; rfl
      · rw [if_neg h1, if_neg e, if_neg (by omega)]
theorem storeL.mkAt {b t : Nat} {K : Heap → Prop} : ∀ (vs : List Value) (i : Nat) (h : Heap) (cs : Array Value) (o : Nat), Blk h b cs t → o + i + vs.length ≤ cs.size → (∀ v ∈ vs, oneC v = true) →
    (∀ h1, Blk h1 b (putAt cs (o + i) vs) t → Mod (· = b) h h1 → h1.size = h.size → K h1) → storeL ⟨b, o, none⟩ i vs h K
  | [], i, h, cs, o, hb, _, _, k => k h hb (.refl _ _) rfl
  | v :: vs, i, h, cs, o, hb, hl, hv, k => by
    simp only [List.length_cons] at hl
    have ha : addN ⟨b, o, none⟩ i = ⟨b, o + i, none⟩ := by cases i <;> simp [addN]
    unfold storeL
    rw [ha]
    refine storeOne.of (hv v (by simp)) (VStore.mk hb (by omega) fun h1 hb1 m1 s1 => ?_)
    refine storeL.mkAt vs (i + 1) h1 _ o hb1 (by simp; omega) (fun u hu => hv u (by simp [hu])) fun h2 hb2 m2 s2 => ?_
    exact k h2 hb2 (m1.trans m2 fun _ h => .inl h) (s2.trans s1)
theorem putAt_all (cs : Array Value) (vs : List Value) (h : vs.length = cs.size) : putAt cs 0 vs = vs.toArray := by
  apply Array.ext_getElem?
  intro j
  rw [putAt_get vs cs 0 j (by omega)]
  by_cases hj : j < vs.length
  · rw [if_pos (by omega)]; simp
  · rw [if_neg (by omega)]; simp [Array.getElem?_eq_none (show cs.size ≤ j by omega), List.getElem?_eq_none (show vs.length ≤ j by omega)]
/-- A whole block written over. -/
theorem storeL.all {h : Heap} {b t : Nat} {cs : Array Value} {vs : List Value} {K : Heap → Prop} (hb : Blk h b cs t) (hl : vs.length = cs.size) (hv : ∀ v ∈ vs, oneC v = true)
    (k : ∀ h1, Blk h1 b vs.toArray t → Mod (· = b) h h1 → h1.size = h.size → K h1) : storeL ⟨b, 0, none⟩ 0 vs h K :=
  storeL.mkAt vs 0 h cs 0 hb (by omega) hv fun h1 hb1 m s => k h1 (by rw [Nat.add_zero, putAt_all cs vs hl] at hb1; exact hb1) m s
theorem VSome.mk {a : Addr} {K : Addr → Prop} (k : K a) : VSome (some a) K := k
end Go.VC
