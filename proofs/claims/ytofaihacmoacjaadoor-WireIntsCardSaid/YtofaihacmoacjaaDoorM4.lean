/- Memory: a call's own blocks told together. Conditions: none. -/
import Derived.Test.YtofaihacmoacjaaDoorM3
namespace Go.VC
open Go
set_option linter.unusedSimpArgs false
set_option linter.unusedVariables false

theorem cond_split {b : Bool} {A B : Prop} (h1 : b = true → A) (h2 : b = false → B) : cond b A B := by
  cases b
  · exact h2 rfl
  · exact h1 rfl
theorem cond_true {b : Bool} {A B : Prop} (hb : b = true) (h1 : A) : cond b A B := by subst hb; exact h1
theorem cond_false {b : Bool} {A B : Prop} (hb : b = false) (h1 : B) : cond b A B := by subst hb; exact h1

/-- Since h0 new blocks have come, and those of S may have been written; L: some of them, each once, and what they hold. -/
structure Own (S : Nat → Prop) (h0 h : Heap) (L : List (Nat × Array Value × Nat)) : Prop where
  ext : Mod S h0 h
  blk : ∀ x ∈ L, Blk h x.1 x.2.1 x.2.2
  new : ∀ x ∈ L, S x.1 ∨ h0.size ≤ x.1
  once : (L.map (·.1)).Nodup
abbrev Lcl : Heap → Heap → List (Nat × Array Value × Nat) → Prop := Own fun _ => False
variable {S : Nat → Prop} {h0 h h1 : Heap} {L : List (Nat × Array Value × Nat)}
theorem Own.start (S : Nat → Prop) (h : Heap) : Own S h h [] := ⟨.refl _ _, by simp, by simp, by simp⟩
theorem Lcl.start (h : Heap) : Lcl h h [] := Own.start _ h
theorem Own.one {b t : Nat} {cs : Array Value} (hb : Blk h b cs t) (hs : S b) : Own S h h [(b, cs, t)] :=
  ⟨.refl _ _, by simpa using hb, by simpa using .inl hs, by simp⟩
theorem Own.next (k : Own S h0 h L) (m : Ext h h1) : Own S h0 h1 L :=
  ⟨k.ext.then m, fun x hx => (k.blk x hx).ext m, k.new, k.once⟩
/-- A call that writes elsewhere. -/
theorem Own.other {S' : Nat → Prop} (k : Own S h0 h L) (m : Mod S' h h1) (hs : ∀ b, S' b → S b ∨ h0.size ≤ b) (hL : ∀ x ∈ L, ¬ S' x.1) : Own S h0 h1 L :=
  ⟨k.ext.trans m hs, fun x hx => (k.blk x hx).mod m (hL x hx), k.new, k.once⟩
theorem Own.drop (k : Own S h0 h L) : Own S h0 h [] := ⟨k.ext, by simp, by simp, by simp⟩
theorem Own.alloc {cs : Array Value} {t b : Nat} (k : Own S h0 h L) (hb : b = h.size) (hB : Blk h1 b cs t) (m : Ext h h1) : Own S h0 h1 ((b, cs, t) :: L) := by
  subst hb
  refine ⟨k.ext.then m, ?_, ?_, ?_⟩
  · intro x hx
    rcases List.mem_cons.1 hx with rfl | hx
    · exact hB
    · exact (k.blk x hx).ext m
  · intro x hx
    rcases List.mem_cons.1 hx with rfl | hx
    · exact .inr k.ext.size
    · exact k.new x hx
  · simp only [List.map_cons, List.nodup_cons]
    refine ⟨fun hm => ?_, k.once⟩
    obtain ⟨x, hx, e⟩ := List.mem_map.1 hm
    have := (k.blk x hx).lt
    omega
theorem Own.vnew {cs : Array Value} {t : Nat} {K : Nat → Heap → Prop} (k : Own S h0 h L) (c : ∀ b h1, h.size ≤ b → Own S h0 h1 ((b, cs, t) :: L) → K b h1) : VNew h (.cells cs t) K :=
  VNew.mk fun b h1 hb hB m _ => c b h1 (Nat.le_of_eq hb.symm) (k.alloc hb hB m)
theorem Own.get (k : Own S h0 h L) (n : Nat) {b t : Nat} {cs : Array Value} (hn : L[n]? = some (b, cs, t)) : Blk h b cs t := k.blk _ (List.mem_of_getElem? hn)
theorem Own.cell (k : Own S h0 h L) (n : Nat) {b t i : Nat} {cs : Array Value} (hn : L[n]? = some (b, cs, t)) {v : Value} (hv : cs[i]? = some v) : cellH h ⟨b, i, none⟩ = some v := by
  rw [(k.get n hn).cell]; exact hv
/-- What was there, and not written, is there. -/
theorem Own.old (k : Own S h0 h L) {a : Addr} {v : Value} (hc : cellH h0 a = some v) (hn : ¬ S a.block) : cellH h a = some v := cellH_mod hc k.ext hn
theorem Own.set {S' : Nat → Prop} (k : Own S h0 h L) (n : Nat) {b t : Nat} {cs cs' : Array Value} (hn : L[n]? = some (b, cs, t)) (hB : Blk h1 b cs' t) (m : Mod S' h h1)
    (hs : ∀ x, S' x → S x ∨ h0.size ≤ x) (hL : ∀ j x, L[j]? = some x → S' x.1 → j = n) : Own S h0 h1 (L.set n (b, cs', t)) := by
  have hmem := List.mem_of_getElem? hn
  have hlt : n < L.length := (List.getElem?_eq_some_iff.1 hn).1
  have hget : L[n] = (b, cs, t) := (List.getElem?_eq_some_iff.1 hn).2
  have hmap : (L.set n (b, cs', t)).map (·.1) = L.map (·.1) := by
    rw [List.map_set]
    show (L.map (·.1)).set n b = _
    apply List.ext_getElem?
    intro j
    rw [List.getElem?_set]
    split
    · rename_i e; subst e
      simp [hlt, hget]
    · rfl
  refine ⟨k.ext.trans m hs, ?_, ?_, by rw [hmap]; exact k.once⟩
  · intro x hx
    obtain ⟨j, hj⟩ := List.mem_iff_getElem?.1 hx
    rw [List.getElem?_set] at hj
    split at hj
    · rename_i e
      (try rw [if_pos hlt] at hj)
      cases hj; exact hB
    · rename_i e
      exact (k.blk x (List.mem_of_getElem? hj)).mod m fun hxb => e (hL j x hj hxb).symm
  · intro x hx
    rcases List.mem_or_eq_of_mem_set hx with hx | rfl
    · exact k.new x hx
    · exact k.new (b, cs, t) hmem
theorem Own.change (k : Own S h0 h L) (n : Nat) {b t : Nat} {cs cs' : Array Value} (hn : L[n]? = some (b, cs, t)) (hB : Blk h1 b cs' t) (m : Mod (· = b) h h1) :
    Own S h0 h1 (L.set n (b, cs', t)) := by
  refine k.set n hn hB m (fun x hx => by subst hx; exact k.new _ (List.mem_of_getElem? hn)) fun j x hj hxb => ?_
  have h1 : (L.map (·.1))[j]? = some b := by simp [hj, hxb]
  have h2 : (L.map (·.1))[n]? = some b := by simp [hn]
  have hjl : j < (L.map (·.1)).length := (List.getElem?_eq_some_iff.1 h1).1
  exact (List.getElem?_inj hjl k.once).1 (h1.trans h2.symm)
theorem Own.vstore (k : Own S h0 h L) (n : Nat) {b t i : Nat} {cs : Array Value} {v : Value} {K : Heap → Prop} (hn : L[n]? = some (b, cs, t)) (hi : i < cs.size)
    (c : ∀ h1, Own S h0 h1 (L.set n (b, cs.setIfInBounds i v, t)) → K h1) : VStore h ⟨b, i, none⟩ v K :=
  VStore.mk (k.get n hn) hi fun h1 hB m _ => c h1 (k.change n hn hB m)
theorem Own.vstoreAll (k : Own S h0 h L) (n : Nat) {b t : Nat} {cs : Array Value} {vs : List Value} {K : Heap → Prop} (hn : L[n]? = some (b, cs, t)) (hl : vs.length = cs.size)
    (hv : vs.all oneC = true) (c : ∀ h1, Own S h0 h1 (L.set n (b, vs.toArray, t)) → K h1) : storeL ⟨b, 0, none⟩ 0 vs h K :=
  storeL.all (k.get n hn) hl (List.all_eq_true.1 hv) fun h1 hB m _ => c h1 (k.change n hn hB m)
theorem Own.sl (k : Lcl h0 h L) {a : Option Addr} {vs : List Value} (hs : Sl h0 a vs) : Sl h a vs := hs.ext k.ext
end Go.VC
