/- Package agg: the stacks: push, lay, pop. Conditions: none. -/
import Derived.Test.YtcncagllbkohfaaA3
namespace Go.Proofs.Ytcncagllbkohfaa.F
open Go Go.VC Go.Proofs
set_option linter.unusedSimpArgs false
set_option linter.unusedVariables false
set_option maxRecDepth 100000
attribute [local irreducible] CallsH RunsTo

/-- What a call that writes a stack leaves. -/
def Left1 (h : Heap) (b : Nat) (cs : Array Value) (t i : Nat) (a : Option Addr) (es : List Ent) (h' : Heap) : Prop :=
  ∃ a' l' c', Stk h' b (cs.setIfInBounds i (.slice a' l' c')) t i a' l' c' es ∧ Mod (fun x => x = b ∨ ob a = some x) h h' ∧ ∀ x, ob a' = some x → ob a = some x ∨ h.size ≤ x

theorem push_spec {h : Heap} {b : Nat} {cs : Array Value} {t i : Nat} {a : Option Addr} {l c : Nat} {es : List Ent} (k : Stk h b cs t i a l c es) (hl : l < 4294967296) (e : Ent) :
    CallsH Try.prog 32 #[.pointer (some ⟨b, i, none⟩), e.v] h (fun v h' => v = .tuple #[] ∧ Left1 h b cs t i a (es ++ [e]) h') := by
  refine vf32 _ _ _ _ _ _ h _ ?_
  unfold F32
  have hL := Lcl.start h
  have h0 := k.c0
  repeat' first
    | ((with_reducible show VNew _ _ _); refine Own.vnew ‹Own _ _ _ _› fun _ _ _ _ => ?_)
    | ((with_reducible show VSome _ _); refine VSome.mk ?_)
    | ((with_reducible show Exists _); refine ⟨_, Own.cell ‹Own _ _ _ _› 0 (by rfl) (by rfl), ?_⟩)
    | ((with_reducible show storeL _ _ _ _ _); refine Own.vstoreAll ‹Own _ _ _ _› 0 (by rfl) (by rfl) (by rfl) fun _ _ => ?_)
    | ((with_reducible show VStore _ _ _ _); refine Own.vstore ‹Own _ _ _ _› 0 (by rfl) (by simp) fun _ _ => ?_)
    | ((with_reducible show And _ _); refine ⟨Own.cell ‹Own _ _ _ _› 0 (by rfl) (by rfl), ?_⟩)
    | ((with_reducible show Exists _); refine ⟨_, _, _, Own.cell ‹Own _ _ _ _› 0 (by rfl) (by rfl), ?_⟩)
    | ((with_reducible show And _ _); refine And.intro (And.intro (Own.cell ‹Own _ _ _ _› 0 (by rfl) (by rfl)) ?_) ?_)
    | ((with_reducible show @Eq (Option Value) _ _); exact Own.cell ‹Own _ _ _ _› 0 (by rfl) (by rfl))
    | ((with_reducible show Exists _); refine ⟨_, Own.old ‹Own _ _ _ _› (by assumption) id, ?_⟩)
    | ((with_reducible show Exists _); refine ⟨_, _, _, Own.old ‹Own _ _ _ _› (by assumption) id, ?_⟩)
    | ((with_reducible show And _ _); refine ⟨Own.old ‹Own _ _ _ _› (by assumption) id, ?_⟩)
    | ((with_reducible show Exists _); refine ⟨_, Own.old ‹Own _ _ _ _› (by assumption) (by assumption), ?_⟩)
    | ((with_reducible show Exists _); refine ⟨_, _, _, Own.old ‹Own _ _ _ _› (by assumption) (by assumption), ?_⟩)
    | ((with_reducible show And _ _); refine ⟨Own.old ‹Own _ _ _ _› (by assumption) (by assumption), ?_⟩)
    | fail
  rename_i b2 h2 _ hO
  have k2 := k.ext hO.ext
  have hB := hO.get 0 rfl
  have src : Src Try.prog 5 h2 (.slice (some ⟨b2, 0, none⟩) 1 1) 1 (eC e) := Src.slice (hB.sl 0 fun j v hj => by simpa [eC] using hj) rfl
  refine append_vec' (P := Try.prog) (d := .slice 71) (by kernel_rfl) (by kernel_rfl) (by intro k; simp) (z := .agg #[.int .i64 0, .int .i64 0, .int .i64 0, .int .i64 0, .int .i64 0]) (bt := 40) (by kernel_rfl) rfl (by omega) src (by simp [eC, oneC]) k2.vec (by omega) fun a' c' h3 hv hm hcase => ?_
  refine ⟨_, _, _, rfl, ?_⟩
  refine VSome.mk ?_
  have hlt := k2.blk.lt
  have hap : ob a' ≠ some b := by
    rcases hcase with ⟨_, rfl, _⟩ | ⟨rfl, _⟩
    · exact k.apart
    · simp [ob]; omega
  have hi : i < cs.size := (Array.getElem?_eq_some_iff.1 k.cell).1
  refine VStore.mk (k2.blk.mod hm k.apart) hi fun h4 hB4 m4 s4 => ?_
  have m2 : Mod (fun x => x = b ∨ ob a = some x) h h3 := (hO.ext.mono fun _ h => h.elim).trans hm fun x hx => .inl (.inr hx)
  refine ⟨rfl, a', l + 1, c', ⟨hB4, by simp [hi], ?_, hap, fun x hx => by have := hv.lt (Nat.lt_of_lt_of_le (Nat.succ_pos l) hv.le) x hx; omega⟩, m2.trans m4 fun x hx => .inl (.inl hx), fun x hx => ?_⟩
  · have : eCs (es ++ [e]) = eCs es ++ eC e := by simp [eCs]
    rw [this]
    exact hv.mod m4 fun x hx e => hap (by rw [hx, e])
  · rcases hcase with ⟨_, rfl, _⟩ | ⟨rfl, _⟩
    · exact .inl hx
    · right
      have := hO.ext.size
      simp [ob] at hx; omega

def layS (es : List Ent) (n : Int) : List Ent := es ++ [(n, joinS (knownS es) (addS .z [n]))]
theorem lay_spec {h : Heap} {b : Nat} {cs : Array Value} {t i : Nat} {a : Option Addr} {l c : Nat} {es : List Ent} (k : Stk h b cs t i a l c es) (hl : l < 4294967296) (n : Int) :
    CallsH Try.prog 28 #[.pointer (some ⟨b, i, none⟩), .int .i64 n] h (fun v h' => v = .tuple #[] ∧ Left1 h b cs t i a (layS es n) h') := by
  refine vf28 _ _ h _ ?_
  unfold F28
  have hL := Lcl.start h
  repeat' first
    | ((with_reducible show VNew _ _ _); refine Own.vnew ‹Own _ _ _ _› fun _ _ _ _ => ?_)
    | ((with_reducible show VSome _ _); refine VSome.mk ?_)
    | ((with_reducible show Exists _); refine ⟨_, Own.cell ‹Own _ _ _ _› 0 (by rfl) (by rfl), ?_⟩)
    | ((with_reducible show storeL _ _ _ _ _); refine Own.vstoreAll ‹Own _ _ _ _› 0 (by rfl) (by rfl) (by rfl) fun _ _ => ?_)
    | ((with_reducible show VStore _ _ _ _); refine Own.vstore ‹Own _ _ _ _› 0 (by rfl) (by simp) fun _ _ => ?_)
    | ((with_reducible show And _ _); refine ⟨Own.cell ‹Own _ _ _ _› 0 (by rfl) (by rfl), ?_⟩)
    | ((with_reducible show Exists _); refine ⟨_, _, _, Own.cell ‹Own _ _ _ _› 0 (by rfl) (by rfl), ?_⟩)
    | ((with_reducible show And _ _); refine And.intro (And.intro (Own.cell ‹Own _ _ _ _› 0 (by rfl) (by rfl)) ?_) ?_)
    | ((with_reducible show @Eq (Option Value) _ _); exact Own.cell ‹Own _ _ _ _› 0 (by rfl) (by rfl))
    | ((with_reducible show Exists _); refine ⟨_, Own.old ‹Own _ _ _ _› (by assumption) id, ?_⟩)
    | ((with_reducible show Exists _); refine ⟨_, _, _, Own.old ‹Own _ _ _ _› (by assumption) id, ?_⟩)
    | ((with_reducible show And _ _); refine ⟨Own.old ‹Own _ _ _ _› (by assumption) id, ?_⟩)
    | ((with_reducible show Exists _); refine ⟨_, Own.old ‹Own _ _ _ _› (by assumption) (by assumption), ?_⟩)
    | ((with_reducible show Exists _); refine ⟨_, _, _, Own.old ‹Own _ _ _ _› (by assumption) (by assumption), ?_⟩)
    | ((with_reducible show And _ _); refine ⟨Own.old ‹Own _ _ _ _› (by assumption) (by assumption), ?_⟩)
    | ((with_reducible show CallsH _ _ _ _ _); refine CallsH.mono (known_spec k (by omega)) ?_; rintro _ _ ⟨rfl, hm⟩; (first | refine ⟨rfl, ?_⟩ | refine ⟨_, rfl, ?_⟩ | refine ⟨_, _, rfl, ?_⟩ | refine ⟨_, _, _, _, rfl, ?_⟩ | refine ⟨_, _, _, _, _, rfl, ?_⟩ | refine ⟨_, _, _, _, _, _, rfl, ?_⟩); have hnx := Own.next ‹Own _ _ _ _› hm; clear hm)
    | fail
  rename_i b2 h2 _ hO
  have hB := hO.get 0 rfl
  refine CallsH.mono (add_spec .z [n] (some ⟨b2, 0, none⟩) 1 1 _ (hB.sl 0 fun j v hj => by simpa [ints] using hj) rfl (by omega)) ?_
  rintro _ h3 ⟨rfl, hm⟩
  refine ⟨_, _, _, _, rfl, ?_⟩
  have hO2 := hO.next hm
  refine CallsH.mono (join_spec (knownS es) (addS .z [n]) _) ?_
  rintro _ h4 ⟨rfl, hm4⟩
  refine ⟨_, _, _, _, rfl, ?_⟩
  have hO3 := hO2.next hm4
  refine CallsH.mono (push_spec (k.ext hO3.ext) hl (n, joinS (knownS es) (addS .z [n]))) ?_
  rintro _ h5 ⟨rfl, a', l', c', k', m', hf⟩
  refine ⟨rfl, rfl, a', l', c', k', (hO3.ext.mono fun _ h => h.elim).trans m' fun x hx => .inl hx, fun x hx => ?_⟩
  have := hO3.ext.size
  rcases hf x hx with h1 | h1
  · exact .inl h1
  · right; omega
theorem pop_spec {h : Heap} {b : Nat} {cs : Array Value} {t i : Nat} {a : Option Addr} {l c : Nat} {es : List Ent} (k : Stk h b cs t i a l c es) (hl : l < 4294967296) :
    CallsH Try.prog 29 #[.pointer (some ⟨b, i, none⟩)] h (fun v h' => v = .tuple #[(topS es).1.v, .bool (topS es).2] ∧ Left1 h b cs t i a es.dropLast h') := by
  refine vf29 _ h _ ?_
  unfold F29
  have hO := Own.one (S := fun x => x = b) k.blk rfl
  have hlen := k.len
  have hi : i < cs.size := (Array.getElem?_eq_some_iff.1 k.cell).1
  have kk : ∀ h' L n, Own (fun x => x = b) h h' L → L[n]? = some (b, cs, t) → Stk h' b cs t i a l c es := fun h' L n o hn =>
    ⟨o.get n hn, k.cell, k.vec.mod o.ext fun x hx e => k.apart (e ▸ hx), k.apart, fun x hx => Nat.lt_of_lt_of_le (k.lt x hx) o.ext.size⟩
  repeat' first
    | ((with_reducible show VNew _ _ _); refine Own.vnew ‹Own _ _ _ _› fun _ _ _ _ => ?_)
    | ((with_reducible show VSome _ _); refine VSome.mk ?_)
    | ((with_reducible show Exists _); refine ⟨_, Own.cell ‹Own _ _ _ _› 0 (by rfl) (by rfl), ?_⟩)
    | ((with_reducible show storeL _ _ _ _ _); refine Own.vstoreAll ‹Own _ _ _ _› 0 (by rfl) (by rfl) (by rfl) fun _ _ => ?_)
    | ((with_reducible show VStore _ _ _ _); refine Own.vstore ‹Own _ _ _ _› 0 (by rfl) (by simp) fun _ _ => ?_)
    | ((with_reducible show And _ _); refine ⟨Own.cell ‹Own _ _ _ _› 0 (by rfl) (by rfl), ?_⟩)
    | ((with_reducible show Exists _); refine ⟨_, _, _, Own.cell ‹Own _ _ _ _› 0 (by rfl) (by rfl), ?_⟩)
    | ((with_reducible show And _ _); refine And.intro (And.intro (Own.cell ‹Own _ _ _ _› 0 (by rfl) (by rfl)) ?_) ?_)
    | ((with_reducible show @Eq (Option Value) _ _); exact Own.cell ‹Own _ _ _ _› 0 (by rfl) (by rfl))
    | ((with_reducible show Exists _); refine ⟨_, Own.old ‹Own _ _ _ _› (by assumption) id, ?_⟩)
    | ((with_reducible show Exists _); refine ⟨_, _, _, Own.old ‹Own _ _ _ _› (by assumption) id, ?_⟩)
    | ((with_reducible show And _ _); refine ⟨Own.old ‹Own _ _ _ _› (by assumption) id, ?_⟩)
    | ((with_reducible show Exists _); refine ⟨_, Own.old ‹Own _ _ _ _› (by assumption) (by assumption), ?_⟩)
    | ((with_reducible show Exists _); refine ⟨_, _, _, Own.old ‹Own _ _ _ _› (by assumption) (by assumption), ?_⟩)
    | ((with_reducible show And _ _); refine ⟨Own.old ‹Own _ _ _ _› (by assumption) (by assumption), ?_⟩)
    | ((with_reducible show CallsH _ _ _ _ _); refine CallsH.mono (top_spec (kk _ _ 1 ‹Own _ _ _ _› rfl) (by omega)) ?_; rintro _ _ ⟨rfl, hm⟩; (first | refine ⟨rfl, ?_⟩ | refine ⟨_, rfl, ?_⟩ | refine ⟨_, _, rfl, ?_⟩ | refine ⟨_, _, _, _, rfl, ?_⟩ | refine ⟨_, _, _, _, _, rfl, ?_⟩ | refine ⟨_, _, _, _, _, _, rfl, ?_⟩); have hnx := Own.next ‹Own _ _ _ _› hm; clear hm)
    | fail
  rename_i b1 g1 _ _ g2 b2 g3 _ _ g4 hO4
  refine ⟨fun h' => ∃ a' l' c', Vec h 71 5 a' l' c' (eCs es.dropLast) ∧ (∀ x, ob a' = some x → ob a = some x) ∧ Own (fun x => x = b) h h' [(b2, #[.int .i64 (topS es).1.1, .int .i64 (topS es).1.2.c, .int .i64 (topS es).1.2.s, .int .i64 (topS es).1.2.lo, .int .i64 (topS es).1.2.hi], 71), (b1, #[.int .i64 0, .int .i64 0, .int .i64 0, .int .i64 0, .int .i64 0], 71), (b, cs.setIfInBounds i (.slice a' l' c'), t)], ?_, ?_⟩
  · refine cond_split (fun hc => ?_) (fun hc => ?_)
    · have hne : es ≠ [] := by rintro rfl; simp [topS] at hc
      have hl0 : l ≠ 0 := by
        have := List.length_pos_iff.2 hne; omega
      refine VSome.mk ⟨_, _, _, hO4.cell 2 rfl k.cell, VSome.mk ⟨_, _, _, hO4.cell 2 rfl k.cell, ?_⟩⟩
      rw [wrap_id (by omega) (by omega)]
      refine ⟨0, l - 1, c, rfl, by omega, rfl, by omega, by have := k.vec.le; omega, by have := k.vec.le; omega, VSome.mk ?_⟩
      have e1 : (if c = 0 then a else a.map (·.add (0 * 5))) = a := by
        split
        · rfl
        · cases a with
          | none => rfl
          | some x => simp [Addr.add]
      rw [e1]
      refine hO4.vstore 2 rfl hi fun h5 hO5 => ⟨a, l - 1, c, ⟨?_, by have := k.vec.le; omega, ?_, k.vec.room⟩, fun x hx => hx, hO5⟩
      · rw [eCs_len, List.length_dropLast]; omega
      · have := k.vec.sl.take (es.dropLast.length * 5)
        have e2 : (eCs es).take (es.dropLast.length * 5) = eCs es.dropLast := by
          conv => lhs; rw [← List.dropLast_concat_getLast hne]
          unfold eCs
          rw [List.flatMap_append, List.take_append_of_le_length (by rw [flatMap_len eC_len]; simp), List.take_of_length_le (by rw [flatMap_len eC_len]; simp)]
        rwa [e2] at this
    · have hne : es = [] := by
        rcases List.eq_nil_or_concat es with rfl | ⟨r, e, rfl⟩
        · rfl
        · simp [topS] at hc
      subst hne
      refine ⟨a, l, c, k.vec, fun x hx => hx, ?_⟩
      have e1 : cs.setIfInBounds i (.slice a l c) = cs := by
        apply Array.ext_getElem?
        intro j
        rw [Array.getElem?_setIfInBounds]
        split
        · rename_i e; subst e; rw [k.cell]
        · rfl
      rw [e1]
      exact hO4
  · rintro h5 _ ⟨a', l', c', hv, hf, hO5⟩
    clear hO hO4
    repeat' first
      | ((with_reducible show VNew _ _ _); refine Own.vnew ‹Own _ _ _ _› fun _ _ _ _ => ?_)
      | ((with_reducible show VSome _ _); refine VSome.mk ?_)
      | ((with_reducible show Exists _); refine ⟨_, Own.cell ‹Own _ _ _ _› 0 (by rfl) (by rfl), ?_⟩)
      | ((with_reducible show Exists _); refine ⟨_, Own.cell ‹Own _ _ _ _› 1 (by rfl) (by rfl), ?_⟩)
      | ((with_reducible show storeL _ _ _ _ _); refine Own.vstoreAll ‹Own _ _ _ _› 0 (by rfl) (by rfl) (by rfl) fun _ _ => ?_)
      | ((with_reducible show storeL _ _ _ _ _); refine Own.vstoreAll ‹Own _ _ _ _› 1 (by rfl) (by rfl) (by rfl) fun _ _ => ?_)
      | ((with_reducible show VStore _ _ _ _); refine Own.vstore ‹Own _ _ _ _› 0 (by rfl) (by simp) fun _ _ => ?_)
      | ((with_reducible show VStore _ _ _ _); refine Own.vstore ‹Own _ _ _ _› 1 (by rfl) (by simp) fun _ _ => ?_)
      | ((with_reducible show And _ _); refine ⟨Own.cell ‹Own _ _ _ _› 0 (by rfl) (by rfl), ?_⟩)
      | ((with_reducible show And _ _); refine ⟨Own.cell ‹Own _ _ _ _› 1 (by rfl) (by rfl), ?_⟩)
      | ((with_reducible show Exists _); refine ⟨_, _, _, Own.cell ‹Own _ _ _ _› 0 (by rfl) (by rfl), ?_⟩)
      | ((with_reducible show Exists _); refine ⟨_, _, _, Own.cell ‹Own _ _ _ _› 1 (by rfl) (by rfl), ?_⟩)
      | ((with_reducible show And _ _); refine And.intro (And.intro (Own.cell ‹Own _ _ _ _› 0 (by rfl) (by rfl)) ?_) ?_)
      | ((with_reducible show And _ _); refine And.intro (And.intro (Own.cell ‹Own _ _ _ _› 1 (by rfl) (by rfl)) ?_) ?_)
      | ((with_reducible show @Eq (Option Value) _ _); exact Own.cell ‹Own _ _ _ _› 0 (by rfl) (by rfl))
      | ((with_reducible show @Eq (Option Value) _ _); exact Own.cell ‹Own _ _ _ _› 1 (by rfl) (by rfl))
      | ((with_reducible show Exists _); refine ⟨_, Own.old ‹Own _ _ _ _› (by assumption) id, ?_⟩)
      | ((with_reducible show Exists _); refine ⟨_, _, _, Own.old ‹Own _ _ _ _› (by assumption) id, ?_⟩)
      | ((with_reducible show And _ _); refine ⟨Own.old ‹Own _ _ _ _› (by assumption) id, ?_⟩)
      | ((with_reducible show Exists _); refine ⟨_, Own.old ‹Own _ _ _ _› (by assumption) (by assumption), ?_⟩)
      | ((with_reducible show Exists _); refine ⟨_, _, _, Own.old ‹Own _ _ _ _› (by assumption) (by assumption), ?_⟩)
      | ((with_reducible show And _ _); refine ⟨Own.old ‹Own _ _ _ _› (by assumption) (by assumption), ?_⟩)
      | fail
    rename_i h6 hO6
    have hap : ob a' ≠ some b := fun e => k.apart (hf _ e)
    exact ⟨rfl, a', l', c', ⟨hO6.get 2 rfl, by simp [hi], hv.mod hO6.ext fun x hx e => hap (e ▸ hx), hap, fun x hx => Nat.lt_of_lt_of_le (k.lt x (hf x hx)) hO6.ext.size⟩, hO6.ext.mono fun x hx => .inl (.inl hx), fun x hx => .inl (hf x hx)⟩
end Go.Proofs.Ytcncagllbkohfaa.F
