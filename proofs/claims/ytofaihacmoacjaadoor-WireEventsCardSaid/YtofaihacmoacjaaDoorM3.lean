/- Memory: slices that the program itself grows. Conditions: none. -/
import Derived.Test.YtofaihacmoacjaaDoorM2
namespace Go.VC
open Go
set_option linter.unusedSimpArgs false
set_option linter.unusedVariables false

/-- A slice (of elements of type e, sz cells each) whose cells are vs; what room it has lies in its own block. -/
structure Vec (h : Heap) (e sz : Nat) (a : Option Addr) (l c : Nat) (vs : List Value) : Prop where
  len : vs.length = l * sz
  le : l ≤ c
  sl : Sl h a vs
  room : c = 0 ∨ ∃ g o cur, a = some ⟨g, o, none⟩ ∧ Blk h g cur e ∧ o + c * sz ≤ cur.size
theorem Vec.nil (h : Heap) (e sz : Nat) : Vec h e sz none 0 0 [] := ⟨by simp, Nat.le_refl _, Sl.nil _ _, .inl rfl⟩
theorem Vec.mod {S : Nat → Prop} {h h' : Heap} {e sz l c : Nat} {a : Option Addr} {vs : List Value} (k : Vec h e sz a l c vs) (m : Mod S h h') (hn : ∀ b, ob a = some b → ¬ S b) : Vec h' e sz a l c vs :=
  ⟨k.len, k.le, k.sl.mod m hn, k.room.imp id fun ⟨g, o, cur, ha, hb, hc⟩ => ⟨g, o, cur, ha, hb.mod m (hn g (by subst ha; rfl)), hc⟩⟩
theorem Vec.ext {h h' : Heap} {e sz l c : Nat} {a : Option Addr} {vs : List Value} (k : Vec h e sz a l c vs) (m : Ext h h') : Vec h' e sz a l c vs := k.mod m fun _ _ h => h
theorem Vec.lt {h : Heap} {e sz l c : Nat} {a : Option Addr} {vs : List Value} (k : Vec h e sz a l c vs) (hc : 0 < c) : ∀ b, ob a = some b → b < h.size := fun b hb => by
  rcases k.room with h0 | ⟨g, o, cur, rfl, hB, _⟩
  · omega
  · simp [ob] at hb; subst hb; exact hB.lt
theorem Vec.at {h : Heap} {e sz l c g o : Nat} {cur : Array Value} {vs : List Value} (k : Vec h e sz (some ⟨g, o, none⟩) l c vs) (hb : Blk h g cur e) (j : Nat) (v : Value) (hj : vs[j]? = some v) : cur[o + j]? = some v := by
  obtain ⟨ad, h0, hc⟩ := k.sl j v hj
  cases h0
  rwa [add_plain, hb.cell] at hc
/-- A literal's row. -/
theorem Blk.vec {h : Heap} {g e sz l : Nat} {cur : Array Value} (k : Blk h g cur e) (hl : cur.size = l * sz) : Vec h e sz (some ⟨g, 0, none⟩) l l cur.toList :=
  ⟨by simp [hl], Nat.le_refl _, k.sl 0 fun j v hj => by simpa using hj, .inr ⟨g, 0, cur, rfl, k, by omega⟩⟩
theorem append_vec {P : Program} {t tx ty e : TypeId} {i : TypeInfo} {z : Value} {d : TypeDesc} (ht : P.underlying t = some (.slice e)) (htx : P.underlying tx = some d) (hd : ∀ k, d ≠ .int k)
    (hi : P.info? e = some i) (hz : i.zero = some z) (hzs : z.cells.size = i.size) (hb0 : 0 < i.bytes) {h : Heap} {x : Value} {n : Nat} {news : List Value} (src : Src P i.size h x n news)
    (hone : ∀ v ∈ news, oneC v = true) {a : Option Addr} {l c : Nat} {vs : List Value} (hv : Vec h e i.size a l c vs)
    (hbytes : (l + n) * i.bytes ≤ 140737488355328 ∨ (i.bytes = 1 ∧ l + n ≤ 140737488363520)) {R : KV}
    (k : ∀ a' c' h', Vec h' e i.size a' (l + n) c' (vs ++ news) → Mod (fun b => ob a = some b) h h' → (c' = c ∧ a' = a ∧ h'.size = h.size ∧ l + n ≤ c) ∨ (a' = some ⟨h.size, 0, none⟩ ∧ h'.size = h.size + 1 ∧ Ext h h' ∧ c < l + n ∧ c' < 9223372036854775808) → R (.slice a' (l + n) c') h') :
    RunsTo P (Builtin.append_ #[t, tx] ty #[.slice a l c, x]) h R := by
  have hlen : (vs ++ news).length = (l + n) * i.size := by rw [List.length_append, hv.len, src.length, Nat.add_mul]
  refine append_runs ht htx hd hi hz hb0 src hone hv.sl hv.len hv.le hbytes ?_ ?_ ?_
  · intro hfit hne
    have hc : c ≠ 0 := by
      intro h0
      have hn0 : n = 0 := by omega
      have h1 := src.length
      rw [hn0, Nat.zero_mul] at h1
      exact hne (List.eq_nil_of_length_eq_zero h1)
    rcases hv.room with h0 | ⟨g, o, cur, rfl, hB, hs⟩
    · exact absurd h0 hc
    · have hle : (l + n) * i.size ≤ c * i.size := Nat.mul_le_mul_right _ hfit
      refine ⟨g, o, cur, rfl, hB, by omega, fun h' hB' m s => ?_⟩
      refine k _ _ h' ⟨hlen, hfit, hB'.sl o fun j v hj => ?_, .inr ⟨g, o, _, rfl, hB', by rw [putAt_size]; exact hs⟩⟩ (m.mono fun b hb => .inl (by subst hb; rfl)) (.inl ⟨rfl, rfl, s, hfit⟩)
      rw [putAt_get news cur (o + l * i.size) (o + j) (by rw [src.length, Nat.add_assoc, ← Nat.add_mul]; omega)]
      rw [List.getElem?_append] at hj
      by_cases hjl : j < vs.length
      · rw [if_pos hjl] at hj
        rw [if_neg (by rw [hv.len] at hjl; omega)]
        exact hv.at hB j v hj
      · rw [if_neg hjl] at hj
        have := (List.getElem?_eq_some_iff.1 hj).1
        rw [hv.len] at hjl hj this
        rw [if_pos (by omega), show o + j - (o + l * i.size) = j - l * i.size by omega]
        exact hj
  · intro hfit hnil
    subst hnil
    have hnn : l + n = l ∨ i.size = 0 := by
      have h1 := src.length
      simp only [List.length_nil] at h1
      rcases Nat.eq_zero_or_pos i.size with h2 | h2
      · exact .inr h2
      · rcases Nat.eq_zero_or_pos n with h3 | h3
        · exact .inl (by omega)
        · exact absurd h1 (Nat.ne_of_lt (Nat.mul_pos h3 h2))
    refine k a c h ⟨hlen, hfit, by rw [List.append_nil]; exact hv.sl, hv.room⟩ (.refl _ _) (.inl ⟨rfl, rfl, rfl, hfit⟩)
  · intro hg c' h' hc' hcb hB m s
    refine k _ c' h' ⟨hlen, hc', hB.sl 0 fun j v hj => ?_, .inr ⟨h.size, 0, _, rfl, hB, ?_⟩⟩ (m.mono fun _ h => h.elim) (.inr ⟨rfl, s, m, hg, hcb⟩)
    · rw [Nat.zero_add]
      have hj1 := (List.getElem?_eq_some_iff.1 hj).1
      rw [Array.getElem?_append_left (by simpa using hj1)]
      simpa using hj
    · simp only [Array.size_append, List.size_toArray, hv.len, src.length, Builtin.zeroCells, Array.size_map, Array.size_range, hzs]
      rw [Nat.zero_add, ← Nat.add_mul, ← Nat.add_mul]
      exact Nat.le_of_eq (by congr 1; omega)
end Go.VC
