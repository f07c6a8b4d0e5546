/- The law's Hand: what is handed in at one place. Conditions: none. -/
import Derived.Test.YtcncagllbkohfaaC2
namespace Go.Proofs.Ytcncagllbkohfaa.F
open Go Go.VC Go.Proofs
set_option linter.unusedSimpArgs false
set_option linter.unusedVariables false
set_option maxRecDepth 100000
attribute [local irreducible] CallsH RunsTo PureTo IntKind.wrap

theorem front_addr (a : Option Addr) (c : Nat) : (if c = 0 then a else a.map (·.add (0 * 1))) = a := by
  split
  · rfl
  · cases a with
    | none => rfl
    | some x => simp [Addr.add]
theorem VSlice.front {a : Option Addr} {c hi : Nat} {x y : Int} (hx : x = 0) (hy : y = hi) (hc : hi ≤ c) {K : Option Addr → Nat → Nat → Prop} (k : K a hi c) : VSlice 1 a c x y (c : Int) K :=
  ⟨0, hi, c, hx, hy, rfl, Nat.zero_le _, hc, Nat.le_refl _, by rw [front_addr]; exact k⟩
theorem Sl.mod2 {S : Nat → Prop} {h h' : Heap} {a : Option Addr} {ns : List Int} (k : Sl h a (ints ns)) (m : Mod S h h') (hn : ns ≠ [] → ∀ b, ob a = some b → ¬ S b) : Sl h' a (ints ns) := by
  by_cases e : ns = []
  · subst e; exact Sl.nil _ _
  · exact k.mod m (hn e)
theorem Vec.front {h : Heap} {e : Nat} {a : Option Addr} {l c : Nat} {vs : List Value} (k : Vec h e 1 a l c vs) : Vec h e 1 a 0 c [] := ⟨by simp, by omega, Sl.nil _ _, k.room⟩
theorem Vec.full {h : Heap} {e : Nat} {a : Option Addr} {l c : Nat} {vs : List Value} (k : Vec h e 1 a l c vs) : ∃ vs', Vec h e 1 a c c vs' ∧ vs'.take l = vs := by
  rcases k.room with h0 | ⟨g, o, cur, rfl, hB, hs⟩
  · have hl : l = 0 := by have := k.le; omega
    have := k.len
    subst hl h0
    have e : vs = [] := List.eq_nil_of_length_eq_zero (by simpa using this)
    subst e
    exact ⟨[], k, rfl⟩
  · refine ⟨(cur.extract o (o + c)).toList, ⟨by simp; omega, Nat.le_refl _, hB.sl o fun j v hj => ?_, .inr ⟨g, o, cur, rfl, hB, hs⟩⟩, ?_⟩
    · simp only [Array.getElem?_toList, Array.getElem?_extract] at hj
      split at hj
      · exact hj
      · cases hj
    · apply List.ext_getElem?
      intro j
      rw [List.getElem?_take]
      have h1 := k.len
      have h2 := k.le
      split
      · rename_i hj
        obtain ⟨v, hv⟩ : ∃ v, vs[j]? = some v := ⟨_, List.getElem?_eq_getElem (by omega)⟩
        rw [hv, Array.getElem?_toList, Array.getElem?_extract, if_pos (by omega)]
        exact k.at hB j v hv
      · rename_i hj
        rw [List.getElem?_eq_none (by omega)]
theorem Vec.store {h : Heap} {e : Nat} {a : Option Addr} {l c : Nat} {vs : List Value} {i : Nat} {v : Value} {K : Heap → Prop} (k : Vec h e 1 a l c vs) (hi : i < l)
    (q : ∀ h1, Vec h1 e 1 a l c (vs.set i v) → Mod (fun b => ob a = some b) h h1 → h1.size = h.size → K h1) : VIdx a l (i : Int) 1 fun ad => VStore h ad v K := by
  have hl := k.len
  have hle := k.le
  rcases k.room with h0 | ⟨g, o, cur, rfl, hB, hs⟩
  · omega
  refine ⟨by omega, by omega, VSome.mk ?_⟩
  rw [Int.toNat_natCast, add_plain]
  refine VStore.mk hB (by omega) fun h1 hB1 m s => q h1 ⟨by rw [List.length_set]; exact hl, hle, hB1.sl o fun j w hj => ?_, .inr ⟨g, o, _, rfl, hB1, by simp; omega⟩⟩ (m.mono fun z hz => .inl (by subst hz; rfl)) s
  rw [Array.getElem?_setIfInBounds]
  rw [List.getElem?_set] at hj
  by_cases e1 : i = j
  · subst e1
    rw [if_pos rfl] at hj
    rw [if_pos (by omega), if_pos (by omega)]
    split at hj
    · exact hj
    · cases hj
  · rw [if_neg e1] at hj
    rw [if_neg (by omega)]
    exact k.at hB j w hj
theorem app_src {h : Heap} {a : Option Addr} {l c n : Nat} {vs news : List Value} {x : Value} {R : KV} (hv : Vec h 2 1 a l c vs) (src : Src Try.prog 1 h x n news) (hone : ∀ v ∈ news, oneC v = true) (hl : l + n ≤ 17592186044416)
    (k : ∀ a' c' h', Vec h' 2 1 a' (l + n) c' (vs ++ news) → Mod (fun b => ob a = some b) h h' → (c' = c ∧ a' = a ∧ h'.size = h.size ∧ l + n ≤ c) ∨ (a' = some ⟨h.size, 0, none⟩ ∧ h'.size = h.size + 1 ∧ Ext h h' ∧ c < l + n ∧ c' < 9223372036854775808) → R (.slice a' (l + n) c') h') :
    RunsTo Try.prog (Builtin.append_ #[26, 26] 26 #[.slice a l c, x]) h R :=
  append_vec' (P := Try.prog) (sz := 1) (d := .slice 2) (by kernel_rfl) (by kernel_rfl) (by intro k; simp) (z := .int .i64 0) (bt := 8) (by kernel_rfl) rfl (by omega) src hone hv (by omega) k
def marks (n m : Nat) : List Int := (List.range m).map fun j => w64 (77 + ((n + j : Nat) : Int))
theorem marks_snoc (n m : Nat) : marks n (m + 1) = marks n m ++ [w64 (77 + ((n + m : Nat) : Int))] := by
  unfold marks
  rw [List.range_succ]
  simp
structure HD (h : Heap) (b : Nat) (vs : List Value) (S : Nat → Prop) (a : Option Addr) (c : Nat) : Prop where
  blk : Blk h b #[.slice a c c] 28
  vec : Vec h 2 1 a c c vs
  apart : ob a ≠ some b
  in0 : S b
  in1 : ∀ z, ob a = some z → S z
  lt : ∀ z, S z → z < h.size
  cb : c < 9223372036854775808
theorem HD.mod {S T : Nat → Prop} {h h' : Heap} {b : Nat} {vs : List Value} {a : Option Addr} {c : Nat} (k : HD h b vs S a c) (m : Mod T h h') (hd : ∀ z, S z → ¬ T z) : HD h' b vs S a c :=
  ⟨k.blk.mod m (hd _ k.in0), k.vec.mod m fun z hz => hd z (k.in1 z hz), k.apart, k.in0, k.in1, fun z hz => Nat.lt_of_lt_of_le (k.lt z hz) m.size, k.cb⟩
theorem list_spec {h : Heap} {b : Nat} {vs : List Value} {S : Nat → Prop} {a : Option Addr} {c : Nat} (k : HD h b vs S a c) {p : Option Addr} {l cp : Nat} {ns : List Int} (hs : Sl h p (ints ns)) (hl : ns.length = l) (hb : l < 17592186043905) (hp : ns ≠ [] → ∀ z, ob p = some z → ¬ S z) :
    CallsH Try.prog 19 #[.pointer (some ⟨b, 0, none⟩), .slice p l cp] h fun v h' => ∃ a' m, v = .slice a' l (l + m) ∧ HD h' b (ints (ns ++ marks l m)) (grow S h h') a' (l + m) ∧ Mod S h h' := by
  refine vf19 _ _ _ _ h _ ?_
  unfold F19
  refine ⟨fun h' => ∃ a l0 c vs, Blk h' b #[.slice a l0 c] 28 ∧ Vec h' 2 1 a l0 c vs ∧ ob a ≠ some b ∧ (∀ z, ob a = some z → S z) ∧ Mod S h h' ∧ c < 9223372036854775808, VSome.mk ⟨_, _, _, by rw [k.blk.cell]; rfl, ?_⟩, ?_⟩
  · refine cond_split (fun hc => ?_) (fun hc => ?_)
    · exact VSome.mk (VStore.mk k.blk (by simp) fun h' hB m s => ⟨none, 0, 0, [], hB, Vec.nil _ _ _, by simp [ob], by simp [ob], m.mono fun z hz => .inl (hz ▸ k.in0), by omega⟩)
    · exact ⟨a, c, c, vs, k.blk, k.vec, k.apart, k.in1, .refl _ _, k.cb⟩
  rintro h1 _ ⟨a1, l1, c1, vs1, hB1, hv1, hap1, hin1, m1, hcb1⟩
  have hbl : b < h.size := k.lt _ k.in0
  refine VSome.mk ⟨_, _, _, by rw [hB1.cell]; rfl, ?_⟩
  refine VSlice.front rfl rfl (Nat.zero_le _) ?_
  have hs1 : Sl h1 p (ints ns) := Sl.mod2 hs m1 hp
  refine app_src (Vec.front hv1) (Src.slice hs1 (by simp [ints, hl])) (fun v hv => by obtain ⟨n, _, rfl⟩ := List.mem_map.1 hv; rfl) (by omega) fun a2 c2 h2 hv2 m2 hcase2 => ⟨_, _, _, rfl, ?_⟩
  have hf2 : ∀ z, ob a2 = some z → ob a1 = some z ∨ h1.size ≤ z := fun z hz => by
    rcases hcase2 with ⟨_, rfl, _⟩ | ⟨rfl, _⟩
    · exact .inl hz
    · right; simp [ob] at hz; omega
  have hlt2 : ∀ z, ob a2 = some z → z < h2.size := fun z hz => by
    rcases hcase2 with ⟨_, rfl, _⟩ | ⟨rfl, hsz, _⟩
    · exact Nat.lt_of_lt_of_le (Nat.lt_of_lt_of_le (k.lt z (hin1 z hz)) m1.size) m2.size
    · simp [ob] at hz; omega
  refine VNew.mk fun b3 h3 hb3 hB3 m3 s3 => ?_
  have src3 : Src Try.prog 1 h3 (.slice (some ⟨b3, 0, none⟩) 2 2) 2 [.int .i64 0, .int .i64 0] := Src.slice (hB3.sl 0 fun j v hj => by simpa using hj) rfl
  refine app_src (hv2.ext m3) src3 (by simp [oneC]) (by omega) fun a4 c4 h4 hv4 m4 hcase4 => ⟨_, _, _, rfl, ?_⟩
  have hf4 : ∀ z, ob a4 = some z → S z ∨ h.size ≤ z := fun z hz => by
    have e1 := m1.size
    have e2 := m2.size
    have e3 := m3.size
    rcases hcase4 with ⟨_, rfl, _⟩ | ⟨rfl, _⟩
    · rcases hf2 z hz with h | h
      · exact .inl (hin1 z h)
      · right; omega
    · right; simp [ob] at hz; omega
  have hc4 : 0 < c4 := by have := hv4.le; omega
  have hlt4 := hv4.lt hc4
  have hap4 : ob a4 ≠ some b := fun e => by
    have e1 := m1.size
    have e2 := m2.size
    have e3 := m3.size
    rcases hcase4 with ⟨_, rfl, _⟩ | ⟨rfl, _⟩
    · rcases hf2 b e with h | h
      · exact hap1 h
      · omega
    · simp [ob] at e; omega
  have mm : Mod S h h4 := ((m1.trans m2 fun z hz => .inl (hin1 z hz)).then m3).trans m4 fun z hz => by
    rcases hf2 z hz with h | h
    · exact .inl (hin1 z h)
    · right; have e1 := m1.size; omega
  have hB4 : Blk h4 b #[.slice a1 l1 c1] 28 := ((hB1.mod m2 hap1).ext m3).mod m4 fun e => by
    have e1 := m1.size
    rcases hf2 b e with h | h
    · exact hap1 h
    · omega
  have hcb4 : c4 < 9223372036854775808 := by
    rcases hcase4 with ⟨rfl, _⟩ | ⟨_, _, _, _, h⟩
    · rcases hcase2 with ⟨rfl, _⟩ | ⟨_, _, _, _, h⟩
      · exact hcb1
      · exact h
    · exact h
  clear hcase2 hcase4 hf2 hlt2 hv1 hv2 hs1 m1 m2 m3 m4 hB1 hB3
  refine VSlice.front rfl rfl (Nat.le_refl _) ?_
  obtain ⟨vs4, hv4f, htk⟩ := Vec.full hv4
  have hl4 : 0 + l + 2 ≤ c4 := hv4.le
  refine ⟨fun n hh i => ∃ (kk : Nat) (vs' : List Value), i = (kk : Int) ∧ l ≤ kk ∧ kk ≤ c4 ∧ n = c4 - kk ∧ Vec hh 2 1 a4 c4 c4 vs' ∧ vs'.take kk = ints (ns ++ marks l (kk - l)) ∧ Mod S h hh ∧ Blk hh b #[.slice a1 l1 c1] 28 ∧ hh.size = h4.size,
    ⟨_, l, vs4, rfl, Nat.le_refl _, by omega, rfl, hv4f, ?_, mm, hB4, rfl⟩, ?_⟩
  · have e0 : vs4.take l = ints ns := by
      have e1 : vs4.take l = (vs4.take (0 + l + 2)).take l := by rw [List.take_take, Nat.min_eq_left (by omega)]
      rw [e1, htk, List.nil_append, List.take_append_of_le_length (by rw [ints_len]; omega), List.take_of_length_le (by rw [ints_len]; omega)]
    rw [e0, Nat.sub_self]
    simp [marks]
  rintro n hh _ i ⟨kk, vs', rfl, hk1, hk2, rfl, hv, ht, m, hB, hsz⟩
  refine cond_split (fun hc => ?_) (fun hc => ?_)
  · have hkl : kk < c4 := by simpa using hc
    refine Vec.store hv hkl fun h5 hv5 m5 s5 => ⟨_, ?_, kk + 1, _, wrap_nat hkl hcb4, by omega, by omega, rfl, hv5, ?_, m.trans m5 fun z hz => hf4 z hz, hB.mod m5 hap4, by omega⟩
    · omega
    · have e1 : kk + 1 - l = (kk - l) + 1 := by omega
      rw [e1, marks_snoc, List.take_add_one, List.take_set_of_le (Nat.le_refl _), ht]
      have hlen := hv.len
      rw [List.getElem?_set_self (by omega), ← List.append_assoc]
      have e2 : l + (kk - l) = kk := by omega
      rw [e2]
      simp only [ints, List.map_append, List.map_cons, List.map_nil]
      rfl
  · have hkl : kk = c4 := by
      have : ¬ kk < c4 := by simpa using hc
      omega
    subst hkl
    refine VSome.mk (VStore.mk hB (by simp) fun h5 hB5 m5 s5 => VSlice.front rfl rfl (by omega) ?_)
    have hv5 := hv.mod m5 fun z hz e => hap4 (hz.trans (congrArg some e))
    have e1 : kk = l + (kk - l) := by omega
    have hvs : vs' = ints (ns ++ marks l (kk - l)) := by
      rw [← ht, List.take_of_length_le (by have := hv.len; omega)]
    rw [hvs] at hv5
    have hM : Mod S h h5 := m.trans m5 fun z hz => .inl (hz ▸ k.in0)
    refine ⟨a4, kk - l, by rw [← e1], ⟨?_, ?_, hap4, .inl k.in0, fun z hz => ?_, ?_, ?_⟩, hM⟩
    · rw [← e1]; exact hB5
    · rw [← e1]; exact hv5
    · rcases hf4 z hz with h | h
      · exact .inl h
      · right; have := hlt4 z hz; omega
    · rintro z (hz | hz)
      · exact Nat.lt_of_lt_of_le (k.lt z hz) hM.size
      · exact hz.2
    · rw [← e1]; exact hcb4
end Go.Proofs.Ytcncagllbkohfaa.F
