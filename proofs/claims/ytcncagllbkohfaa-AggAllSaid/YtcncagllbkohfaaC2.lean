/- The document's sliding row. Conditions: none. -/
import Derived.Test.YtcncagllbkohfaaC1
namespace Go.Proofs.Ytcncagllbkohfaa.F
open Go Go.VC Go.Proofs
set_option linter.unusedSimpArgs false
set_option linter.unusedVariables false
set_option maxRecDepth 100000
attribute [local irreducible] CallsH RunsTo PureTo

structure SRc (h : Heap) (b : Nat) (sz : Int) (held : List Int) (S : Nat → Prop) (a : Option Addr) (l c : Nat) : Prop where
  blk : Blk h b #[.int .i64 sz, .slice a l c] 76
  vec : Vec h 2 1 a l c (ints held)
  apart : ob a ≠ some b
  in0 : S b
  in1 : ∀ z, ob a = some z → S z
  lt : ∀ z, S z → z < h.size
/-- The document's row that holds these numbers. -/
def SR (h : Heap) (b : Nat) (sz : Int) (held : List Int) (S : Nat → Prop) : Prop := (∃ a l c, SRc h b sz held S a l c) ∧ newP sz ∧ (held.length : Int) ≤ sz
def SRL (h : Heap) (b : Nat) (sz : Int) (held : List Int) (S : Nat → Prop) (h' : Heap) : Prop := SR h' b sz held (grow S h h') ∧ Mod S h h'
theorem SRc.mod {S T : Nat → Prop} {h h' : Heap} {b : Nat} {sz : Int} {held : List Int} {a : Option Addr} {l c : Nat} (k : SRc h b sz held S a l c) (m : Mod T h h') (hd : ∀ z, S z → ¬ T z) : SRc h' b sz held S a l c :=
  ⟨k.blk.mod m (hd _ k.in0), k.vec.mod m fun z hz => hd z (k.in1 z hz), k.apart, k.in0, k.in1, fun z hz => Nat.lt_of_lt_of_le (k.lt z hz) m.size⟩
theorem SR.mod {S T : Nat → Prop} {h h' : Heap} {b : Nat} {sz : Int} {held : List Int} (k : SR h b sz held S) (m : Mod T h h') (hd : ∀ z, S z → ¬ T z) : SR h' b sz held S := by
  obtain ⟨⟨a, l, c, k⟩, w⟩ := k
  exact ⟨⟨a, l, c, k.mod m hd⟩, w⟩
theorem SR.lt {S : Nat → Prop} {h : Heap} {b : Nat} {sz : Int} {held : List Int} (k : SR h b sz held S) : ∀ z, S z → z < h.size := by
  obtain ⟨⟨a, l, c, k⟩, w⟩ := k
  exact k.lt
/-- Its slice written anew. -/
theorem SRc.put {S : Nat → Prop} {h : Heap} {b : Nat} {sz : Int} {held held' : List Int} {a a' : Option Addr} {l c l' c' : Nat} {K : Heap → Prop} (k : SRc h b sz held S a l c) (hv : Vec h 2 1 a' l' c' (ints held')) (h1 : ob a' ≠ some b) (h2 : ∀ z, ob a' = some z → S z)
    (q : ∀ h', SRc h' b sz held' S a' l' c' → Mod S h h' → h'.size = h.size → K h') : VStore h ⟨b, 1, none⟩ (.slice a' l' c') K :=
  VStore.mk k.blk (by simp) fun h' hB m s => q h' ⟨hB, hv.mod m fun z hz e => h1 (e ▸ hz), h1, k.in0, h2, fun z hz => by rw [s]; exact k.lt z hz⟩ (m.mono fun z hz => .inl (hz ▸ k.in0)) s
theorem SRc.wide {S T : Nat → Prop} {h : Heap} {b : Nat} {sz : Int} {held : List Int} {a : Option Addr} {l c : Nat} (k : SRc h b sz held S a l c) (hs : ∀ z, S z → T z) (hl : ∀ z, T z → z < h.size) : SRc h b sz held T a l c :=
  ⟨k.blk, k.vec, k.apart, hs _ k.in0, fun z hz => hs z (k.in1 z hz), hl⟩
theorem rnew_spec (sz : Int) (h : Heap) : CallsH Try.prog 18 #[.int .i64 sz] h fun v h' =>
    (¬ newP sz ∧ v = .tuple #[.pointer none, .int .i64 1] ∧ h' = h) ∨
    (newP sz ∧ ∃ b, v = .tuple #[.pointer (some ⟨b, 0, none⟩), .int .i64 0] ∧ SR h' b sz [] (fun z => z = b) ∧ Ext h h' ∧ h.size ≤ b) := by
  refine vf18 _ h _ ?_
  unfold F18
  refine cond_split (fun hc => ?_) (fun hc => ?_)
  · exact .inl ⟨by have : sz < 1 := by simpa using hc
                   unfold newP; omega, rfl, rfl⟩
  refine cond_split (fun hd => ?_) (fun hd => ?_)
  · exact .inl ⟨by have : sz > 4096 := by simpa using hd
                   unfold newP; omega, rfl, rfl⟩
  have h1 : ¬ sz < 1 := by simpa using hc
  have h2 : ¬ sz > 4096 := by simpa using hd
  refine VNew.mk fun b h1 hb hB m s => .inr ⟨?_, b, rfl, ⟨⟨none, 0, 0, hB, Vec.nil _ _ _, by simp [ob], rfl, by simp [ob], fun z hz => by subst hz; exact hB.lt⟩, ?_, ?_⟩, m, by omega⟩
  · unfold newP; omega
  · unfold newP; omega
  · show (0 : Int) ≤ sz; omega
theorem rpush_spec {S : Nat → Prop} {h : Heap} {b : Nat} {sz : Int} {held : List Int} (k : SR h b sz held S) (n : Int) :
    CallsH Try.prog 24 #[.pointer (some ⟨b, 0, none⟩), .int .i64 n] h fun v h' => v = .tuple #[] ∧ SRL h b sz (pushH sz held n) S h' := by
  obtain ⟨⟨a, l, c, k⟩, hn, hle⟩ := k
  have hn1 := hn.1
  have hn2 := hn.2
  have hlen : held.length = l := by have := k.vec.len; simpa [ints] using this
  refine vf24 _ _ h _ ?_
  unfold F24
  refine ⟨fun h' => ∃ a1 l1 c1, SRc h' b sz (if (held.length : Int) = sz then held.tail else held) S a1 l1 c1 ∧ Mod S h h', VSome.mk ⟨_, _, _, by rw [k.blk.cell]; rfl, VSome.mk ⟨sz, by rw [k.blk.cell]; rfl, ?_⟩⟩, ?_⟩
  · refine cond_split (fun hc => ?_) (fun hc => ?_)
    · have hc' : (l : Int) ≥ sz := of_decide_eq_true hc
      rw [if_pos (by omega)]
      refine VSome.mk ⟨_, _, _, by rw [k.blk.cell]; rfl, ?_⟩
      obtain ⟨v, r, rfl⟩ : ∃ v r, held = v :: r := List.exists_cons_of_length_pos (by omega)
      refine tail_int k.vec fun a' ha hv => VSome.mk ?_
      refine k.put hv (by rw [ha]; exact k.apart) (fun z hz => k.in1 z (ha ▸ hz)) fun h' k' m s => ⟨_, _, _, k', m⟩
    · have hc' : ¬ (l : Int) ≥ sz := of_decide_eq_false hc
      rw [if_neg (by omega)]
      exact ⟨a, l, c, k, .refl _ _⟩
  rintro h1 _ ⟨a1, l1, c1, k1, m1⟩
  have hlen1 : (if (held.length : Int) = sz then held.tail else held).length = l1 := by have := k1.vec.len; simpa [ints] using this
  refine VSome.mk ⟨_, _, _, by rw [k1.blk.cell]; rfl, ?_⟩
  refine VNew.mk fun b2 h2 hb2 hB2 m2 s2 => ?_
  have k2 := k1.mod m2 fun _ _ => id
  have hl1 : l1 < 4294967296 := by
    rw [← hlen1]; split
    · rw [List.length_tail]; omega
    · omega
  refine app_int k2.vec hB2 (by omega) fun a' c' h3 hv m3 hf hlt => ⟨_, _, _, rfl, VSome.mk ?_⟩
  have hap : ob a' ≠ some b := fun e => by
    rcases hf b e with h | h
    · exact k2.apart h
    · have := k2.blk.lt; omega
  have m3' : Mod S h2 h3 := m3.mono fun z hz => .inl (k2.in1 z hz)
  have hB3 := k2.blk.mod m3 k2.apart
  refine VStore.mk hB3 (by simp) fun h4 hB4 m4 s4 => ?_
  have e : (if (held.length : Int) = sz then held.tail else held) ++ [n] = pushH sz held n := by unfold pushH; split <;> rfl
  rw [e] at hv
  have mm : Mod S h h4 := ((m1.then m2).trans m3' fun _ h => .inl h).trans m4 fun z hz => .inl (hz ▸ k.in0)
  refine ⟨rfl, ⟨⟨a', l1 + 1, c', hB4, hv.mod m4 fun z hz e => hap (hz.trans (congrArg some e)), hap, .inl k.in0, fun z hz => ?_, ?_⟩, hn, ?_⟩, mm⟩
  · rcases hf z hz with h | h
    · exact .inl (k2.in1 z h)
    · right
      have := hlt z hz
      have := m1.size
      have := m2.size
      omega
  · rintro z (hz | hz)
    · exact Nat.lt_of_lt_of_le (k.lt z hz) mm.size
    · exact hz.2
  · unfold pushH
    split
    · rw [List.length_append, List.length_tail]; simp only [List.length_cons, List.length_nil]; omega
    · rw [List.length_append]; simp only [List.length_cons, List.length_nil]; omega
theorem SRc.left {S : Nat → Prop} {h h' : Heap} {b : Nat} {sz : Int} {held : List Int} {a : Option Addr} {l c : Nat} (k : SRc h' b sz held S a l c) (hn : newP sz) (hle : (held.length : Int) ≤ sz) (m : Mod S h h') (hl : ∀ z, S z → z < h.size) : SRL h b sz held S h' :=
  ⟨⟨⟨a, l, c, k.wide (fun z hz => .inl hz) fun z hz => by
    rcases hz with hz | hz
    · exact k.lt z hz
    · exact hz.2⟩, hn, hle⟩, m⟩
theorem rpop_spec {S : Nat → Prop} {h : Heap} {b : Nat} {sz : Int} {held : List Int} (k : SR h b sz held S) :
    CallsH Try.prog 25 #[.pointer (some ⟨b, 0, none⟩)] h fun v h' => v = .int .i64 (if held = [] then 3 else 0) ∧ SRL h b sz held.tail S h' := by
  obtain ⟨⟨a, l, c, k⟩, hn, hle⟩ := k
  have hlen : held.length = l := by have := k.vec.len; simpa [ints] using this
  refine vf25 _ h _ ?_
  unfold F25
  refine VSome.mk ⟨_, _, _, by rw [k.blk.cell]; rfl, ?_⟩
  refine cond_split (fun hc => ?_) (fun hc => ?_)
  · have hnil : held = [] := List.eq_nil_of_length_eq_zero (by rw [hlen]; simpa using hc)
    subst hnil
    exact ⟨rfl, k.left hn hle (.refl _ _) k.lt⟩
  · obtain ⟨v, r, rfl⟩ : ∃ v r, held = v :: r := List.exists_cons_of_ne_nil fun e => by
      subst e; simp only [List.length_nil] at hlen; subst hlen; cases hc
    refine VSome.mk ⟨_, _, _, by rw [k.blk.cell]; rfl, ?_⟩
    refine tail_int k.vec fun a' ha hv => VSome.mk ?_
    refine k.put hv (by rw [ha]; exact k.apart) (fun z hz => k.in1 z (ha ▸ hz)) fun h' k' m s => ⟨rfl, k'.left hn ?_ m k.lt⟩
    simp only [List.length_cons] at hle
    omega
theorem racc_spec {S : Nat → Prop} {h : Heap} {b : Nat} {sz : Int} {held : List Int} (k : SR h b sz held S) :
    CallsH Try.prog 26 #[.pointer (some ⟨b, 0, none⟩)] h fun v h' => v = (plainA held).v ∧ Ext h h' := by
  obtain ⟨⟨a, l, c, k⟩, hn, hle⟩ := k
  have hn2 := hn.2
  have hlen : held.length = l := by have := k.vec.len; simpa [ints] using this
  refine vf26 _ h _ ?_
  unfold F26
  have hO := Lcl.start h
  have h0 : cellH h ⟨b, 1, none⟩ = some (.slice a l c) := by rw [k.blk.cell]; rfl
  repeat' first
    | ((with_reducible show VNew _ _ _); refine Own.vnew hO fun _ _ _ hO2 => ?_; clear hO; have hO := hO2; clear hO2)
    | ((with_reducible show VSome _ _); refine VSome.mk ?_)
    | ((with_reducible show Exists _); refine ⟨_, Own.cell hO 0 (by rfl) (by rfl), ?_⟩)
    | ((with_reducible show storeL _ _ _ _ _); refine Own.vstoreAll hO 0 (by rfl) (by rfl) (by rfl) fun _ hO2 => ?_; clear hO; have hO := hO2; clear hO2)
    | ((with_reducible show VStore _ _ _ _); refine Own.vstore hO 0 (by rfl) (by simp) fun _ hO2 => ?_; clear hO; have hO := hO2; clear hO2)
    | ((with_reducible show And _ _); refine ⟨Own.cell hO 0 (by rfl) (by rfl), ?_⟩)
    | ((with_reducible show Exists _); refine ⟨_, _, _, Own.cell hO 0 (by rfl) (by rfl), ?_⟩)
    | ((with_reducible show And _ _); refine And.intro (And.intro (Own.cell hO 0 (by rfl) (by rfl)) ?_) ?_)
    | ((with_reducible show @Eq (Option Value) _ _); exact Own.cell hO 0 (by rfl) (by rfl))
    | ((with_reducible show Exists _); refine ⟨_, Own.old hO (by assumption) id, ?_⟩)
    | ((with_reducible show Exists _); refine ⟨_, _, _, Own.old hO (by assumption) id, ?_⟩)
    | ((with_reducible show And _ _); refine ⟨Own.old hO (by assumption) id, ?_⟩)
    | ((with_reducible show Exists _); refine ⟨_, Own.old hO (by assumption) (by assumption), ?_⟩)
    | ((with_reducible show Exists _); refine ⟨_, _, _, Own.old hO (by assumption) (by assumption), ?_⟩)
    | ((with_reducible show And _ _); refine ⟨Own.old hO (by assumption) (by assumption), ?_⟩)
    | ((with_reducible show CallsH _ _ _ _ _); refine CallsH.mono (radd_spec .z held _ _ _ _ (k.vec.sl.ext hO.ext) hlen (by omega)) ?_; rintro _ _ ⟨rfl, hm⟩; (first | refine ⟨rfl, ?_⟩ | refine ⟨_, rfl, ?_⟩ | refine ⟨_, _, rfl, ?_⟩ | refine ⟨_, _, _, _, rfl, ?_⟩ | refine ⟨_, _, _, _, _, rfl, ?_⟩ | refine ⟨_, _, _, _, _, _, rfl, ?_⟩); have hnx := Own.next hO hm; clear hm; clear hO; have hO := hnx; clear hnx)
    | fail
  rw [addS_z held (by omega)]
  exact ⟨rfl, hO.ext⟩
end Go.Proofs.Ytcncagllbkohfaa.F
