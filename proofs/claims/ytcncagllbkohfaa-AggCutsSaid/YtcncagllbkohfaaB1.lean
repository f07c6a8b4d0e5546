/- Package agg: AggLast answers true. Conditions: none. -/
import Derived.Test.YtcncagllbkohfaaA9
namespace Go.Proofs.Ytcncagllbkohfaa.F
open Go Go.VC Go.Proofs
set_option linter.unusedSimpArgs false
set_option linter.unusedVariables false
set_option maxRecDepth 100000
attribute [local irreducible] CallsH RunsTo PureTo

theorem app_int {h : Heap} {a : Option Addr} {l c : Nat} {ns : List Int} {n : Int} {b : Nat} {R : KV} (hv : Vec h 2 1 a l c (ints ns)) (hB : Blk h b #[.int .i64 n] 2) (hl : l < 17592186044416)
    (k : ∀ a' c' h', Vec h' 2 1 a' (l + 1) c' (ints (ns ++ [n])) → Mod (fun b => ob a = some b) h h' → (∀ x, ob a' = some x → ob a = some x ∨ h.size ≤ x) → (∀ x, ob a' = some x → x < h'.size) → R (.slice a' (l + 1) c') h') :
    RunsTo Try.prog (Builtin.append_ #[26, 26] 26 #[.slice a l c, .slice (some ⟨b, 0, none⟩) 1 1]) h R := by
  have src : Src Try.prog 1 h (.slice (some ⟨b, 0, none⟩) 1 1) 1 [.int .i64 n] := Src.slice (hB.sl 0 fun j v hj => by simpa using hj) rfl
  refine append_vec' (P := Try.prog) (sz := 1) (d := .slice 2) (by kernel_rfl) (by kernel_rfl) (by intro k; simp) (z := .int .i64 0) (bt := 8) (by kernel_rfl) rfl (by omega) src (by simp [oneC]) hv (by omega) fun a' c' h3 hv' hm hcase => ?_
  refine k a' c' h3 (by simpa [ints] using hv') hm (fun x hx => ?_) fun x hx => hv'.lt (Nat.lt_of_lt_of_le (Nat.succ_pos l) hv'.le) x hx
  rcases hcase with ⟨_, rfl, _⟩ | ⟨rfl, _⟩
  · exact .inl hx
  · right
    simp [ob] at hx; omega
theorem tail_int {h : Heap} {e : Nat} {a : Option Addr} {l c : Nat} {v : Value} {vs : List Value} {K : Option Addr → Nat → Nat → Prop} (hv : Vec h e 1 a l c (v :: vs))
    (k : ∀ a', ob a' = ob a → Vec h e 1 a' (l - 1) (c - 1) vs → K a' (l - 1) (c - 1)) : VSlice 1 a c 1 (l : Int) (c : Int) K := by
  have h1 := hv.len
  have h2 := hv.le
  simp only [List.length_cons, Nat.mul_one] at h1
  refine ⟨1, l, c, rfl, rfl, rfl, by omega, h2, Nat.le_refl _, k _ ?_ ⟨by omega, by omega, ?_, ?_⟩⟩
  · split
    · rfl
    · cases a with
      | none => rfl
      | some x => simp [ob, add_block]
  · intro j w hj
    obtain ⟨ad, rfl, hc⟩ := hv.sl (j + 1) w (by simpa using hj)
    split
    · rename_i hc1
      have := (List.getElem?_eq_some_iff.1 hj).1
      omega
    · refine ⟨ad.add (1 * 1), rfl, ?_⟩
      rw [show (ad.add (1 * 1)).add j = ad.add (j + 1) by unfold Addr.add; cases j <;> simp; omega]
      exact hc
  · rcases hv.room with h0 | ⟨g, o, cur, rfl, hB, hs⟩
    · exact .inl (by omega)
    · by_cases hc1 : c = 1
      · exact .inl (by omega)
      · right
        rw [if_neg hc1]
        exact ⟨g, o + 1, cur, by simp [Addr.add], hB, by omega⟩

/-- The law's own state: a sliding row, and a slice. -/
structure St (h hh : Heap) (b : Nat) (sz : Int) (p : Option Addr) (l c : Nat) (hs hp : List Int) (T : Nat → Prop) : Prop where
  sl : SL hh b sz hs T
  vec : Vec hh 2 1 p l c (ints hp)
  new : ∀ z, T z → h.size ≤ z
  newp : ∀ z, ob p = some z → h.size ≤ z ∧ ¬ T z ∧ z < hh.size
  ext : Ext h hh
def StE (h hh : Heap) (b : Nat) (sz : Int) (p : Option Addr) (l c : Nat) (hs hp : List Int) : Prop := ∃ T, St h hh b sz p l c hs hp T
variable {h hh : Heap} {b : Nat} {sz : Int} {p : Option Addr} {l c : Nat} {hs hp : List Int}
theorem StE.next {h' : Heap} (k : StE h hh b sz p l c hs hp) (m : Ext hh h') : StE h h' b sz p l c hs hp := by
  obtain ⟨T, k⟩ := k
  exact ⟨T, k.sl.ext m, k.vec.ext m, k.new, fun z hz => ⟨(k.newp z hz).1, (k.newp z hz).2.1, Nat.lt_of_lt_of_le (k.newp z hz).2.2 m.size⟩, k.ext.then m⟩
theorem St.left {T : Nat → Prop} {h' : Heap} {hs' : List Int} (k : St h hh b sz p l c hs hp T) (m : SLeft hh b sz hs' T h') : StE h h' b sz p l c hs' hp := by
  obtain ⟨m1, m2⟩ := m
  refine ⟨_, m1, k.vec.mod m2 fun z hz ht => (k.newp z hz).2.1 ht, ?_, fun z hz => ⟨(k.newp z hz).1, ?_, Nat.lt_of_lt_of_le (k.newp z hz).2.2 m2.size⟩, k.ext.trans m2 fun z hz => .inr (k.new z hz)⟩
  · rintro z (hz | hz)
    · exact k.new z hz
    · have := k.ext.size; omega
  · rintro (ht | ht)
    · exact (k.newp z hz).2.1 ht
    · have := (k.newp z hz).2.2; omega
theorem st_push (k : StE h hh b sz p l c hs hp) (n : Int) : CallsH Try.prog 15 #[.pointer (some ⟨b, 0, none⟩), .int .i64 n] hh fun v h' => v = .tuple #[] ∧ StE h h' b sz p l c (pushH sz hs n) hp := by
  obtain ⟨T, k⟩ := k
  exact CallsH.mono (sl_push k.sl n) fun _ _ ⟨e, m⟩ => ⟨e, k.left m⟩
theorem st_pop (k : StE h hh b sz p l c hs hp) : CallsH Try.prog 16 #[.pointer (some ⟨b, 0, none⟩)] hh fun v h' => v = .int .i64 (if hs = [] then 3 else 0) ∧ StE h h' b sz p l c hs.tail hp := by
  obtain ⟨T, k⟩ := k
  exact CallsH.mono (sl_pop k.sl) fun _ _ ⟨e, m⟩ => ⟨e, k.left m⟩
theorem st_acc (k : StE h hh b sz p l c hs hp) : CallsH Try.prog 17 #[.pointer (some ⟨b, 0, none⟩)] hh fun v h' => v = (plainA hs).v ∧ StE h h' b sz p l c hs hp := by
  obtain ⟨T, k0⟩ := id k
  exact CallsH.mono (sl_acc k0.sl) fun _ _ ⟨e, m⟩ => ⟨e, k.next m⟩
theorem st_plain (k : StE h hh b sz p l c hs hp) (hl : l < 17592186044416) : CallsH Try.prog 10 #[.slice p l c] hh fun v h' => v = (plainA hp).v ∧ StE h h' b sz p l c hs hp := by
  obtain ⟨T, k0⟩ := id k
  have := k0.vec.len
  exact CallsH.mono (plain_spec hp p l c _ k0.vec.sl (by simpa [ints] using this) (by omega)) fun _ _ ⟨e, m⟩ => ⟨e, k.next m⟩
theorem st_app {R : KV} (k : StE h hh b sz p l c hs hp) (hl : l < 17592186044416) {n : Int} {b2 : Nat} (hB : Blk hh b2 #[.int .i64 n] 2)
    (K : ∀ a' c' h', StE h h' b sz a' (l + 1) c' hs (hp ++ [n]) → R (.slice a' (l + 1) c') h') : RunsTo Try.prog (Builtin.append_ #[26, 26] 26 #[.slice p l c, .slice (some ⟨b2, 0, none⟩) 1 1]) hh R := by
  obtain ⟨T, k⟩ := k
  refine app_int k.vec hB hl fun a' c' h' hv m hf hlt => K a' c' h' ⟨T, k.sl.mod m fun z hz hp => (k.newp z hp).2.1 hz, hv, k.new, fun z hz => ⟨?_, fun ht => ?_, hlt z hz⟩, k.ext.trans m fun z hz => .inr (k.newp z hz).1⟩
  · rcases hf z hz with h1 | h1
    · exact (k.newp z h1).1
    · have := k.ext.size; omega
  · rcases hf z hz with h1 | h1
    · exact (k.newp z h1).2.1 ht
    · have := k.sl.lt z ht; omega
theorem st_tail {K : Option Addr → Nat → Nat → Prop} (k : StE h hh b sz p l c hs hp) (hne : hp ≠ []) (c' : ∀ a', StE h hh b sz a' (l - 1) (c - 1) hs hp.tail → K a' (l - 1) (c - 1)) : VSlice 1 p c 1 (l : Int) (c : Int) K := by
  obtain ⟨n, r, rfl⟩ := List.exists_cons_of_ne_nil hne
  obtain ⟨T, k⟩ := k
  exact tail_int k.vec fun a' ha hv => c' a' ⟨T, k.sl, hv, k.new, fun z hz => k.newp z (ha ▸ hz), k.ext⟩
theorem st_len (k : StE h hh b sz p l c hs hp) : hp.length = l := by
  obtain ⟨T, k⟩ := k
  have := k.vec.len
  simpa [ints] using this
theorem st_sz (k : StE h hh b sz p l c hs hp) : newP sz ∧ (hs.length : Int) ≤ sz := by
  obtain ⟨T, ⟨x, y, _, _, h1, h2⟩, _⟩ := k
  exact ⟨h1, h2⟩
theorem st_ext (k : StE h hh b sz p l c hs hp) : Ext h hh := k.elim fun _ k => k.ext

theorem begun_spec (h : Heap) : CallsH Try.prog 6 #[] h fun v h' => v = .bool true ∧ Ext h h' := by
  refine vf6 h _ ?_
  unfold F6
  refine CallsH.mono (sl_new 2 h) ?_
  rintro _ h1 (⟨hn, _⟩ | ⟨hn, b, rfl, k1, m1, hb⟩)
  · exact absurd hn (by unfold newP; omega)
  have k : StE h h1 b 2 none 0 0 [] [] := ⟨_, k1, Vec.nil _ _ _, fun z hz => by omega, by simp [ob], m1⟩
  refine ⟨_, _, rfl, ?_⟩
  show cond false _ _
  refine cond_false rfl (cond_false rfl ?_)
  refine CallsH.mono (st_push k 5) ?_
  rintro _ h2 ⟨rfl, k⟩
  refine ⟨rfl, CallsH.mono (st_push k 3) ?_⟩
  rintro _ h3 ⟨rfl, k⟩
  refine ⟨rfl, CallsH.mono (st_push k 9) ?_⟩
  rintro _ h4 ⟨rfl, k⟩
  refine ⟨rfl, CallsH.mono (get_spec ⟨2, 5, 1, 4⟩ 3 _) ?_⟩
  rintro _ h5 ⟨rfl, m⟩
  replace k := k.next m
  refine ⟨_, _, rfl, CallsH.mono (st_acc k) ?_⟩
  rintro _ h6 ⟨rfl, k⟩
  refine ⟨_, _, _, _, rfl, ?_⟩
  have e1 : plainA (pushH 2 (pushH 2 (pushH 2 [] 5) 3) 9) = ⟨2, 12, 3, 9⟩ := by decide +kernel
  rw [e1]
  refine acc_eql (a := ⟨2, 12, 3, 9⟩) (b := ⟨2, 12, 3, 9⟩) ⟨_, rfl, cond_true rfl ?_⟩
  refine VNew.mk fun b2 h7 hb2 hB2 m2 _ => ?_
  refine CallsH.mono (add_spec .z [3, -1] (some ⟨b2, 0, none⟩) 2 2 _ (hB2.sl 0 fun j v hj => by simpa [ints] using hj) rfl (by omega)) ?_
  rintro _ h8 ⟨rfl, m3⟩
  refine ⟨_, _, _, _, rfl, ?_⟩
  have e2 : addS .z [3, -1] = ⟨2, 2, -1, 3⟩ := by decide +kernel
  rw [e2]
  refine acc_eql (a := ⟨2, 2, -1, 3⟩) (b := ⟨2, 2, -1, 3⟩) ⟨_, rfl, cond_true rfl ?_⟩
  have e3 : getS ⟨2, 5, 1, 4⟩ 3 = (1, true) := by decide +kernel
  rw [e3]
  exact cond_true rfl ⟨rfl, ((st_ext k).then m2).then m3⟩
end Go.Proofs.Ytcncagllbkohfaa.F
