/- Memory: indexing, sums, small lemmas for loops over slices. Conditions: none. -/
import Derived.Test.YtofaihacmoacjaaDoorM4
namespace Go.VC
open Go
set_option linter.unusedSimpArgs false
set_option linter.unusedVariables false

theorem wrap_id {n : Int} (h : -9223372036854775808 ≤ n) (h' : n < 9223372036854775808) : IntKind.i64.wrap n = n := by
  simp only [IntKind.wrap, IntKind.signed, IntKind.bits, IntKind.min, IntKind.max]
  simp
  omega
theorem wrap_nat {k m : Nat} (h : k < m) (h' : m < 9223372036854775808) : IntKind.i64.wrap ((k : Int) + 1) = ((k + 1 : Nat) : Int) := by
  rw [wrap_id (by omega) (by omega)]; omega
def ints (ns : List Int) : List Value := ns.map (.int .i64)
/-- One element of a row of elements of sz cells. -/
theorem Sl.idx {h : Heap} {a : Option Addr} {vs : List Value} {sz l : Nat} {i : Int} {K : Addr → Prop} (k : Sl h a vs) (hl : vs.length = l * sz) (hs : 0 < sz) (h0 : 0 ≤ i) (hi : i < l)
    (c : ∀ b, ob a = some b → ∀ ad : Addr, ad.block = b → (∀ p, a = some p → ad = p.add (i.toNat * sz)) → K ad) : VIdx a l i sz K := by
  refine ⟨h0, hi, ?_⟩
  have hlt : i.toNat * sz < vs.length := by
    rw [hl]; exact Nat.mul_lt_mul_of_pos_right (by omega) hs
  obtain ⟨ad, rfl, hc⟩ := k (i.toNat * sz) _ (List.getElem?_eq_getElem hlt)
  exact c _ rfl _ (add_block _ _) fun p hp => by cases hp; rfl
theorem Sl.int {h h1 : Heap} {a : Option Addr} {ns : List Int} {i : Int} {l : Nat} {K : Addr → Prop} (k : Sl h a (ints ns)) (m : Ext h h1) (hl : ns.length = l) (h0 : 0 ≤ i) (hi : i < l)
    (c : ∀ ad n, ns[i.toNat]? = some n → cellH h1 ad = some (.int .i64 n) → K ad) : VIdx a l i 1 K := by
  refine ⟨h0, hi, ?_⟩
  have hlt : i.toNat < ns.length := by omega
  have hg : (ints ns)[i.toNat]? = some (.int .i64 ns[i.toNat]) := by simp [ints, hlt]
  obtain ⟨ad, rfl, hc⟩ := (k.ext m) i.toNat _ hg
  exact c _ _ (List.getElem?_eq_getElem hlt) (by rw [Nat.mul_one]; exact hc)
theorem foldl_take {α β : Type} (f : β → α → β) (s : β) {ns : List α} {k : Nat} {n : α} (h : ns[k]? = some n) : (ns.take (k + 1)).foldl f s = f ((ns.take k).foldl f s) n := by
  rw [List.take_add_one, h]; simp
/-- One element of several cells. -/
theorem Sl.elem {h : Heap} {a : Option Addr} {vs : List Value} {sz l : Nat} {i : Int} {K : Addr → Prop} (k : Sl h a vs) (hl : vs.length = l * sz) (hs : 0 < sz) (h0 : 0 ≤ i) (hi : i < l)
    (c : ∀ ad : Addr, ob a = some ad.block → (∀ r v, vs[i.toNat * sz + r]? = some v → cellH h (addN ad r) = some v) → K ad) : VIdx a l i sz K := by
  refine ⟨h0, hi, ?_⟩
  have hlt : i.toNat * sz < vs.length := by
    rw [hl]; exact Nat.mul_lt_mul_of_pos_right (by omega) hs
  obtain ⟨ad, rfl, hc⟩ := k (i.toNat * sz) _ (List.getElem?_eq_getElem hlt)
  refine c (ad.add (i.toNat * sz)) (by rw [add_block]; rfl) fun r v hr => ?_
  obtain ⟨ad', h1, h2⟩ := k _ _ hr
  cases h1
  rw [← addN_eq]
  rw [show (ad.add (i.toNat * sz)).add r = ad.add (i.toNat * sz + r) by
    unfold Addr.add
    by_cases h5 : i.toNat * sz = 0 <;> by_cases h6 : r = 0 <;> simp [h5, h6, Nat.add_assoc]]
  exact h2
theorem flatMap_at {α : Type} {f : α → List Value} {sz : Nat} (hf : ∀ x, (f x).length = sz) : ∀ {l : List α} {i r : Nat} {x : α} {v : Value}, l[i]? = some x → (f x)[r]? = some v → (l.flatMap f)[i * sz + r]? = some v
  | [], i, r, x, v, h, _ => by simp at h
  | y :: l, i, r, x, v, h, hr => by
    rw [List.flatMap_cons, List.getElem?_append]
    cases i with
    | zero =>
      simp at h; subst h
      have := (List.getElem?_eq_some_iff.1 hr).1
      rw [if_pos (by omega)]; simpa using hr
    | succ i =>
      rw [if_neg (by rw [Nat.succ_mul, hf]; omega), show (i + 1) * sz + r - (f y).length = i * sz + r by rw [Nat.succ_mul, hf]; omega]
      exact flatMap_at hf (by simpa using h) hr
theorem flatMap_len {α : Type} {f : α → List Value} {sz : Nat} (hf : ∀ x, (f x).length = sz) : ∀ l : List α, (l.flatMap f).length = l.length * sz
  | [] => by simp
  | y :: l => by rw [List.flatMap_cons, List.length_append, hf, flatMap_len hf l, List.length_cons, Nat.succ_mul]; omega
theorem append_vec' {P : Program} {t tx ty e : TypeId} {z : Value} {sz bt : Nat} {d : TypeDesc} (ht : P.underlying t = some (.slice e)) (htx : P.underlying tx = some d) (hd : ∀ k, d ≠ .int k)
    (hi : (P.info? e).map (fun i => (i.zero, i.size, i.bytes)) = some (some z, sz, bt)) (hzs : z.cells.size = sz) (hb0 : 0 < bt) {h : Heap} {x : Value} {n : Nat} {news : List Value} (src : Src P sz h x n news)
    (hone : ∀ v ∈ news, oneC v = true) {a : Option Addr} {l c : Nat} {vs : List Value} (hv : Vec h e sz a l c vs)
    (hbytes : (l + n) * bt ≤ 140737488355328 ∨ (bt = 1 ∧ l + n ≤ 140737488363520)) {R : KV}
    (k : ∀ a' c' h', Vec h' e sz a' (l + n) c' (vs ++ news) → Mod (fun b => ob a = some b) h h' → (c' = c ∧ a' = a ∧ h'.size = h.size ∧ l + n ≤ c) ∨ (a' = some ⟨h.size, 0, none⟩ ∧ h'.size = h.size + 1 ∧ Ext h h' ∧ c < l + n ∧ c' < 9223372036854775808) → R (.slice a' (l + n) c') h') :
    RunsTo P (Builtin.append_ #[t, tx] ty #[.slice a l c, x]) h R := by
  cases hi' : P.info? e with
  | none => rw [hi'] at hi; cases hi
  | some i =>
    rw [hi'] at hi
    simp only [Option.map_some, Option.some.injEq, Prod.mk.injEq] at hi
    obtain ⟨e1, rfl, rfl⟩ := hi
    exact append_vec ht htx hd hi' e1 hzs hb0 src hone hv hbytes k
theorem CallsH.run {P : Program} {f : FuncId} {args : Array Value} {R : KV} {w : World} (k : CallsH P f args w.heap R) : Calls P f args w fun e w' => ∃ v, e = .returned v ∧ Rest w w' ∧ R v w'.heap := k w rfl
theorem ints_len (ns : List Int) : (ints ns).length = ns.length := by simp [ints]
/-- A part of a slice of integers. -/
theorem Sl.cut {h : Heap} {p : Option Addr} {ns : List Int} (hs : Sl h p (ints ns)) {l c lo hi : Nat} (hl : ns.length = l) (hlc : l ≤ c) (h1 : lo ≤ hi) (h2 : hi ≤ l) {x y : Int} (hx : x = lo) (hy : y = hi) {K : Option Addr → Nat → Nat → Prop}
    (k : ∀ a', Sl h a' (ints ((ns.take hi).drop lo)) → ((ns.take hi).drop lo).length = hi - lo → K a' (hi - lo) (c - lo)) : VSlice 1 p c x y (c : Int) K := by
  refine ⟨lo, hi, c, hx, hy, rfl, h1, by omega, Nat.le_refl _, k _ (fun j v hj => ?_) (by simp; omega)⟩
  have hj' := hj
  simp only [ints, List.getElem?_map] at hj
  obtain ⟨n, hn, rfl⟩ := Option.map_eq_some_iff.1 hj
  rw [List.getElem?_drop, List.getElem?_take] at hn
  split at hn
  · obtain ⟨ad, rfl, hc⟩ := hs (lo + j) (.int .i64 n) (by simp [ints, hn])
    have hlt := (List.getElem?_eq_some_iff.1 hn).1
    rw [if_neg (by omega)]
    refine ⟨ad.add (lo * 1), rfl, ?_⟩
    rw [show (ad.add (lo * 1)).add j = ad.add (lo + j) by
      unfold Addr.add
      by_cases h5 : lo = 0 <;> by_cases h6 : j = 0 <;> simp [h5, h6, Nat.add_assoc]]
    exact hc
  · cases hn
/-- Own blocks, and beside them a slice that the call itself grows. -/
structure VL (h hh : Heap) (L : List (Nat × Array Value × Nat)) (e sz : Nat) (p : Option Addr) (l c : Nat) (vs : List Value) : Prop where
  own : Lcl h hh L
  vec : Vec hh e sz p l c vs
  new : ∀ z, ob p = some z → h.size ≤ z ∧ (∀ x ∈ L, x.1 ≠ z) ∧ z < hh.size
variable {h hh : Heap} {L : List (Nat × Array Value × Nat)} {e sz l c : Nat} {p : Option Addr} {vs : List Value}
theorem VL.start (k : Lcl h hh L) (e sz : Nat) : VL h hh L e sz none 0 0 [] := ⟨k, Vec.nil _ _ _, by simp [ob]⟩
theorem VL.next {h' : Heap} (k : VL h hh L e sz p l c vs) (m : Ext hh h') : VL h h' L e sz p l c vs :=
  ⟨k.own.next m, k.vec.ext m, fun z hz => ⟨(k.new z hz).1, (k.new z hz).2.1, Nat.lt_of_lt_of_le (k.new z hz).2.2 m.size⟩⟩
theorem VL.vnew {cs : Array Value} {t : Nat} {K : Nat → Heap → Prop} (k : VL h hh L e sz p l c vs) (q : ∀ b h1, VL h h1 ((b, cs, t) :: L) e sz p l c vs → K b h1) : VNew hh (.cells cs t) K :=
  VNew.mk fun b h1 hb hB m _ => q b h1 ⟨k.own.alloc hb hB m, k.vec.ext m, fun z hz => ⟨(k.new z hz).1, fun x hx => by
    rcases List.mem_cons.1 hx with rfl | hx
    · have := (k.new z hz).2.2; simp only; omega
    · exact (k.new z hz).2.1 x hx, Nat.lt_of_lt_of_le (k.new z hz).2.2 m.size⟩⟩
theorem VL.tail {x : Nat × Array Value × Nat} (k : VL h hh (x :: L) e sz p l c vs) : VL h hh L e sz p l c vs :=
  ⟨⟨k.own.ext, fun y hy => k.own.blk y (List.mem_cons_of_mem _ hy), fun y hy => k.own.new y (List.mem_cons_of_mem _ hy), (List.nodup_cons.1 k.own.once).2⟩, k.vec, fun z hz => ⟨(k.new z hz).1, fun y hy => (k.new z hz).2.1 y (List.mem_cons_of_mem _ hy), (k.new z hz).2.2⟩⟩
theorem VL.grown {h' : Heap} {a' : Option Addr} {l' c' : Nat} {vs' : List Value} (k : VL h hh L e sz p l c vs) (hv : Vec h' e sz a' l' c' vs') (m : Mod (fun b => ob p = some b) hh h')
    (hf : ∀ x, ob a' = some x → ob p = some x ∨ hh.size ≤ x) (hlt : ∀ x, ob a' = some x → x < h'.size) : VL h h' L e sz a' l' c' vs' :=
  ⟨k.own.other m (fun z hz => .inr (k.new z hz).1) fun x hx hz => (k.new _ hz).2.1 x hx rfl, hv, fun z hz => ⟨by
    rcases hf z hz with h1 | h1
    · exact (k.new z h1).1
    · have := k.own.ext.size; omega, fun x hx e => by
    rcases hf z hz with h1 | h1
    · exact (k.new z h1).2.1 x hx e
    · have := (k.own.blk x hx).lt; omega, hlt z hz⟩⟩
end Go.VC
