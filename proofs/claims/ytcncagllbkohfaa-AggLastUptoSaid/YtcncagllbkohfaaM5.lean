/- Memory: indexing, sums, small lemmas for loops over slices. Conditions: none. -/
import Derived.Test.YtcncagllbkohfaaM4
namespace Go.VC
open Go
set_option linter.unusedSimpArgs false
set_option linter.unusedVariables false

theorem wrap_id {n : Int} (h : -9223372036854775808 ≤ n) (h' : n < 9223372036854775808) : IntKind.i64.wrap n = n := by
  simp only [IntKind.wrap, IntKind.signed, IntKind.bits, IntKind.min, IntKind.max]
  simp
  omega
theorem wrap_nat {k m : Nat} (h : k < m) (h' : m < 9223372036854775808) : IntKind.i64.wrap ((k : Int) + 1) = ((k + 1 : Nat) : Int) := by
  rw [wrap_id (by omega) (by omega)]; omega
def ints (ns : List Int) : List Value := ns.map (.int .i64)
/-- One element of a row of elements of sz cells. -/
theorem Sl.idx {h : Heap} {a : Option Addr} {vs : List Value} {sz l : Nat} {i : Int} {K : Addr → Prop} (k : Sl h a vs) (hl : vs.length = l * sz) (hs : 0 < sz) (h0 : 0 ≤ i) (hi : i < l)
    (c : ∀ b, ob a = some b → ∀ ad : Addr, ad.block = b → (∀ p, a = some p → ad = p.add (i.toNat * sz)) → K ad) : VIdx a l i sz K := by
  refine ⟨h0, hi, ?_⟩
  have hlt : i.toNat * sz < vs.length := by
    rw [hl]; exact Nat.mul_lt_mul_of_pos_right (by omega) hs
  obtain ⟨ad, rfl, hc⟩ := k (i.toNat * sz) _ (List.getElem?_eq_getElem hlt)
  exact c _ rfl _ (add_block _ _) fun p hp => by cases hp; rfl
theorem Sl.int {h h1 : Heap} {a : Option Addr} {ns : List Int} {i : Int} {l : Nat} {K : Addr → Prop} (k : Sl h a (ints ns)) (m : Ext h h1) (hl : ns.length = l) (h0 : 0 ≤ i) (hi : i < l)
    (c : ∀ ad n, ns[i.toNat]? = some n → cellH h1 ad = some (.int .i64 n) → K ad) : VIdx a l i 1 K := by
  refine ⟨h0, hi, ?_⟩
  have hlt : i.toNat < ns.length := by omega
  have hg : (ints ns)[i.toNat]? = some (.int .i64 ns[i.toNat]) := by simp [ints, hlt]
  obtain ⟨ad, rfl, hc⟩ := (k.ext m) i.toNat _ hg
  exact c _ _ (List.getElem?_eq_getElem hlt) (by rw [Nat.mul_one]; exact hc)
theorem foldl_take {α β : Type} (f : β → α → β) (s : β) {ns : List α} {k : Nat} {n : α} (h : ns[k]? = some n) : (ns.take (k + 1)).foldl f s = f ((ns.take k).foldl f s) n := by
  rw [List.take_add_one, h]; simp
/-- One element of several cells. -/
theorem Sl.elem {h : Heap} {a : Option Addr} {vs : List Value} {sz l : Nat} {i : Int} {K : Addr → Prop} (k : Sl h a vs) (hl : vs.length = l * sz) (hs : 0 < sz) (h0 : 0 ≤ i) (hi : i < l)
    (c : ∀ ad : Addr, ob a = some ad.block → (∀ r v, vs[i.toNat * sz + r]? = some v → cellH h (addN ad r) = some v) → K ad) : VIdx a l i sz K := by
  refine ⟨h0, hi, ?_⟩
  have hlt : i.toNat * sz < vs.length := by
    rw [hl]; exact Nat.mul_lt_mul_of_pos_right (by omega) hs
  obtain ⟨ad, rfl, hc⟩ := k (i.toNat * sz) _ (List.getElem?_eq_getElem hlt)
  refine c (ad.add (i.toNat * sz)) (by rw [add_block]; rfl) fun r v hr => ?_
  obtain ⟨ad', h1, h2⟩ := k _ _ hr
  cases h1
  rw [← addN_eq]
  rw [show (ad.add (i.toNat * sz)).add r = ad.add (i.toNat * sz + r) by
    unfold Addr.add
    by_cases h5 : i.toNat * sz = 0 <;> by_cases h6 : r = 0 <;> simp [h5, h6, Nat.add_assoc]]
  exact h2
theorem flatMap_at {α : Type} {f : α → List Value} {sz : Nat} (hf : ∀ x, (f x).length = sz) : ∀ {l : List α} {i r : Nat} {x : α} {v : Value}, l[i]? = some x → (f x)[r]? = some v → (l.flatMap f)[i * sz + r]? = some v
  | [], i, r, x, v, h, _ => by simp at h
  | y :: l, i, r, x, v, h, hr => by
    rw [List.flatMap_cons, List.getElem?_append]
    cases i with
    | zero =>
      simp at h; subst h
      have := (List.getElem?_eq_some_iff.1 hr).1
      rw [if_pos (by omega)]; simpa using hr
    | succ i =>
      rw [if_neg (by rw [Nat.succ_mul, hf]; omega), show (i + 1) * sz + r - (f y).length = i * sz + r by rw [Nat.succ_mul, hf]; omega]
      exact flatMap_at hf (by simpa using h) hr
theorem flatMap_len {α : Type} {f : α → List Value} {sz : Nat} (hf : ∀ x, (f x).length = sz) : ∀ l : List α, (l.flatMap f).length = l.length * sz
  | [] => by simp
  | y :: l => by rw [List.flatMap_cons, List.length_append, hf, flatMap_len hf l, List.length_cons, Nat.succ_mul]; omega
theorem append_vec' {P : Program} {t tx ty e : TypeId} {z : Value} {sz bt : Nat} {d : TypeDesc} (ht : P.underlying t = some (.slice e)) (htx : P.underlying tx = some d) (hd : ∀ k, d ≠ .int k)
    (hi : (P.info? e).map (fun i => (i.zero, i.size, i.bytes)) = some (some z, sz, bt)) (hzs : z.cells.size = sz) (hb0 : 0 < bt) {h : Heap} {x : Value} {n : Nat} {news : List Value} (src : Src P sz h x n news)
    (hone : ∀ v ∈ news, oneC v = true) {a : Option Addr} {l c : Nat} {vs : List Value} (hv : Vec h e sz a l c vs)
    (hbytes : (l + n) * bt ≤ 140737488355328) {R : KV}
    (k : ∀ a' c' h', Vec h' e sz a' (l + n) c' (vs ++ news) → Mod (fun b => ob a = some b) h h' → (c' = c ∧ a' = a ∧ h'.size = h.size ∧ l + n ≤ c) ∨ (a' = some ⟨h.size, 0, none⟩ ∧ h'.size = h.size + 1 ∧ Ext h h' ∧ c < l + n) → R (.slice a' (l + n) c') h') :
    RunsTo P (Builtin.append_ #[t, tx] ty #[.slice a l c, x]) h R := by
  cases hi' : P.info? e with
  | none => rw [hi'] at hi; cases hi
  | some i =>
    rw [hi'] at hi
    simp only [Option.map_some, Option.some.injEq, Prod.mk.injEq] at hi
    obtain ⟨e1, rfl, rfl⟩ := hi
    exact append_vec ht htx hd hi' e1 hzs hb0 src hone hv hbytes k
theorem CallsH.run {P : Program} {f : FuncId} {args : Array Value} {R : KV} {w : World} (k : CallsH P f args w.heap R) : Calls P f args w fun e w' => ∃ v, e = .returned v ∧ Rest w w' ∧ R v w'.heap := k w rfl
end Go.VC
