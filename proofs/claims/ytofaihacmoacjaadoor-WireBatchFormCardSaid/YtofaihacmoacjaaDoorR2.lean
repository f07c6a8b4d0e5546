/- Rows: opening what the arguments hold, a level at a time. Conditions: none. -/
import Derived.Test.YtofaihacmoacjaaDoorR1
namespace Go.VC
open Go Go.ChangeShapes Go.ChangeAt Go.RowKit Go.Deep
set_option linter.unusedSimpArgs false
set_option linter.unusedVariables false

theorem flat_of {α : Type} {sz : Nat} : ∀ {vss : List (List α)}, (∀ v ∈ vss, v.length = sz) → ∀ {j : Nat} {v : α}, vss.flatten[j]? = some v → ∃ i r cs, vss[i]? = some cs ∧ cs[r]? = some v ∧ r < sz ∧ j = i * sz + r
  | [], _, j, v, h => by simp at h
  | cs :: vss, hl, j, v, h => by
    have h0 := hl cs (by simp)
    rw [List.flatten_cons, List.getElem?_append] at h
    by_cases hj : j < cs.length
    · rw [if_pos hj] at h
      exact ⟨0, j, cs, rfl, h, by omega, by simp⟩
    · rw [if_neg hj] at h
      obtain ⟨i, r, cs', h1, h2, h3, h4⟩ := flat_of (fun v hv => hl v (by simp [hv])) h
      exact ⟨i + 1, r, cs', by simpa using h1, h2, h3, by rw [Nat.succ_mul]; omega⟩
theorem flat_at {α : Type} {sz : Nat} : ∀ {vss : List (List α)}, (∀ v ∈ vss, v.length = sz) → ∀ {i r : Nat} {cs : List α} {v : α}, vss[i]? = some cs → cs[r]? = some v → vss.flatten[i * sz + r]? = some v
  | [], _, i, r, cs, v, h, _ => by simp at h
  | c :: vss, hl, i, r, cs, v, h, hr => by
    have h0 := hl c (by simp)
    rw [List.flatten_cons, List.getElem?_append]
    cases i with
    | zero =>
      simp at h; subst h
      have := (List.getElem?_eq_some_iff.1 hr).1
      rw [if_pos (by omega)]; simpa using hr
    | succ i =>
      rw [if_neg (by rw [Nat.succ_mul]; omega), show (i + 1) * sz + r - c.length = i * sz + r by rw [Nat.succ_mul]; omega]
      exact flat_at (fun v hv => hl v (by simp [hv])) (by simpa using h) hr

theorem range_map {α : Type} {V : Nat → α} {n i : Nat} {x : α} (h : ((List.range n).map V)[i]? = some x) : i < n ∧ x = V i := by
  have h1 : i < n := by simpa using (List.getElem?_eq_some_iff.1 h).1
  exact ⟨h1, by simp [h1] at h; exact h.symm⟩
theorem flat_length {α : Type} {sz : Nat} : ∀ {vss : List (List α)}, (∀ v ∈ vss, v.length = sz) → vss.flatten.length = vss.length * sz
  | [], _ => by simp
  | c :: vss, hl => by
    rw [List.flatten_cons, List.length_append, hl c (by simp), flat_length fun v hv => hl v (by simp [hv]), List.length_cons, Nat.succ_mul]; omega

section
variable {H : Type} {enc : TypeId × Value → H} {P : Program} {w : World}
/-- A row's reading. -/
abbrev Tr (enc : TypeId × Value → H) (P : Program) (w : World) (n : Nat) (t : TypeId) (cs : List Value) (d : DataW H) (p : List MemPlace) : Prop := DataW.trod enc P w 0 (fun _ => true) true n t cs = some (d, p)
theorem trod_slice' {t e : TypeId} {n : Nat} {cs : List Value} {d : DataW H} {p : List MemPlace} (ht : P.underlying t = some (.slice e)) (h : Tr enc P w n t cs d p) :
    ∃ (a : Option Addr) (l c : Nat) (vss : List (List Value)) (m : Nat) (ds : List (DataW H)), cs = [.slice a l c] ∧ l ≤ c ∧ c ≤ maxLen ∧ vss.length = l ∧ (∀ v ∈ vss, v.length = P.cellsOf e) ∧ Sl w.heap a vss.flatten ∧ ds.length = l ∧
      (∀ (i : Nat) cs, vss[i]? = some cs → ∃ d p, ds[i]? = some d ∧ Tr enc P w m e cs d p) ∧ (d = .nil ∧ l = 0 ∧ c = 0 ∧ a = none ∨ ∃ sp, d = .slice ds sp ∧ sp.length = c - l) := by
  rcases open_slice ht h with ⟨rfl, hx⟩ | ⟨a, len, cap, m, n, D, Pl, rfl, hb, hl, hm, hmm, hx, hel⟩
  · cases hx
    exact ⟨none, 0, 0, [], 0, [], rfl, Nat.le_refl _, Nat.zero_le _, rfl, by simp, Sl.nil _ _, rfl, by simp, .inl ⟨rfl, rfl, rfl, rfl⟩⟩
  · rw [if_pos rfl] at hmm
    subst hmm
    cases hx
    obtain ⟨V, hV⟩ := choose_lt (α := List Value) (p := fun i cs' => w.cells? 0 (a.add (i * P.cellsOf e)) (P.cellsOf e) = some cs' ∧ DataW.trod enc P w 0 (fun _ => true) true n e cs' = some (D i, Pl i)) (fun i hi => hel i hi)
    have hlen : ∀ v ∈ (List.range len).map V, v.length = P.cellsOf e := by
      intro v hv
      obtain ⟨i, hi, rfl⟩ := List.mem_map.1 hv
      exact (World.cells?_some (hV i (by have := List.mem_range.1 hi; omega)).1).2.1
    refine ⟨some a, len, _, (List.range len).map V, n, (List.range len).map D, rfl, hl, hm, by simp, hlen, ?_, by simp, ?_, .inr ⟨_, rfl, by simp⟩⟩
    · intro j v hj
      obtain ⟨i, r, cs, h1, h2, h3, rfl⟩ := flat_of hlen hj
      obtain ⟨hi, rfl⟩ := range_map h1
      refine ⟨a, rfl, ?_⟩
      have h4 := (World.cells?_some (hV i (by omega)).1).2.2 r h3
      rw [cell_eq] at h4
      rw [show a.add (i * P.cellsOf e + r) = (a.add (i * P.cellsOf e)).add r by
        unfold Addr.add
        by_cases h5 : i * P.cellsOf e = 0 <;> by_cases h6 : r = 0 <;> simp [h5, h6, Nat.add_assoc]]
      rw [h4]; exact h2
    · intro i cs hi
      obtain ⟨hlt, rfl⟩ := range_map hi
      exact ⟨D i, Pl i, by simp [hlt], (hV i (by omega)).2⟩
theorem trod_int' {t : TypeId} {k : IntKind} {n : Nat} {cs : List Value} {d : DataW H} {p : List MemPlace} (ht : P.underlying t = some (.int k)) (h : Tr enc P w n t cs d p) :
    ∃ x, cs = [.int k x] ∧ d = .lit (.int k x) ∧ (Lit.int k x).wf = true := by
  obtain ⟨x, rfl, hx, hw⟩ := DataW.trod_int ht h
  cases hx
  exact ⟨x, rfl, rfl, hw⟩
theorem trod_string' {t : TypeId} {n : Nat} {cs : List Value} {d : DataW H} {p : List MemPlace} (ht : P.underlying t = some .string) (h : Tr enc P w n t cs d p) :
    ∃ s : ByteArray, cs = [.string s] ∧ d = .lit (.string s.data.toList) ∧ s.size ≤ maxLen := by
  obtain ⟨s, rfl, hx, hs⟩ := DataW.trod_string ht h
  cases hx
  exact ⟨s, rfl, rfl, hs⟩
/-- The cells of a list of rows of one integer each. -/
theorem ints_of {e : TypeId} {k : IntKind} {m : Nat} {vss : List (List Value)} {ds : List (DataW H)} (he : P.underlying e = some (.int k))
    (h : ∀ (i : Nat) cs, vss[i]? = some cs → ∃ d p, ds[i]? = some d ∧ Tr enc P w m e cs d p) : ∃ ns : List Int, vss.flatten = ns.map (.int k) ∧ ns.length = vss.length ∧ ∀ n ∈ ns, (Lit.int k n).wf = true := by
  induction vss generalizing ds with
  | nil => exact ⟨[], rfl, rfl, by simp⟩
  | cons cs vss ih =>
    obtain ⟨d, p, h0, hd⟩ := h 0 cs rfl
    obtain ⟨x, rfl, _, hw⟩ := trod_int' he hd
    obtain ⟨ns, h1, h2, h3⟩ := ih (ds := ds.tail) fun i cs hi => by
      obtain ⟨d, p, h4, h5⟩ := h (i + 1) cs (by simpa using hi)
      exact ⟨d, p, by rw [List.getElem?_tail]; exact h4, h5⟩
    exact ⟨x :: ns, by simp [h1], by simp [h2], by intro n hn; rcases List.mem_cons.1 hn with rfl | hn; (· exact hw); (· exact h3 n hn)⟩
theorem open_ints' {t e : TypeId} {k : IntKind} {n : Nat} {cs : List Value} {d : DataW H} {p : List MemPlace} (ht : P.underlying t = some (.slice e)) (he : P.underlying e = some (.int k)) (hc : P.cellsOf e = 1) (h : Tr enc P w n t cs d p) :
    ∃ (a : Option Addr) (l c : Nat) (ns : List Int), cs = [.slice a l c] ∧ l ≤ c ∧ c ≤ maxLen ∧ ns.length = l ∧ Sl w.heap a (ns.map (.int k)) ∧ (∀ n ∈ ns, (Lit.int k n).wf = true) ∧ (d = .nil ∧ l = 0 ∧ c = 0 ∧ a = none ∨ ∃ ds sp : List (DataW H), d = .slice ds sp ∧ ds.length = l ∧ sp.length = c - l) := by
  obtain ⟨a, l, c, vss, m, ds, rfl, h1, h2, h3, h4, h5, h6, h7, h8⟩ := trod_slice' ht h
  obtain ⟨ns, h9, h10, h11⟩ := ints_of he h7
  exact ⟨a, l, c, ns, rfl, h1, h2, by omega, h9 ▸ h5, h11, h8.imp id fun ⟨sp, e1, e2⟩ => ⟨ds, sp, e1, h6, e2⟩⟩
/-- A slice argument. -/
theorem arg_ints {r : Reach} {b0 : Nat} {v : Value} {t e : TypeId} {k : IntKind} {d : DataW H} {p : List MemPlace} (ht : P.underlying t = some (.slice e)) (he : P.underlying e = some (.int k)) (hc : P.cellsOf e = 1)
    (hval : Value.okWide P w r b0 t v) (h : DataW.Trod enc P w 0 (fun _ => true) true t v d p) :
    ∃ (a : Option Addr) (l c : Nat) (ns : List Int), v = .slice a l c ∧ l ≤ c ∧ c ≤ maxLen ∧ ns.length = l ∧ Sl w.heap a (ns.map (.int k)) ∧ (∀ n ∈ ns, (Lit.int k n).wf = true) ∧ (d = .nil ∧ l = 0 ∧ c = 0 ∧ a = none ∨ ∃ ds sp : List (DataW H), d = .slice ds sp ∧ ds.length = l ∧ sp.length = c - l) := by
  obtain ⟨n, h⟩ := h
  obtain ⟨a, l, c, ns, h1, h2⟩ := open_ints' ht he hc h
  refine ⟨a, l, c, ns, ?_, h2⟩
  cases v with
  | agg cs => simp [Value.okWide, ht, Cell.okWide, Cell.ok] at hval
  | _ => first | (simp [Value.cells] at h1; done) | simpa [Value.cells] using h1
end
end Go.VC
