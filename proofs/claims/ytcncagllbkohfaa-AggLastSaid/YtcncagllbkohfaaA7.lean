/- Package agg: plain laws of what is known of numbers (no program here but the wrap). Conditions: none. -/
import Derived.Test.YtcncagllbkohfaaA6
namespace Go.Proofs.Ytcncagllbkohfaa.F
open Go Go.VC Go.Proofs
set_option linter.unusedSimpArgs false
set_option linter.unusedVariables false

theorem w64_eq (n : Int) : w64 n = (n + 9223372036854775808) % 18446744073709551616 - 9223372036854775808 := by
  unfold w64
  simp only [IntKind.wrap, IntKind.signed, IntKind.bits, IntKind.min, IntKind.max]
  simp
  split <;> omega
theorem w64_add (a b : Int) : w64 (w64 a + b) = w64 (a + b) := by simp only [w64_eq]; omega
theorem w64_add' (a b : Int) : w64 (a + w64 b) = w64 (a + b) := by simp only [w64_eq]; omega
theorem w64_w64 (a : Int) : w64 (w64 a) = w64 a := by simp only [w64_eq]; omega
theorem w64_id {n : Int} (h : -9223372036854775808 ≤ n) (h' : n < 9223372036854775808) : w64 n = n := wrap_id h h'
def inR (n : Int) : Prop := -9223372036854775808 ≤ n ∧ n < 9223372036854775808
theorem sumF_eq : ∀ (ns : List Int) (s : Int), inR s → sumF s ns = w64 (s + ns.sum)
  | [], s, h => by simp [sumF]; exact (w64_id h.1 h.2).symm
  | n :: ns, s, h => by
    have e : sumF s (n :: ns) = sumF (w64 (s + n)) ns := rfl
    rw [e, sumF_eq ns _ (by unfold inR; rw [w64_eq]; omega), w64_add, List.sum_cons, Int.add_assoc]
theorem minI_le (a b : Int) : minI a b ≤ a ∧ minI a b ≤ b := by unfold minI; split <;> omega
theorem minI_cases (a b : Int) : minI a b = a ∨ minI a b = b := by unfold minI; split <;> simp
theorem maxI_le (a b : Int) : a ≤ maxI a b ∧ b ≤ maxI a b := by unfold maxI; split <;> omega
theorem maxI_cases (a b : Int) : maxI a b = a ∨ maxI a b = b := by unfold maxI; split <;> simp
theorem minF_spec : ∀ (ns : List Int) (m : Int), (minF m ns = m ∨ minF m ns ∈ ns) ∧ minF m ns ≤ m ∧ ∀ z ∈ ns, minF m ns ≤ z
  | [], m => by simp [minF]
  | n :: ns, m => by
    obtain ⟨h1, h2, h3⟩ := minF_spec ns (minI m n)
    have e : minF m (n :: ns) = minF (minI m n) ns := rfl
    rw [e]
    have h4 := minI_le m n
    refine ⟨?_, by omega, ?_⟩
    · rcases h1 with h1 | h1
      · rw [h1]; rcases minI_cases m n with h5 | h5 <;> rw [h5] <;> simp
      · right; simp [h1]
    · intro z hz
      rcases List.mem_cons.1 hz with rfl | hz
      · omega
      · exact h3 z hz
theorem maxF_spec : ∀ (ns : List Int) (m : Int), (maxF m ns = m ∨ maxF m ns ∈ ns) ∧ m ≤ maxF m ns ∧ ∀ z ∈ ns, z ≤ maxF m ns
  | [], m => by simp [maxF]
  | n :: ns, m => by
    obtain ⟨h1, h2, h3⟩ := maxF_spec ns (maxI m n)
    have e : maxF m (n :: ns) = maxF (maxI m n) ns := rfl
    rw [e]
    have h4 := maxI_le m n
    refine ⟨?_, by omega, ?_⟩
    · rcases h1 with h1 | h1
      · rw [h1]; rcases maxI_cases m n with h5 | h5 <;> rw [h5] <;> simp
      · right; simp [h1]
    · intro z hz
      rcases List.mem_cons.1 hz with rfl | hz
      · omega
      · exact h3 z hz
/-- The least of a row: one of it, and at most each of it. -/
theorem least_uniq {ns ms : List Int} {a b : Int} (hm : ∀ z, z ∈ ns ↔ z ∈ ms) (h1 : a ∈ ns) (h2 : ∀ z ∈ ns, a ≤ z) (h3 : b ∈ ms) (h4 : ∀ z ∈ ms, b ≤ z) : a = b := by
  have := h2 b ((hm b).2 h3)
  have := h4 a ((hm a).1 h1)
  omega
theorem most_uniq {ns ms : List Int} {a b : Int} (hm : ∀ z, z ∈ ns ↔ z ∈ ms) (h1 : a ∈ ns) (h2 : ∀ z ∈ ns, z ≤ a) (h3 : b ∈ ms) (h4 : ∀ z ∈ ms, z ≤ b) : a = b := by
  have := h2 b ((hm b).2 h3)
  have := h4 a ((hm a).1 h1)
  omega
theorem minF_head (n : Int) (ns : List Int) : minF n (n :: ns) ∈ n :: ns ∧ ∀ z ∈ n :: ns, minF n (n :: ns) ≤ z := by
  obtain ⟨h1, h2, h3⟩ := minF_spec (n :: ns) n
  exact ⟨h1.elim (fun e => by rw [e]; simp) id, h3⟩
theorem maxF_head (n : Int) (ns : List Int) : maxF n (n :: ns) ∈ n :: ns ∧ ∀ z ∈ n :: ns, z ≤ maxF n (n :: ns) := by
  obtain ⟨h1, h2, h3⟩ := maxF_spec (n :: ns) n
  exact ⟨h1.elim (fun e => by rw [e]; simp) id, h3⟩

/-- What is known of a row of numbers. -/
def plainA : List Int → Acc
  | [] => .z
  | n :: ns => ⟨(n :: ns).length, w64 (n :: ns).sum, minF n (n :: ns), maxF n (n :: ns)⟩
theorem plainA_some {ns : List Int} (h : ns ≠ []) (h2 : ns.length < 35184372088832) : noneB (plainA ns) = false := by
  obtain ⟨n, r, rfl⟩ := List.exists_cons_of_ne_nil h
  show decide (((n :: r).length : Int) < 1) = false
  exact decide_eq_false (by rw [List.length_cons]; omega)
theorem plainA_perm {ns ms : List Int} (hl : ns.length = ms.length) (hs : ns.sum = ms.sum) (hm : ∀ z, z ∈ ns ↔ z ∈ ms) : plainA ns = plainA ms := by
  cases ns with
  | nil =>
    cases ms with
    | nil => rfl
    | cons m ms => simp at hl
  | cons n ns =>
    cases ms with
    | nil => simp at hl
    | cons m ms =>
      simp only [plainA]
      rw [hl, hs, least_uniq hm (minF_head n ns).1 (minF_head n ns).2 (minF_head m ms).1 (minF_head m ms).2, most_uniq hm (maxF_head n ns).1 (maxF_head n ns).2 (maxF_head m ms).1 (maxF_head m ms).2]
theorem plainA_rev (ns : List Int) : plainA ns.reverse = plainA ns := plainA_perm (by simp) (by simp) (by simp)
theorem plainA_join (ns ms : List Int) (h : ns.length + ms.length < 35184372088832) : joinS (plainA ns) (plainA ms) = plainA (ns ++ ms) := by
  cases ns with
  | nil =>
    cases ms with
    | nil => rfl
    | cons m ms =>
      have e := plainA_some (ns := m :: ms) (by simp) (by simp at h ⊢; omega)
      simp only [List.nil_append]
      unfold joinS
      rw [e]
      rfl
  | cons n ns =>
    have e := plainA_some (ns := n :: ns) (by simp) (by simp at h ⊢; omega)
    cases ms with
    | nil =>
      rw [List.append_nil]
      unfold joinS
      rw [e]
      rfl
    | cons m ms =>
      have e2 := plainA_some (ns := m :: ms) (by simp) (by simp at h ⊢; omega)
      unfold joinS
      rw [e, e2]
      simp only [Bool.false_eq_true, if_false, plainA, List.cons_append]
      have hmin : minI (minF n (n :: ns)) (minF m (m :: ms)) = minF n (n :: (ns ++ m :: ms)) := by
        refine least_uniq (ns := n :: (ns ++ m :: ms)) (fun _ => Iff.rfl) ?_ ?_ (minF_head n _).1 (minF_head n _).2
        · have h1 := (minF_head n ns).1
          have h2 := (minF_head m ms).1
          rcases minI_cases (minF n (n :: ns)) (minF m (m :: ms)) with h5 | h5 <;> rw [h5]
          · rw [← List.cons_append]; exact List.mem_append_left _ h1
          · rw [← List.cons_append]; exact List.mem_append_right _ h2
        · intro z hz
          rw [← List.cons_append] at hz
          have h4 := minI_le (minF n (n :: ns)) (minF m (m :: ms))
          rcases List.mem_append.1 hz with hz | hz
          · have := (minF_head n ns).2 z hz; omega
          · have := (minF_head m ms).2 z hz; omega
      have hmax : maxI (maxF n (n :: ns)) (maxF m (m :: ms)) = maxF n (n :: (ns ++ m :: ms)) := by
        refine most_uniq (ns := n :: (ns ++ m :: ms)) (fun _ => Iff.rfl) ?_ ?_ (maxF_head n _).1 (maxF_head n _).2
        · have h1 := (maxF_head n ns).1
          have h2 := (maxF_head m ms).1
          rcases maxI_cases (maxF n (n :: ns)) (maxF m (m :: ms)) with h5 | h5 <;> rw [h5]
          · rw [← List.cons_append]; exact List.mem_append_left _ h1
          · rw [← List.cons_append]; exact List.mem_append_right _ h2
        · intro z hz
          rw [← List.cons_append] at hz
          have h4 := maxI_le (maxF n (n :: ns)) (maxF m (m :: ms))
          rcases List.mem_append.1 hz with hz | hz
          · have := (maxF_head n ns).2 z hz; omega
          · have := (maxF_head m ms).2 z hz; omega
      rw [hmin, hmax]
      congr 1
      · simp only [List.length_cons, List.length_append] at h ⊢
        rw [w64_id (by omega) (by omega)]; omega
      · rw [w64_add, w64_add']
        simp only [List.sum_cons, List.sum_append]
        congr 1; omega
theorem addS_z (ns : List Int) (h : ns.length < 35184372088832) : addS .z ns = plainA ns := by
  cases ns with
  | nil => rfl
  | cons n ns =>
    have e : noneB (taken .z) = true := rfl
    simp only [addS, e, if_true, plainA]
    congr 1
    · show w64 (0 + ((n :: ns).length : Int)) = _
      rw [w64_id (by omega) (by omega)]; omega
    · show sumF 0 (n :: ns) = _
      rw [sumF_eq _ _ (by unfold inR; omega)]; simp
/-- Every entry knows of itself and all below it. -/
def Good (es : List Ent) : Prop := ∀ k e, es[k]? = some e → e.2 = plainA ((es.take (k + 1)).map (·.1))
theorem Good.nil : Good [] := fun k e h => by simp at h
theorem Good.known {es : List Ent} (g : Good es) : knownS es = plainA (es.map (·.1)) := by
  rcases topS_cases es with ⟨rfl, _⟩ | ⟨X, e, rfl, he⟩
  · rfl
  · unfold knownS
    rw [he]
    have := g X.length e (by simp)
    rw [this, List.take_of_length_le (by simp)]
theorem Good.lay {es : List Ent} (g : Good es) (h : es.length < 2147483648) (n : Int) : Good (layS es n) := by
  intro k e hk
  unfold layS at hk ⊢
  rw [List.getElem?_append] at hk
  split at hk
  · rename_i hlt
    rw [g k e hk, List.take_append_of_le_length (by omega)]
  · rename_i hge
    have hk0 : k - es.length = 0 := by
      rcases Nat.eq_zero_or_pos (k - es.length) with h0 | h0
      · exact h0
      · rw [List.getElem?_eq_none (show 1 ≤ k - es.length from h0)] at hk; cases hk
    rw [hk0] at hk
    simp at hk
    subst hk
    have : k = es.length := by omega
    subst this
    rw [List.take_of_length_le (by simp)]
    simp only [List.map_append, List.map_cons, List.map_nil]
    rw [g.known, addS_z _ (by simp), plainA_join _ _ (by simp; omega)]
theorem Good.drop {es : List Ent} (g : Good es) : Good es.dropLast := by
  intro k e hk
  rw [List.dropLast_eq_take, List.getElem?_take] at hk
  split at hk
  · rename_i hlt
    rw [g k e hk, List.dropLast_eq_take, List.take_take]
    congr 3; omega
  · cases hk
theorem layS_map (es : List Ent) (n : Int) : (layS es n).map (·.1) = es.map (·.1) ++ [n] := by simp [layS]
theorem moved_good : ∀ (r : List Ent) (y : List Ent), Good y → y.length + r.length < 2147483648 → Good (r.foldl (fun y e => layS y e.1) y) ∧ (r.foldl (fun y e => layS y e.1) y).map (·.1) = y.map (·.1) ++ r.map (·.1)
  | [], y, g, _ => by simpa using g
  | e :: r, y, g, h => by
    simp only [List.length_cons] at h
    obtain ⟨h1, h2⟩ := moved_good r (layS y e.1) (g.lay (by omega) _) (by rw [layS_len]; omega)
    rw [List.foldl_cons]
    exact ⟨h1, by rw [h2, layS_map]; simp⟩
/-- The sliding row holds these numbers. -/
structure Win (x y : List Ent) (held : List Int) : Prop where
  gx : Good x
  gy : Good y
  eq : held = (y.map (·.1)).reverse ++ x.map (·.1)
theorem Win.len {x y : List Ent} {held : List Int} (w : Win x y held) : held.length = x.length + y.length := by rw [w.eq]; simp; omega
theorem Win.nil : Win [] [] [] := ⟨.nil, .nil, rfl⟩
theorem Win.acc {x y : List Ent} {held : List Int} (w : Win x y held) (h : held.length < 2147483648) : joinS (knownS y) (knownS x) = plainA held := by
  have hl := w.len
  rw [w.gx.known, w.gy.known, plainA_join _ _ (by simp; omega), w.eq]
  exact plainA_perm (by simp) (by simp) (by simp)
theorem Win.push {x y : List Ent} {held : List Int} (w : Win x y held) (h : held.length < 2147483648) (n : Int) : Win (layS x n) y (held ++ [n]) := by
  have hl := w.len
  exact ⟨w.gx.lay (by omega) n, w.gy, by rw [layS_map, w.eq]; simp⟩
theorem Win.atPop {x y : List Ent} {held : List Int} (w : Win x y held) (h : held.length < 2147483648) : Win (atPop x y).1 (atPop x y).2 held := by
  have hl := w.len
  unfold F.atPop
  split
  · rename_i hy
    subst hy
    obtain ⟨h1, h2⟩ := moved_good x.reverse [] .nil (by simp at hl ⊢; omega)
    refine ⟨.nil, h1, ?_⟩
    show held = ((movedS x []).map (·.1)).reverse ++ []
    rw [show movedS x [] = x.reverse.foldl (fun y e => layS y e.1) [] from rfl, h2, w.eq]
    simp
  · exact w
theorem Win.pop {x y : List Ent} {held : List Int} (w : Win x y held) (h : held.length < 2147483648) : Win (F.atPop x y).1 (F.atPop x y).2.dropLast held.tail ∧ popC x y = (if held = [] then 3 else 0) := by
  have w1 := w.atPop h
  unfold popC
  by_cases hy : (F.atPop x y).2 = []
  · have hx : held = [] := by
      have h0 := hy
      unfold F.atPop at h0
      split at h0
      · rename_i h1
        have h2 : (movedS x y).length = 0 := by
          have h3 : movedS x y = [] := h0
          rw [h3]; rfl
        rw [movedS_len] at h2
        have h4 := w.len
        exact List.eq_nil_of_length_eq_zero (by omega)
      · rename_i h1; exact absurd h0 h1
    rw [if_pos hy, if_pos hx]
    subst hx
    exact ⟨⟨w1.gx, w1.gy.drop, by rw [hy]; have := w1.eq; rw [hy] at this; simpa using this⟩, rfl⟩
  · have hne : held ≠ [] := by
      intro e
      have h4 := w1.len
      rw [e] at h4
      exact hy (List.eq_nil_of_length_eq_zero (by rw [List.length_nil] at h4; omega))
    rw [if_neg hy, if_neg hne]
    refine ⟨⟨w1.gx, w1.gy.drop, ?_⟩, rfl⟩
    have e1 := w1.eq
    conv at e1 => rhs; rw [← List.dropLast_concat_getLast hy]
    rw [List.map_append, List.reverse_append] at e1
    simp only [List.map_cons, List.map_nil, List.reverse_cons, List.reverse_nil, List.nil_append, List.cons_append] at e1
    rw [e1]
    rfl
end Go.Proofs.Ytcncagllbkohfaa.F
