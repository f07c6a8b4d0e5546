/- Package proto: streams in plain Lean. Conditions: none. -/
import Derived.Test.YtgdgebmlcgohhaaDoorQ2
namespace Go.Proofs.YtgdgebmlcgohhaaDoor.F
open Go Go.VC Go.Proofs
set_option linter.unusedSimpArgs false
set_option linter.unusedVariables false
set_option maxRecDepth 100000

/-- What stands in front of bytes that wait. -/
inductive Nx where
  | more
  | bad
  | got (p r : Bytes)
noncomputable def num4 (w : Bytes) : Nat := match w with
  | b0 :: b1 :: b2 :: b3 :: _ => un4 b0 b1 b2 b3
  | _ => 0
noncomputable def nextF (w : Bytes) : Nx :=
  if w.length < 4 then .more else if 65528 < num4 w then .bad else if w.length < num4 w + 8 then .more
  else if be4 (adl (w.take (num4 w + 4))) ≠ (w.drop (num4 w + 4)).take 4 then .bad else .got ((w.drop 4).take (num4 w)) (w.drop (num4 w + 8))
theorem num4_app {w x : Bytes} (h : 4 ≤ w.length) : num4 (w ++ x) = num4 w := by
  match w, h with
  | b0 :: b1 :: b2 :: b3 :: r, _ => rfl
theorem next_got {w x p r : Bytes} (h : nextF w = .got p r) : nextF (w ++ x) = .got p (r ++ x) ∧ r.length < w.length := by
  unfold nextF at h
  split at h
  · cases h
  rename_i h1
  split at h
  · cases h
  rename_i h2
  split at h
  · cases h
  rename_i h3
  split at h
  · cases h
  rename_i h4
  cases h
  unfold nextF
  have hn := num4_app (x := x) (show 4 ≤ w.length by omega)
  rw [hn, List.length_append, if_neg (by omega), if_neg h2, if_neg (by omega)]
  have e1 : (w ++ x).take (num4 w + 4) = w.take (num4 w + 4) := by rw [List.take_append_of_le_length (by omega)]
  have e2 : ((w ++ x).drop (num4 w + 4)).take 4 = (w.drop (num4 w + 4)).take 4 := by
    rw [List.drop_append_of_le_length (by omega), List.take_append_of_le_length (by rw [List.length_drop]; omega)]
  have e3 : ((w ++ x).drop 4).take (num4 w) = (w.drop 4).take (num4 w) := by
    rw [List.drop_append_of_le_length (by omega), List.take_append_of_le_length (by rw [List.length_drop]; omega)]
  have e4 : (w ++ x).drop (num4 w + 8) = w.drop (num4 w + 8) ++ x := by rw [List.drop_append_of_le_length (by omega)]
  rw [e1, e2, if_neg h4, e3, e4]
  refine ⟨rfl, ?_⟩
  rw [List.length_drop]; omega
theorem next_bad {w x : Bytes} (h : nextF w = .bad) : nextF (w ++ x) = .bad := by
  unfold nextF at h
  split at h
  · cases h
  rename_i h1
  have hn := num4_app (x := x) (show 4 ≤ w.length by omega)
  unfold nextF
  rw [hn, List.length_append, if_neg (by omega)]
  split at h
  · rename_i h2
    rw [if_pos h2]
  rename_i h2
  rw [if_neg h2]
  split at h
  · cases h
  rename_i h3
  split at h
  · rename_i h4
    rw [if_neg (by omega)]
    have e1 : (w ++ x).take (num4 w + 4) = w.take (num4 w + 4) := by rw [List.take_append_of_le_length (by omega)]
    have e2 : ((w ++ x).drop (num4 w + 4)).take 4 = (w.drop (num4 w + 4)).take 4 := by
      rw [List.drop_append_of_le_length (by omega), List.take_append_of_le_length (by rw [List.length_drop]; omega)]
    rw [e1, e2, if_pos h4]
  · cases h
/-- All frames that are whole, cut off: the payloads, what is left, is it spoilt? -/
noncomputable def cutN : Nat → Bytes → List Bytes × Bytes × Bool
  | 0, w => ([], w, false)
  | n + 1, w => match nextF w with
    | .more => ([], w, false)
    | .bad => ([], [], true)
    | .got p r => (p :: (cutN n r).1, (cutN n r).2)
noncomputable def cut (w : Bytes) : List Bytes × Bytes × Bool := cutN (w.length + 1) w
theorem cutN_fuel : ∀ (n m : Nat) (w : Bytes), w.length < n → w.length < m → cutN n w = cutN m w
  | 0, _, _, h, _ => absurd h (Nat.not_lt_zero _)
  | _ + 1, 0, _, _, h => absurd h (Nat.not_lt_zero _)
  | n + 1, m + 1, w, h1, h2 => by
    unfold cutN
    cases hn : nextF w with
    | more => rfl
    | bad => rfl
    | got p r =>
      have := (next_got (x := []) hn).2
      simp only
      rw [cutN_fuel n m r (by omega) (by omega)]
theorem cut_more {w : Bytes} (h : nextF w = .more) : cut w = ([], w, false) := by
  unfold cut cutN; rw [h]
theorem cut_bad {w : Bytes} (h : nextF w = .bad) : cut w = ([], [], true) := by
  unfold cut cutN; rw [h]
theorem cut_got {w p r : Bytes} (h : nextF w = .got p r) : cut w = (p :: (cut r).1, (cut r).2) := by
  have hl := (next_got (x := []) h).2
  have e := cutN_fuel w.length (r.length + 1) r hl (by omega)
  unfold cut
  rw [cutN, h]
  simp only
  rw [e]
/-- Bytes that come in two pieces. -/
theorem cut_app : ∀ (n : Nat) (w x : Bytes), w.length < n → cut (w ++ x) = if (cut w).2.2 = true then ((cut w).1, [], true) else ((cut w).1 ++ (cut ((cut w).2.1 ++ x)).1, (cut ((cut w).2.1 ++ x)).2)
  | 0, _, _, h => absurd h (Nat.not_lt_zero _)
  | n + 1, w, x, h => by
    cases hn : nextF w with
    | more =>
      rw [cut_more hn]
      simp
    | bad =>
      rw [cut_bad hn, cut_bad (next_bad hn)]; rfl
    | got p r =>
      obtain ⟨h1, h2⟩ := next_got (x := x) hn
      rw [cut_got hn, cut_got h1, cut_app n r x (by omega)]
      by_cases hs : (cut r).2.2 = true
      · simp only [hs, if_true]
      · simp only [hs, if_false]; rfl
end Go.Proofs.YtgdgebmlcgohhaaDoor.F
