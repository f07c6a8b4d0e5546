/- Regions that draw their order: one canonical walk serves every order, if what was read stays as it was where the order is open. Conditions: none. -/
import Derived.Test.YtofaihacmoacjaaDoorV4
import Derived.OrdersHeld
namespace Go.VC
open Go

section
variable {P : Program} {ops : Array Oper} {Q : Exit → Act → World → Prop} {md : Region.Mode}

def aliveAt (loud : Nat → Bool) (dep : Nat → Nat → Bool) (n : Nat) (L : Array Bool) (r : Nat) : Bool :=
  (List.range n).all fun l => !(L.getD l false && loud l && dep l r)
def holdsF (loud : Nat → Bool) (dep : Nat → Nat → Bool) (n : Nat) (Φ : List (Nat × (World → Prop))) (L : Array Bool) (w : World) : Prop :=
  ∀ x ∈ Φ, aliveAt loud dep n L x.1 = true → x.2 w
def wpAnyF (P : Program) (md : Region.Mode) (ops : Array Oper) (Q : Exit → Act → World → Prop) (loud : Nat → Bool) (dep : Nat → Nat → Bool) (Φ : List (Nat × (World → Prop))) :
    Nat → Array Bool → Act → World → Prop
  | 0, L, a, w => Region.ready md ops L = [] ∧ Q .normal a w
  | fuel + 1, L, a, w =>
    (Region.ready md ops L = [] → Q .normal a w) ∧
    ∀ i ∈ Region.ready md ops L, wpOp P ops Q i (fun a' w' => holdsF loud dep ops.size Φ (L.setIfInBounds i true) w' ∧ wpAnyF P md ops Q loud dep Φ fuel (L.setIfInBounds i true) a' w') a w
variable {loud : Nat → Bool} {dep : Nat → Nat → Bool}
theorem wpAnyF.any {Φ : List (Nat × (World → Prop))} : ∀ (fuel : Nat) (L : Array Bool) (a : Act) (w : World), wpAnyF P md ops Q loud dep Φ fuel L a w → wpAny P md ops Q fuel L a w
  | 0, _, _, _, h => h
  | fuel + 1, _, _, _, h => ⟨h.1, fun i hi => wpOp_mono (fun a' w' h' => wpAnyF.any fuel _ a' w' h'.2) (h.2 i hi)⟩
theorem wpAnyF.weaken {Φ Φ' : List (Nat × (World → Prop))} (hs : ∀ x ∈ Φ, x ∈ Φ' ∨ ∀ w, x.2 w) : ∀ (fuel : Nat) (L : Array Bool) (a : Act) (w : World),
    wpAnyF P md ops Q loud dep Φ' fuel L a w → wpAnyF P md ops Q loud dep Φ fuel L a w
  | 0, _, _, _, h => h
  | fuel + 1, _, _, _, h => ⟨h.1, fun i hi => wpOp_mono (fun a' w' h' => ⟨fun x hx hal => (hs x hx).elim (fun h1 => h'.1 x h1 hal) (fun h1 => h1 w'), wpAnyF.weaken hs fuel _ a' w' h'.2⟩) (h.2 i hi)⟩
theorem alive_silent {L : Array Bool} {i r n : Nat} (hl : loud i = false) : aliveAt loud dep n (L.setIfInBounds i true) r = aliveAt loud dep n L r := by
  unfold aliveAt
  congr 1
  funext l
  by_cases e : i = l
  · subst e; simp [hl]
  · rw [getD_set_ne false e]
theorem wpAnyF_first {Φ : List (Nat × (World → Prop))} {i : Nat} {oi : Oper} {v : Value} {φ : World → Prop} (hi : ops[i]? = some oi)
    (hsel : ∀ (j : Nat) (o : Oper) cs b, ops[j]? = some o → o.op ≠ .select cs b)
    (hQ : ∀ c a w, Q (.panic c) (a.put oi.dst v) w → Q (.panic c) a w) (hl : loud i = false)
    (hdep : ∀ j oj, ops[j]? = some oj → dep j i = true → ∃ e ∈ oj.after, Region.binds md e = true ∧ (e.on = i ∨ dep e.on i = true)) :
    ∀ (fuel : Nat) (L : Array Bool) (a : Act) (w : World),
      (∀ j oj, ops[j]? = some oj → j ≠ i → L.getD j true = false → (∀ e ∈ oj.after, Region.binds md e = true → e.on ≠ i) → oi.apart ops oj = true) →
      i ∈ Region.ready md ops L → (∀ l, L.getD l false = true → dep l i = false) → YieldsIf P ops φ oi v a → φ w → holdsF loud dep ops.size Φ L w →
      wpAnyF P md ops Q loud dep ((i, φ) :: Φ) fuel (L.setIfInBounds i true) (a.put oi.dst v) w → wpAnyF P md ops Q loud dep Φ (fuel + 1) L a w := by
  have self : ∀ (fuel : Nat) (L : Array Bool) (a : Act) (w : World), YieldsIf P ops φ oi v a → φ w → holdsF loud dep ops.size Φ L w →
      wpAnyF P md ops Q loud dep ((i, φ) :: Φ) fuel (L.setIfInBounds i true) (a.put oi.dst v) w →
      wpOp P ops Q i (fun a' w' => holdsF loud dep ops.size Φ (L.setIfInBounds i true) w' ∧ wpAnyF P md ops Q loud dep Φ fuel (L.setIfInBounds i true) a' w') a w := fun fuel L a w hy hφ hh H =>
    hy.wpOp hi hφ ⟨fun x hx hal => hh x hx (by rwa [alive_silent hl] at hal), H.weaken (fun x hx => .inl (List.mem_cons_of_mem _ hx))⟩
  intro fuel
  induction fuel with
  | zero =>
    intro L a w _ hr _ hy hφ hh H
    refine ⟨fun h => (by rw [h] at hr; cases hr), fun j hj => ?_⟩
    by_cases hji : j = i
    · subst hji; exact self 0 L a w hy hφ hh H
    · have := ready_mono hj hji
      rw [H.1] at this
      cases this
  | succ fuel ih =>
    intro L a w hfree hr hinv hy hφ hh H
    refine ⟨fun h => (by rw [h] at hr; cases hr), fun j hj => ?_⟩
    by_cases hji : j = i
    · subst hji; exact self (fuel + 1) L a w hy hφ hh H
    · have h1 := H.2 j (ready_mono hj hji)
      obtain ⟨hjun, oj, hoj, hall⟩ := mem_ready.1 hj
      have hi0 := (mem_ready.1 hr).1
      have hnot : ∀ e ∈ oj.after, Region.binds md e = true → e.on ≠ i := fun e he hb heq => by
        have h1 := hall e he hb
        rw [heq] at h1
        rcases Nat.lt_or_ge i L.size with h' | h'
        · simp [h'] at hi0 h1; rw [hi0] at h1; cases h1
        · simp [Array.getElem?_eq_none h'] at h1
      have hjdep : dep j i = false := by
        cases hd : dep j i with
        | false => rfl
        | true =>
          obtain ⟨e, he, hb, h2⟩ := hdep j oj hoj hd
          rcases h2 with h2 | h2
          · exact absurd h2 (hnot e he hb)
          · rw [hinv e.on (hall e he hb)] at h2; cases h2
      have hinv' : ∀ l, (L.setIfInBounds j true).getD l false = true → dep l i = false := fun l hl' => by
        by_cases e : j = l
        · subst e; exact hjdep
        · rw [getD_set_ne false e] at hl'; exact hinv l hl'
      have h2 := wpOp_putIf (S := φ) hoj (hfree j oj hoj hji hjun hnot) (fun cs b => hsel i oi cs b hi) (fun cs b => hsel j oj cs b hoj) hQ hy h1
      have hfree' : ∀ k ok, ops[k]? = some ok → k ≠ i → (L.setIfInBounds j true).getD k true = false →
          (∀ e ∈ ok.after, Region.binds md e = true → e.on ≠ i) → oi.apart ops ok = true := fun k ok hk hki hun hno => by
        refine hfree k ok hk hki ?_ hno
        by_cases hjk : j = k
        · subst hjk; exact hjun
        · rw [getD_set_ne true hjk] at hun; exact hun
      refine wpOp_mono (fun a' w' h3 => ?_) h2
      obtain ⟨hy', hold, hrest⟩ := h3
      have hcomm : (L.setIfInBounds i true).setIfInBounds j true = (L.setIfInBounds j true).setIfInBounds i true := (Array.setIfInBounds_comm _ _ (Ne.symm hji))
      rw [hcomm] at hold hrest
      have hh' : holdsF loud dep ops.size Φ (L.setIfInBounds j true) w' := fun x hx hal => hold x (List.mem_cons_of_mem _ hx) (by rwa [alive_silent hl])
      have hφ' : φ w' := hold (i, φ) List.mem_cons_self (by
        rw [alive_silent hl]
        unfold aliveAt
        rw [List.all_eq_true]
        intro l _
        cases hg : (L.setIfInBounds j true).getD l false with
        | false => simp
        | true => simp [hinv' l hg])
      exact ⟨hh', ih (L.setIfInBounds j true) a' w' hfree' (ready_mono hr (Ne.symm hji)) hinv' hy' hφ' hh' hrest⟩
end
end Go.VC
