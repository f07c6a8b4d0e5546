/- The document's answers of Add, Join, Get, and its sliding row. Conditions: none. -/
import Derived.Test.YtcncagllbkohfaaB1
namespace Go.Proofs.Ytcncagllbkohfaa.F
open Go Go.VC Go.Proofs
set_option linter.unusedSimpArgs false
set_option linter.unusedVariables false
set_option maxRecDepth 100000
attribute [local irreducible] CallsH RunsTo PureTo

theorem noneB_iff (a : Acc) : noneB a = true ↔ a.c < 1 := by simp [noneB]
theorem taken_eq (a : Acc) : taken a = if a.c < 1 then .z else a := by
  unfold taken
  by_cases h : a.c < 1
  · rw [(noneB_iff a).2 h, if_pos h]; rfl
  · rw [if_neg h]
    have : noneB a = false := by
      cases hb : noneB a with
      | true => exact absurd ((noneB_iff a).1 hb) h
      | false => rfl
    rw [this]; rfl
theorem taken_c (a : Acc) : (taken a).c = 0 ∨ 1 ≤ (taken a).c := by
  rw [taken_eq]; split
  · exact .inl rfl
  · right; omega
theorem taken_none (a : Acc) : noneB (taken a) = noneB a := by
  rw [taken_eq]; split
  · rename_i h; rw [(noneB_iff a).2 h]; rfl
  · rfl
theorem taken_pos (a : Acc) : decide ((taken a).c > 0) = !noneB (taken a) := by
  have h := taken_c a
  cases hb : noneB (taken a) with
  | true => have := (noneB_iff _).1 hb; rw [decide_eq_false (by omega)]; rfl
  | false =>
    have : ¬ (taken a).c < 1 := fun e => by rw [(noneB_iff _).2 e] at hb; cases hb
    rw [decide_eq_true (by omega)]; rfl
theorem taken_spec (a : Acc) (h : Heap) : CallsH Try.prog 31 #[a.v] h (fun v h' => v = (taken a).v ∧ Ext h h') := by
  refine vf31 _ _ _ _ h _ ?_
  unfold F31
  have hO := Lcl.start h
  repeat' first
    | ((with_reducible show VNew _ _ _); refine Own.vnew hO fun _ _ _ hO2 => ?_; clear hO; have hO := hO2; clear hO2)
    | ((with_reducible show VSome _ _); refine VSome.mk ?_)
    | ((with_reducible show Exists _); refine ⟨_, Own.cell hO 0 (by rfl) (by rfl), ?_⟩)
    | ((with_reducible show Exists _); refine ⟨_, Own.cell hO 1 (by rfl) (by rfl), ?_⟩)
    | ((with_reducible show storeL _ _ _ _ _); refine Own.vstoreAll hO 0 (by rfl) (by rfl) (by rfl) fun _ hO2 => ?_; clear hO; have hO := hO2; clear hO2)
    | ((with_reducible show storeL _ _ _ _ _); refine Own.vstoreAll hO 1 (by rfl) (by rfl) (by rfl) fun _ hO2 => ?_; clear hO; have hO := hO2; clear hO2)
    | ((with_reducible show VStore _ _ _ _); refine Own.vstore hO 0 (by rfl) (by simp) fun _ hO2 => ?_; clear hO; have hO := hO2; clear hO2)
    | ((with_reducible show VStore _ _ _ _); refine Own.vstore hO 1 (by rfl) (by simp) fun _ hO2 => ?_; clear hO; have hO := hO2; clear hO2)
    | ((with_reducible show And _ _); refine ⟨Own.cell hO 0 (by rfl) (by rfl), ?_⟩)
    | ((with_reducible show And _ _); refine ⟨Own.cell hO 1 (by rfl) (by rfl), ?_⟩)
    | ((with_reducible show Exists _); refine ⟨_, _, _, Own.cell hO 0 (by rfl) (by rfl), ?_⟩)
    | ((with_reducible show Exists _); refine ⟨_, _, _, Own.cell hO 1 (by rfl) (by rfl), ?_⟩)
    | ((with_reducible show And _ _); refine And.intro (And.intro (Own.cell hO 0 (by rfl) (by rfl)) ?_) ?_)
    | ((with_reducible show And _ _); refine And.intro (And.intro (Own.cell hO 1 (by rfl) (by rfl)) ?_) ?_)
    | ((with_reducible show @Eq (Option Value) _ _); exact Own.cell hO 0 (by rfl) (by rfl))
    | ((with_reducible show @Eq (Option Value) _ _); exact Own.cell hO 1 (by rfl) (by rfl))
    | ((with_reducible show Exists _); refine ⟨_, Own.old hO (by assumption) id, ?_⟩)
    | ((with_reducible show Exists _); refine ⟨_, _, _, Own.old hO (by assumption) id, ?_⟩)
    | ((with_reducible show And _ _); refine ⟨Own.old hO (by assumption) id, ?_⟩)
    | ((with_reducible show Exists _); refine ⟨_, Own.old hO (by assumption) (by assumption), ?_⟩)
    | ((with_reducible show Exists _); refine ⟨_, _, _, Own.old hO (by assumption) (by assumption), ?_⟩)
    | ((with_reducible show And _ _); refine ⟨Own.old hO (by assumption) (by assumption), ?_⟩)
    | fail
  rw [taken_eq]
  refine cond_split (fun hc => ?_) (fun hc => ?_)
  · have hc' : a.c < 1 := of_decide_eq_true hc
    rw [if_pos hc']
    repeat' first
      | ((with_reducible show VNew _ _ _); refine Own.vnew hO fun _ _ _ hO2 => ?_; clear hO; have hO := hO2; clear hO2)
      | ((with_reducible show VSome _ _); refine VSome.mk ?_)
      | ((with_reducible show Exists _); refine ⟨_, Own.cell hO 0 (by rfl) (by rfl), ?_⟩)
      | ((with_reducible show Exists _); refine ⟨_, Own.cell hO 1 (by rfl) (by rfl), ?_⟩)
      | ((with_reducible show storeL _ _ _ _ _); refine Own.vstoreAll hO 0 (by rfl) (by rfl) (by rfl) fun _ hO2 => ?_; clear hO; have hO := hO2; clear hO2)
      | ((with_reducible show storeL _ _ _ _ _); refine Own.vstoreAll hO 1 (by rfl) (by rfl) (by rfl) fun _ hO2 => ?_; clear hO; have hO := hO2; clear hO2)
      | ((with_reducible show VStore _ _ _ _); refine Own.vstore hO 0 (by rfl) (by simp) fun _ hO2 => ?_; clear hO; have hO := hO2; clear hO2)
      | ((with_reducible show VStore _ _ _ _); refine Own.vstore hO 1 (by rfl) (by simp) fun _ hO2 => ?_; clear hO; have hO := hO2; clear hO2)
      | ((with_reducible show And _ _); refine ⟨Own.cell hO 0 (by rfl) (by rfl), ?_⟩)
      | ((with_reducible show And _ _); refine ⟨Own.cell hO 1 (by rfl) (by rfl), ?_⟩)
      | ((with_reducible show Exists _); refine ⟨_, _, _, Own.cell hO 0 (by rfl) (by rfl), ?_⟩)
      | ((with_reducible show Exists _); refine ⟨_, _, _, Own.cell hO 1 (by rfl) (by rfl), ?_⟩)
      | ((with_reducible show And _ _); refine And.intro (And.intro (Own.cell hO 0 (by rfl) (by rfl)) ?_) ?_)
      | ((with_reducible show And _ _); refine And.intro (And.intro (Own.cell hO 1 (by rfl) (by rfl)) ?_) ?_)
      | ((with_reducible show @Eq (Option Value) _ _); exact Own.cell hO 0 (by rfl) (by rfl))
      | ((with_reducible show @Eq (Option Value) _ _); exact Own.cell hO 1 (by rfl) (by rfl))
      | ((with_reducible show Exists _); refine ⟨_, Own.old hO (by assumption) id, ?_⟩)
      | ((with_reducible show Exists _); refine ⟨_, _, _, Own.old hO (by assumption) id, ?_⟩)
      | ((with_reducible show And _ _); refine ⟨Own.old hO (by assumption) id, ?_⟩)
      | ((with_reducible show Exists _); refine ⟨_, Own.old hO (by assumption) (by assumption), ?_⟩)
      | ((with_reducible show Exists _); refine ⟨_, _, _, Own.old hO (by assumption) (by assumption), ?_⟩)
      | ((with_reducible show And _ _); refine ⟨Own.old hO (by assumption) (by assumption), ?_⟩)
      | fail
    exact ⟨rfl, hO.ext⟩
  · have hc' : ¬ a.c < 1 := of_decide_eq_false hc
    rw [if_neg hc']
    repeat' first
      | ((with_reducible show VNew _ _ _); refine Own.vnew hO fun _ _ _ hO2 => ?_; clear hO; have hO := hO2; clear hO2)
      | ((with_reducible show VSome _ _); refine VSome.mk ?_)
      | ((with_reducible show Exists _); refine ⟨_, Own.cell hO 0 (by rfl) (by rfl), ?_⟩)
      | ((with_reducible show Exists _); refine ⟨_, Own.cell hO 1 (by rfl) (by rfl), ?_⟩)
      | ((with_reducible show storeL _ _ _ _ _); refine Own.vstoreAll hO 0 (by rfl) (by rfl) (by rfl) fun _ hO2 => ?_; clear hO; have hO := hO2; clear hO2)
      | ((with_reducible show storeL _ _ _ _ _); refine Own.vstoreAll hO 1 (by rfl) (by rfl) (by rfl) fun _ hO2 => ?_; clear hO; have hO := hO2; clear hO2)
      | ((with_reducible show VStore _ _ _ _); refine Own.vstore hO 0 (by rfl) (by simp) fun _ hO2 => ?_; clear hO; have hO := hO2; clear hO2)
      | ((with_reducible show VStore _ _ _ _); refine Own.vstore hO 1 (by rfl) (by simp) fun _ hO2 => ?_; clear hO; have hO := hO2; clear hO2)
      | ((with_reducible show And _ _); refine ⟨Own.cell hO 0 (by rfl) (by rfl), ?_⟩)
      | ((with_reducible show And _ _); refine ⟨Own.cell hO 1 (by rfl) (by rfl), ?_⟩)
      | ((with_reducible show Exists _); refine ⟨_, _, _, Own.cell hO 0 (by rfl) (by rfl), ?_⟩)
      | ((with_reducible show Exists _); refine ⟨_, _, _, Own.cell hO 1 (by rfl) (by rfl), ?_⟩)
      | ((with_reducible show And _ _); refine And.intro (And.intro (Own.cell hO 0 (by rfl) (by rfl)) ?_) ?_)
      | ((with_reducible show And _ _); refine And.intro (And.intro (Own.cell hO 1 (by rfl) (by rfl)) ?_) ?_)
      | ((with_reducible show @Eq (Option Value) _ _); exact Own.cell hO 0 (by rfl) (by rfl))
      | ((with_reducible show @Eq (Option Value) _ _); exact Own.cell hO 1 (by rfl) (by rfl))
      | ((with_reducible show Exists _); refine ⟨_, Own.old hO (by assumption) id, ?_⟩)
      | ((with_reducible show Exists _); refine ⟨_, _, _, Own.old hO (by assumption) id, ?_⟩)
      | ((with_reducible show And _ _); refine ⟨Own.old hO (by assumption) id, ?_⟩)
      | ((with_reducible show Exists _); refine ⟨_, Own.old hO (by assumption) (by assumption), ?_⟩)
      | ((with_reducible show Exists _); refine ⟨_, _, _, Own.old hO (by assumption) (by assumption), ?_⟩)
      | ((with_reducible show And _ _); refine ⟨Own.old hO (by assumption) (by assumption), ?_⟩)
      | fail
    exact ⟨rfl, hO.ext⟩
theorem radd_spec (a : Acc) (ns : List Int) (p : Option Addr) (l c : Nat) (h : Heap) (hs : Sl h p (ints ns)) (hl : ns.length = l) (hb : l < 35184372088832) :
    CallsH Try.prog 21 #[a.v, .slice p l c] h (fun v h' => v = (addS a ns).v ∧ Ext h h') := by
  refine vf21 _ _ _ _ _ _ _ h _ ?_
  unfold F21
  have hL := Lcl.start h
  refine hL.vnew fun b1 _ _ hL1 => hL1.vnew fun b3 _ _ hO => ?_
  clear hL hL1
  repeat' first
    | ((with_reducible show VNew _ _ _); refine Own.vnew hO fun bx _ _ hO2 => ?_; clear hO; have hO := hO2; clear hO2)
    | ((with_reducible show VSome _ _); refine VSome.mk ?_)
    | ((with_reducible show Exists _); refine ⟨_, Own.cell hO 0 (by rfl) (by rfl), ?_⟩)
    | ((with_reducible show Exists _); refine ⟨_, Own.cell hO 1 (by rfl) (by rfl), ?_⟩)
    | ((with_reducible show storeL _ _ _ _ _); refine Own.vstoreAll hO 0 (by rfl) (by rfl) (by rfl) fun _ hO2 => ?_; clear hO; have hO := hO2; clear hO2)
    | ((with_reducible show storeL _ _ _ _ _); refine Own.vstoreAll hO 1 (by rfl) (by rfl) (by rfl) fun _ hO2 => ?_; clear hO; have hO := hO2; clear hO2)
    | ((with_reducible show VStore _ _ _ _); refine Own.vstore hO 0 (by rfl) (by simp) fun _ hO2 => ?_; clear hO; have hO := hO2; clear hO2)
    | ((with_reducible show VStore _ _ _ _); refine Own.vstore hO 1 (by rfl) (by simp) fun _ hO2 => ?_; clear hO; have hO := hO2; clear hO2)
    | ((with_reducible show And _ _); refine ⟨Own.cell hO 0 (by rfl) (by rfl), ?_⟩)
    | ((with_reducible show And _ _); refine ⟨Own.cell hO 1 (by rfl) (by rfl), ?_⟩)
    | ((with_reducible show Exists _); refine ⟨_, _, _, Own.cell hO 0 (by rfl) (by rfl), ?_⟩)
    | ((with_reducible show Exists _); refine ⟨_, _, _, Own.cell hO 1 (by rfl) (by rfl), ?_⟩)
    | ((with_reducible show And _ _); refine And.intro (And.intro (Own.cell hO 0 (by rfl) (by rfl)) ?_) ?_)
    | ((with_reducible show And _ _); refine And.intro (And.intro (Own.cell hO 1 (by rfl) (by rfl)) ?_) ?_)
    | ((with_reducible show @Eq (Option Value) _ _); exact Own.cell hO 0 (by rfl) (by rfl))
    | ((with_reducible show @Eq (Option Value) _ _); exact Own.cell hO 1 (by rfl) (by rfl))
    | ((with_reducible show Exists _); refine ⟨_, Own.old hO (by assumption) id, ?_⟩)
    | ((with_reducible show Exists _); refine ⟨_, _, _, Own.old hO (by assumption) id, ?_⟩)
    | ((with_reducible show And _ _); refine ⟨Own.old hO (by assumption) id, ?_⟩)
    | ((with_reducible show Exists _); refine ⟨_, Own.old hO (by assumption) (by assumption), ?_⟩)
    | ((with_reducible show Exists _); refine ⟨_, _, _, Own.old hO (by assumption) (by assumption), ?_⟩)
    | ((with_reducible show And _ _); refine ⟨Own.old hO (by assumption) (by assumption), ?_⟩)
    | ((with_reducible show CallsH _ _ _ _ _); refine CallsH.mono (taken_spec a _) ?_; rintro _ _ ⟨rfl, hm⟩; (first | refine ⟨rfl, ?_⟩ | refine ⟨_, rfl, ?_⟩ | refine ⟨_, _, rfl, ?_⟩ | refine ⟨_, _, _, _, rfl, ?_⟩ | refine ⟨_, _, _, _, _, rfl, ?_⟩ | refine ⟨_, _, _, _, _, _, rfl, ?_⟩); have hnx := Own.next hO hm; clear hm; clear hO; have hO := hnx; clear hnx)
    | fail
  refine cond_split (fun hc => ?_) (fun hc => ?_)
  · have hn : ns = [] := List.eq_nil_of_length_eq_zero (by rw [hl]; simpa using hc)
    repeat' first
      | ((with_reducible show VNew _ _ _); refine Own.vnew hO fun _ _ _ hO2 => ?_; clear hO; have hO := hO2; clear hO2)
      | ((with_reducible show VSome _ _); refine VSome.mk ?_)
      | ((with_reducible show Exists _); refine ⟨_, Own.cell hO 0 (by rfl) (by rfl), ?_⟩)
      | ((with_reducible show Exists _); refine ⟨_, Own.cell hO 1 (by rfl) (by rfl), ?_⟩)
      | ((with_reducible show storeL _ _ _ _ _); refine Own.vstoreAll hO 0 (by rfl) (by rfl) (by rfl) fun _ hO2 => ?_; clear hO; have hO := hO2; clear hO2)
      | ((with_reducible show storeL _ _ _ _ _); refine Own.vstoreAll hO 1 (by rfl) (by rfl) (by rfl) fun _ hO2 => ?_; clear hO; have hO := hO2; clear hO2)
      | ((with_reducible show VStore _ _ _ _); refine Own.vstore hO 0 (by rfl) (by simp) fun _ hO2 => ?_; clear hO; have hO := hO2; clear hO2)
      | ((with_reducible show VStore _ _ _ _); refine Own.vstore hO 1 (by rfl) (by simp) fun _ hO2 => ?_; clear hO; have hO := hO2; clear hO2)
      | ((with_reducible show And _ _); refine ⟨Own.cell hO 0 (by rfl) (by rfl), ?_⟩)
      | ((with_reducible show And _ _); refine ⟨Own.cell hO 1 (by rfl) (by rfl), ?_⟩)
      | ((with_reducible show Exists _); refine ⟨_, _, _, Own.cell hO 0 (by rfl) (by rfl), ?_⟩)
      | ((with_reducible show Exists _); refine ⟨_, _, _, Own.cell hO 1 (by rfl) (by rfl), ?_⟩)
      | ((with_reducible show And _ _); refine And.intro (And.intro (Own.cell hO 0 (by rfl) (by rfl)) ?_) ?_)
      | ((with_reducible show And _ _); refine And.intro (And.intro (Own.cell hO 1 (by rfl) (by rfl)) ?_) ?_)
      | ((with_reducible show @Eq (Option Value) _ _); exact Own.cell hO 0 (by rfl) (by rfl))
      | ((with_reducible show @Eq (Option Value) _ _); exact Own.cell hO 1 (by rfl) (by rfl))
      | ((with_reducible show Exists _); refine ⟨_, Own.old hO (by assumption) id, ?_⟩)
      | ((with_reducible show Exists _); refine ⟨_, _, _, Own.old hO (by assumption) id, ?_⟩)
      | ((with_reducible show And _ _); refine ⟨Own.old hO (by assumption) id, ?_⟩)
      | ((with_reducible show Exists _); refine ⟨_, Own.old hO (by assumption) (by assumption), ?_⟩)
      | ((with_reducible show Exists _); refine ⟨_, _, _, Own.old hO (by assumption) (by assumption), ?_⟩)
      | ((with_reducible show And _ _); refine ⟨Own.old hO (by assumption) (by assumption), ?_⟩)
      | fail
    exact ⟨by subst hn; rfl, hO.ext⟩
  · have h0 : 0 < l := Nat.pos_of_ne_zero fun e => by simp [e] at hc
    obtain ⟨n0, nr, rfl⟩ : ∃ n0 nr, ns = n0 :: nr := List.exists_cons_of_length_pos (by omega)
    repeat' first
      | ((with_reducible show VNew _ _ _); refine Own.vnew hO fun _ _ _ hO2 => ?_; clear hO; have hO := hO2; clear hO2)
      | ((with_reducible show VSome _ _); refine VSome.mk ?_)
      | ((with_reducible show Exists _); refine ⟨_, Own.cell hO 0 (by rfl) (by rfl), ?_⟩)
      | ((with_reducible show Exists _); refine ⟨_, Own.cell hO 1 (by rfl) (by rfl), ?_⟩)
      | ((with_reducible show storeL _ _ _ _ _); refine Own.vstoreAll hO 0 (by rfl) (by rfl) (by rfl) fun _ hO2 => ?_; clear hO; have hO := hO2; clear hO2)
      | ((with_reducible show storeL _ _ _ _ _); refine Own.vstoreAll hO 1 (by rfl) (by rfl) (by rfl) fun _ hO2 => ?_; clear hO; have hO := hO2; clear hO2)
      | ((with_reducible show VStore _ _ _ _); refine Own.vstore hO 0 (by rfl) (by simp) fun _ hO2 => ?_; clear hO; have hO := hO2; clear hO2)
      | ((with_reducible show VStore _ _ _ _); refine Own.vstore hO 1 (by rfl) (by simp) fun _ hO2 => ?_; clear hO; have hO := hO2; clear hO2)
      | ((with_reducible show And _ _); refine ⟨Own.cell hO 0 (by rfl) (by rfl), ?_⟩)
      | ((with_reducible show And _ _); refine ⟨Own.cell hO 1 (by rfl) (by rfl), ?_⟩)
      | ((with_reducible show Exists _); refine ⟨_, _, _, Own.cell hO 0 (by rfl) (by rfl), ?_⟩)
      | ((with_reducible show Exists _); refine ⟨_, _, _, Own.cell hO 1 (by rfl) (by rfl), ?_⟩)
      | ((with_reducible show And _ _); refine And.intro (And.intro (Own.cell hO 0 (by rfl) (by rfl)) ?_) ?_)
      | ((with_reducible show And _ _); refine And.intro (And.intro (Own.cell hO 1 (by rfl) (by rfl)) ?_) ?_)
      | ((with_reducible show @Eq (Option Value) _ _); exact Own.cell hO 0 (by rfl) (by rfl))
      | ((with_reducible show @Eq (Option Value) _ _); exact Own.cell hO 1 (by rfl) (by rfl))
      | ((with_reducible show Exists _); refine ⟨_, Own.old hO (by assumption) id, ?_⟩)
      | ((with_reducible show Exists _); refine ⟨_, _, _, Own.old hO (by assumption) id, ?_⟩)
      | ((with_reducible show And _ _); refine ⟨Own.old hO (by assumption) id, ?_⟩)
      | ((with_reducible show Exists _); refine ⟨_, Own.old hO (by assumption) (by assumption), ?_⟩)
      | ((with_reducible show Exists _); refine ⟨_, _, _, Own.old hO (by assumption) (by assumption), ?_⟩)
      | ((with_reducible show And _ _); refine ⟨Own.old hO (by assumption) (by assumption), ?_⟩)
      | fail
    generalize hT : taken a = T at hO ⊢
    have hpos : decide (T.c > 0) = !noneB T := by rw [← hT]; exact taken_pos a
    rw [hpos]
    refine ⟨fun n hh f i => ∃ k : Nat, i = k ∧ k ≤ l ∧ n = l - k ∧ f = (!noneB T || decide (0 < k)) ∧
      ∃ lo hi, (k = 0 → lo = T.lo ∧ hi = T.hi) ∧ (0 < k → lo = minF (if noneB T then n0 else T.lo) ((n0 :: nr).take k) ∧ hi = maxF (if noneB T then n0 else T.hi) ((n0 :: nr).take k)) ∧
      Lcl h hh [(b3, #[.int .i64 0, .int .i64 0, .int .i64 0, .int .i64 0], 39), (b1, #[.int .i64 T.c, .int .i64 (sumF T.s ((n0 :: nr).take k)), .int .i64 lo, .int .i64 hi], 39)],
      ⟨_, 0, rfl, by omega, rfl, by simp, T.lo, T.hi, fun _ => ⟨rfl, rfl⟩, fun h => by omega, hO⟩, ?_⟩
    clear hO
    rintro n hh _ f i ⟨k, rfl, hk, rfl, rfl, lo, hi, hz, hp, hO⟩
    refine cond_split (fun hc => ?_) (fun hc => ?_)
    · have hkl : k < l := by simpa using hc
      have hidx : ∀ {h1 : Heap} {K : Addr → Prop}, Ext h h1 → (∀ ad n, (n0 :: nr)[k]? = some n → cellH h1 ad = some (.int .i64 n) → K ad) → VIdx p l (k : Int) 1 K := fun m K => hs.int m hl (by omega) (by omega) (by simpa using K)
      repeat' first
        | ((with_reducible show VNew _ _ _); refine Own.vnew hO fun _ _ _ hO2 => ?_; clear hO; have hO := hO2; clear hO2)
        | ((with_reducible show VSome _ _); refine VSome.mk ?_)
        | ((with_reducible show Exists _); refine ⟨_, Own.cell hO 0 (by rfl) (by rfl), ?_⟩)
        | ((with_reducible show Exists _); refine ⟨_, Own.cell hO 1 (by rfl) (by rfl), ?_⟩)
        | ((with_reducible show storeL _ _ _ _ _); refine Own.vstoreAll hO 0 (by rfl) (by rfl) (by rfl) fun _ hO2 => ?_; clear hO; have hO := hO2; clear hO2)
        | ((with_reducible show storeL _ _ _ _ _); refine Own.vstoreAll hO 1 (by rfl) (by rfl) (by rfl) fun _ hO2 => ?_; clear hO; have hO := hO2; clear hO2)
        | ((with_reducible show VStore _ _ _ _); refine Own.vstore hO 0 (by rfl) (by simp) fun _ hO2 => ?_; clear hO; have hO := hO2; clear hO2)
        | ((with_reducible show VStore _ _ _ _); refine Own.vstore hO 1 (by rfl) (by simp) fun _ hO2 => ?_; clear hO; have hO := hO2; clear hO2)
        | ((with_reducible show And _ _); refine ⟨Own.cell hO 0 (by rfl) (by rfl), ?_⟩)
        | ((with_reducible show And _ _); refine ⟨Own.cell hO 1 (by rfl) (by rfl), ?_⟩)
        | ((with_reducible show Exists _); refine ⟨_, _, _, Own.cell hO 0 (by rfl) (by rfl), ?_⟩)
        | ((with_reducible show Exists _); refine ⟨_, _, _, Own.cell hO 1 (by rfl) (by rfl), ?_⟩)
        | ((with_reducible show And _ _); refine And.intro (And.intro (Own.cell hO 0 (by rfl) (by rfl)) ?_) ?_)
        | ((with_reducible show And _ _); refine And.intro (And.intro (Own.cell hO 1 (by rfl) (by rfl)) ?_) ?_)
        | ((with_reducible show @Eq (Option Value) _ _); exact Own.cell hO 0 (by rfl) (by rfl))
        | ((with_reducible show @Eq (Option Value) _ _); exact Own.cell hO 1 (by rfl) (by rfl))
        | ((with_reducible show Exists _); refine ⟨_, Own.old hO (by assumption) id, ?_⟩)
        | ((with_reducible show Exists _); refine ⟨_, _, _, Own.old hO (by assumption) id, ?_⟩)
        | ((with_reducible show And _ _); refine ⟨Own.old hO (by assumption) id, ?_⟩)
        | ((with_reducible show Exists _); refine ⟨_, Own.old hO (by assumption) (by assumption), ?_⟩)
        | ((with_reducible show Exists _); refine ⟨_, _, _, Own.old hO (by assumption) (by assumption), ?_⟩)
        | ((with_reducible show And _ _); refine ⟨Own.old hO (by assumption) (by assumption), ?_⟩)
        | fail
      refine hidx hO.ext fun ad n hn hcell => ⟨_, hcell, ?_⟩
      clear hcell
      have same : ∀ n', (n0 :: nr)[k]? = some n' → n' = n := fun n' h' => by rw [hn] at h'; cases h'; rfl
      repeat' first
        | ((with_reducible show VNew _ _ _); refine Own.vnew hO fun _ _ _ hO2 => ?_; clear hO; have hO := hO2; clear hO2)
        | ((with_reducible show VSome _ _); refine VSome.mk ?_)
        | ((with_reducible show Exists _); refine ⟨_, Own.cell hO 0 (by rfl) (by rfl), ?_⟩)
        | ((with_reducible show Exists _); refine ⟨_, Own.cell hO 1 (by rfl) (by rfl), ?_⟩)
        | ((with_reducible show storeL _ _ _ _ _); refine Own.vstoreAll hO 0 (by rfl) (by rfl) (by rfl) fun _ hO2 => ?_; clear hO; have hO := hO2; clear hO2)
        | ((with_reducible show storeL _ _ _ _ _); refine Own.vstoreAll hO 1 (by rfl) (by rfl) (by rfl) fun _ hO2 => ?_; clear hO; have hO := hO2; clear hO2)
        | ((with_reducible show VStore _ _ _ _); refine Own.vstore hO 0 (by rfl) (by simp) fun _ hO2 => ?_; clear hO; have hO := hO2; clear hO2)
        | ((with_reducible show VStore _ _ _ _); refine Own.vstore hO 1 (by rfl) (by simp) fun _ hO2 => ?_; clear hO; have hO := hO2; clear hO2)
        | ((with_reducible show And _ _); refine ⟨Own.cell hO 0 (by rfl) (by rfl), ?_⟩)
        | ((with_reducible show And _ _); refine ⟨Own.cell hO 1 (by rfl) (by rfl), ?_⟩)
        | ((with_reducible show Exists _); refine ⟨_, _, _, Own.cell hO 0 (by rfl) (by rfl), ?_⟩)
        | ((with_reducible show Exists _); refine ⟨_, _, _, Own.cell hO 1 (by rfl) (by rfl), ?_⟩)
        | ((with_reducible show And _ _); refine And.intro (And.intro (Own.cell hO 0 (by rfl) (by rfl)) ?_) ?_)
        | ((with_reducible show And _ _); refine And.intro (And.intro (Own.cell hO 1 (by rfl) (by rfl)) ?_) ?_)
        | ((with_reducible show @Eq (Option Value) _ _); exact Own.cell hO 0 (by rfl) (by rfl))
        | ((with_reducible show @Eq (Option Value) _ _); exact Own.cell hO 1 (by rfl) (by rfl))
        | ((with_reducible show Exists _); refine ⟨_, Own.old hO (by assumption) id, ?_⟩)
        | ((with_reducible show Exists _); refine ⟨_, _, _, Own.old hO (by assumption) id, ?_⟩)
        | ((with_reducible show And _ _); refine ⟨Own.old hO (by assumption) id, ?_⟩)
        | ((with_reducible show Exists _); refine ⟨_, Own.old hO (by assumption) (by assumption), ?_⟩)
        | ((with_reducible show Exists _); refine ⟨_, _, _, Own.old hO (by assumption) (by assumption), ?_⟩)
        | ((with_reducible show And _ _); refine ⟨Own.old hO (by assumption) (by assumption), ?_⟩)
        | fail
      have e : sumF T.s ((n0 :: nr).take (k + 1)) = w64 (sumF T.s ((n0 :: nr).take k) + n) := foldl_take _ _ hn
      have hlo : minF (if noneB T then n0 else T.lo) ((n0 :: nr).take (k + 1)) = if (!(!noneB T || decide (0 < k))) = true ∨ n < lo then n else lo := by
        have e1 : minF (if noneB T then n0 else T.lo) ((n0 :: nr).take (k + 1)) = minI (minF (if noneB T then n0 else T.lo) ((n0 :: nr).take k)) n := foldl_take _ _ hn
        rw [e1]
        rcases Nat.eq_zero_or_pos k with rfl | hk0
        · have hn' : n = n0 := by simpa using hn.symm
          subst hn'
          have := (hz rfl).1
          cases hb : noneB T <;> simp [minF, minI, this]
        · rw [← (hp hk0).1]
          simp [hk0, minI]
      have hhi : maxF (if noneB T then n0 else T.hi) ((n0 :: nr).take (k + 1)) = if (!(!noneB T || decide (0 < k))) = true ∨ n > hi then n else hi := by
        have e1 : maxF (if noneB T then n0 else T.hi) ((n0 :: nr).take (k + 1)) = maxI (maxF (if noneB T then n0 else T.hi) ((n0 :: nr).take k)) n := foldl_take _ _ hn
        rw [e1]
        rcases Nat.eq_zero_or_pos k with rfl | hk0
        · have hn' : n = n0 := by simpa using hn.symm
          subst hn'
          have := (hz rfl).2
          cases hb : noneB T <;> simp [maxF, maxI, this]
        · rw [← (hp hk0).2]
          simp [hk0, maxI]
      generalize hlo' : (if (!(!noneB T || decide (0 < k))) = true ∨ n < lo then n else lo) = lo' at hlo
      generalize hhi' : (if (!(!noneB T || decide (0 < k))) = true ∨ n > hi then n else hi) = hi' at hhi
      refine ⟨fun h' => Lcl h h' [(b3, #[.int .i64 0, .int .i64 0, .int .i64 0, .int .i64 0], 39), (b1, #[.int .i64 T.c, .int .i64 (sumF T.s ((n0 :: nr).take (k + 1))), .int .i64 lo', .int .i64 hi], 39)], ?_, ?_⟩
      · rw [e]
        refine cond_split (fun hd => ?_) (fun hd => ?_)
        · refine hidx hO.ext fun ad n' hn' hcell => ⟨_, hcell, ?_⟩
          rw [same n' hn']
          rw [if_pos (.inl hd)] at hlo'
          subst hlo'
          repeat' first
            | ((with_reducible show VNew _ _ _); refine Own.vnew hO fun _ _ _ hO2 => ?_; clear hO; have hO := hO2; clear hO2)
            | ((with_reducible show VSome _ _); refine VSome.mk ?_)
            | ((with_reducible show Exists _); refine ⟨_, Own.cell hO 0 (by rfl) (by rfl), ?_⟩)
            | ((with_reducible show Exists _); refine ⟨_, Own.cell hO 1 (by rfl) (by rfl), ?_⟩)
            | ((with_reducible show storeL _ _ _ _ _); refine Own.vstoreAll hO 0 (by rfl) (by rfl) (by rfl) fun _ hO2 => ?_; clear hO; have hO := hO2; clear hO2)
            | ((with_reducible show storeL _ _ _ _ _); refine Own.vstoreAll hO 1 (by rfl) (by rfl) (by rfl) fun _ hO2 => ?_; clear hO; have hO := hO2; clear hO2)
            | ((with_reducible show VStore _ _ _ _); refine Own.vstore hO 0 (by rfl) (by simp) fun _ hO2 => ?_; clear hO; have hO := hO2; clear hO2)
            | ((with_reducible show VStore _ _ _ _); refine Own.vstore hO 1 (by rfl) (by simp) fun _ hO2 => ?_; clear hO; have hO := hO2; clear hO2)
            | ((with_reducible show And _ _); refine ⟨Own.cell hO 0 (by rfl) (by rfl), ?_⟩)
            | ((with_reducible show And _ _); refine ⟨Own.cell hO 1 (by rfl) (by rfl), ?_⟩)
            | ((with_reducible show Exists _); refine ⟨_, _, _, Own.cell hO 0 (by rfl) (by rfl), ?_⟩)
            | ((with_reducible show Exists _); refine ⟨_, _, _, Own.cell hO 1 (by rfl) (by rfl), ?_⟩)
            | ((with_reducible show And _ _); refine And.intro (And.intro (Own.cell hO 0 (by rfl) (by rfl)) ?_) ?_)
            | ((with_reducible show And _ _); refine And.intro (And.intro (Own.cell hO 1 (by rfl) (by rfl)) ?_) ?_)
            | ((with_reducible show @Eq (Option Value) _ _); exact Own.cell hO 0 (by rfl) (by rfl))
            | ((with_reducible show @Eq (Option Value) _ _); exact Own.cell hO 1 (by rfl) (by rfl))
            | ((with_reducible show Exists _); refine ⟨_, Own.old hO (by assumption) id, ?_⟩)
            | ((with_reducible show Exists _); refine ⟨_, _, _, Own.old hO (by assumption) id, ?_⟩)
            | ((with_reducible show And _ _); refine ⟨Own.old hO (by assumption) id, ?_⟩)
            | ((with_reducible show Exists _); refine ⟨_, Own.old hO (by assumption) (by assumption), ?_⟩)
            | ((with_reducible show Exists _); refine ⟨_, _, _, Own.old hO (by assumption) (by assumption), ?_⟩)
            | ((with_reducible show And _ _); refine ⟨Own.old hO (by assumption) (by assumption), ?_⟩)
            | fail
          exact hO
        · refine hidx hO.ext fun ad n' hn' hcell => ⟨_, hcell, ?_⟩
          rw [same n' hn']
          clear hcell
          repeat' first
            | ((with_reducible show VNew _ _ _); refine Own.vnew hO fun _ _ _ hO2 => ?_; clear hO; have hO := hO2; clear hO2)
            | ((with_reducible show VSome _ _); refine VSome.mk ?_)
            | ((with_reducible show Exists _); refine ⟨_, Own.cell hO 0 (by rfl) (by rfl), ?_⟩)
            | ((with_reducible show Exists _); refine ⟨_, Own.cell hO 1 (by rfl) (by rfl), ?_⟩)
            | ((with_reducible show storeL _ _ _ _ _); refine Own.vstoreAll hO 0 (by rfl) (by rfl) (by rfl) fun _ hO2 => ?_; clear hO; have hO := hO2; clear hO2)
            | ((with_reducible show storeL _ _ _ _ _); refine Own.vstoreAll hO 1 (by rfl) (by rfl) (by rfl) fun _ hO2 => ?_; clear hO; have hO := hO2; clear hO2)
            | ((with_reducible show VStore _ _ _ _); refine Own.vstore hO 0 (by rfl) (by simp) fun _ hO2 => ?_; clear hO; have hO := hO2; clear hO2)
            | ((with_reducible show VStore _ _ _ _); refine Own.vstore hO 1 (by rfl) (by simp) fun _ hO2 => ?_; clear hO; have hO := hO2; clear hO2)
            | ((with_reducible show And _ _); refine ⟨Own.cell hO 0 (by rfl) (by rfl), ?_⟩)
            | ((with_reducible show And _ _); refine ⟨Own.cell hO 1 (by rfl) (by rfl), ?_⟩)
            | ((with_reducible show Exists _); refine ⟨_, _, _, Own.cell hO 0 (by rfl) (by rfl), ?_⟩)
            | ((with_reducible show Exists _); refine ⟨_, _, _, Own.cell hO 1 (by rfl) (by rfl), ?_⟩)
            | ((with_reducible show And _ _); refine And.intro (And.intro (Own.cell hO 0 (by rfl) (by rfl)) ?_) ?_)
            | ((with_reducible show And _ _); refine And.intro (And.intro (Own.cell hO 1 (by rfl) (by rfl)) ?_) ?_)
            | ((with_reducible show @Eq (Option Value) _ _); exact Own.cell hO 0 (by rfl) (by rfl))
            | ((with_reducible show @Eq (Option Value) _ _); exact Own.cell hO 1 (by rfl) (by rfl))
            | ((with_reducible show Exists _); refine ⟨_, Own.old hO (by assumption) id, ?_⟩)
            | ((with_reducible show Exists _); refine ⟨_, _, _, Own.old hO (by assumption) id, ?_⟩)
            | ((with_reducible show And _ _); refine ⟨Own.old hO (by assumption) id, ?_⟩)
            | ((with_reducible show Exists _); refine ⟨_, Own.old hO (by assumption) (by assumption), ?_⟩)
            | ((with_reducible show Exists _); refine ⟨_, _, _, Own.old hO (by assumption) (by assumption), ?_⟩)
            | ((with_reducible show And _ _); refine ⟨Own.old hO (by assumption) (by assumption), ?_⟩)
            | fail
          refine cond_split (fun he => ?_) (fun he => ?_)
          · refine hidx hO.ext fun ad n' hn' hcell => ⟨_, hcell, ?_⟩
            rw [same n' hn']
            rw [if_pos (.inr (of_decide_eq_true he))] at hlo'
            subst hlo'
            repeat' first
              | ((with_reducible show VNew _ _ _); refine Own.vnew hO fun _ _ _ hO2 => ?_; clear hO; have hO := hO2; clear hO2)
              | ((with_reducible show VSome _ _); refine VSome.mk ?_)
              | ((with_reducible show Exists _); refine ⟨_, Own.cell hO 0 (by rfl) (by rfl), ?_⟩)
              | ((with_reducible show Exists _); refine ⟨_, Own.cell hO 1 (by rfl) (by rfl), ?_⟩)
              | ((with_reducible show storeL _ _ _ _ _); refine Own.vstoreAll hO 0 (by rfl) (by rfl) (by rfl) fun _ hO2 => ?_; clear hO; have hO := hO2; clear hO2)
              | ((with_reducible show storeL _ _ _ _ _); refine Own.vstoreAll hO 1 (by rfl) (by rfl) (by rfl) fun _ hO2 => ?_; clear hO; have hO := hO2; clear hO2)
              | ((with_reducible show VStore _ _ _ _); refine Own.vstore hO 0 (by rfl) (by simp) fun _ hO2 => ?_; clear hO; have hO := hO2; clear hO2)
              | ((with_reducible show VStore _ _ _ _); refine Own.vstore hO 1 (by rfl) (by simp) fun _ hO2 => ?_; clear hO; have hO := hO2; clear hO2)
              | ((with_reducible show And _ _); refine ⟨Own.cell hO 0 (by rfl) (by rfl), ?_⟩)
              | ((with_reducible show And _ _); refine ⟨Own.cell hO 1 (by rfl) (by rfl), ?_⟩)
              | ((with_reducible show Exists _); refine ⟨_, _, _, Own.cell hO 0 (by rfl) (by rfl), ?_⟩)
              | ((with_reducible show Exists _); refine ⟨_, _, _, Own.cell hO 1 (by rfl) (by rfl), ?_⟩)
              | ((with_reducible show And _ _); refine And.intro (And.intro (Own.cell hO 0 (by rfl) (by rfl)) ?_) ?_)
              | ((with_reducible show And _ _); refine And.intro (And.intro (Own.cell hO 1 (by rfl) (by rfl)) ?_) ?_)
              | ((with_reducible show @Eq (Option Value) _ _); exact Own.cell hO 0 (by rfl) (by rfl))
              | ((with_reducible show @Eq (Option Value) _ _); exact Own.cell hO 1 (by rfl) (by rfl))
              | ((with_reducible show Exists _); refine ⟨_, Own.old hO (by assumption) id, ?_⟩)
              | ((with_reducible show Exists _); refine ⟨_, _, _, Own.old hO (by assumption) id, ?_⟩)
              | ((with_reducible show And _ _); refine ⟨Own.old hO (by assumption) id, ?_⟩)
              | ((with_reducible show Exists _); refine ⟨_, Own.old hO (by assumption) (by assumption), ?_⟩)
              | ((with_reducible show Exists _); refine ⟨_, _, _, Own.old hO (by assumption) (by assumption), ?_⟩)
              | ((with_reducible show And _ _); refine ⟨Own.old hO (by assumption) (by assumption), ?_⟩)
              | fail
            exact hO
          · rw [if_neg (fun x => x.elim (fun x => by rw [hd] at x; cases x) (of_decide_eq_false he))] at hlo'
            subst hlo'
            exact hO
      clear hO
      rintro h5 _ hO
      refine ⟨fun h' => Lcl h h' [(b3, #[.int .i64 0, .int .i64 0, .int .i64 0, .int .i64 0], 39), (b1, #[.int .i64 T.c, .int .i64 (sumF T.s ((n0 :: nr).take (k + 1))), .int .i64 lo', .int .i64 hi'], 39)], ?_, ?_⟩
      · refine cond_split (fun hd => ?_) (fun hd => ?_)
        · refine hidx hO.ext fun ad n' hn' hcell => ⟨_, hcell, ?_⟩
          rw [same n' hn']
          rw [if_pos (.inl hd)] at hhi'
          subst hhi'
          repeat' first
            | ((with_reducible show VNew _ _ _); refine Own.vnew hO fun _ _ _ hO2 => ?_; clear hO; have hO := hO2; clear hO2)
            | ((with_reducible show VSome _ _); refine VSome.mk ?_)
            | ((with_reducible show Exists _); refine ⟨_, Own.cell hO 0 (by rfl) (by rfl), ?_⟩)
            | ((with_reducible show Exists _); refine ⟨_, Own.cell hO 1 (by rfl) (by rfl), ?_⟩)
            | ((with_reducible show storeL _ _ _ _ _); refine Own.vstoreAll hO 0 (by rfl) (by rfl) (by rfl) fun _ hO2 => ?_; clear hO; have hO := hO2; clear hO2)
            | ((with_reducible show storeL _ _ _ _ _); refine Own.vstoreAll hO 1 (by rfl) (by rfl) (by rfl) fun _ hO2 => ?_; clear hO; have hO := hO2; clear hO2)
            | ((with_reducible show VStore _ _ _ _); refine Own.vstore hO 0 (by rfl) (by simp) fun _ hO2 => ?_; clear hO; have hO := hO2; clear hO2)
            | ((with_reducible show VStore _ _ _ _); refine Own.vstore hO 1 (by rfl) (by simp) fun _ hO2 => ?_; clear hO; have hO := hO2; clear hO2)
            | ((with_reducible show And _ _); refine ⟨Own.cell hO 0 (by rfl) (by rfl), ?_⟩)
            | ((with_reducible show And _ _); refine ⟨Own.cell hO 1 (by rfl) (by rfl), ?_⟩)
            | ((with_reducible show Exists _); refine ⟨_, _, _, Own.cell hO 0 (by rfl) (by rfl), ?_⟩)
            | ((with_reducible show Exists _); refine ⟨_, _, _, Own.cell hO 1 (by rfl) (by rfl), ?_⟩)
            | ((with_reducible show And _ _); refine And.intro (And.intro (Own.cell hO 0 (by rfl) (by rfl)) ?_) ?_)
            | ((with_reducible show And _ _); refine And.intro (And.intro (Own.cell hO 1 (by rfl) (by rfl)) ?_) ?_)
            | ((with_reducible show @Eq (Option Value) _ _); exact Own.cell hO 0 (by rfl) (by rfl))
            | ((with_reducible show @Eq (Option Value) _ _); exact Own.cell hO 1 (by rfl) (by rfl))
            | ((with_reducible show Exists _); refine ⟨_, Own.old hO (by assumption) id, ?_⟩)
            | ((with_reducible show Exists _); refine ⟨_, _, _, Own.old hO (by assumption) id, ?_⟩)
            | ((with_reducible show And _ _); refine ⟨Own.old hO (by assumption) id, ?_⟩)
            | ((with_reducible show Exists _); refine ⟨_, Own.old hO (by assumption) (by assumption), ?_⟩)
            | ((with_reducible show Exists _); refine ⟨_, _, _, Own.old hO (by assumption) (by assumption), ?_⟩)
            | ((with_reducible show And _ _); refine ⟨Own.old hO (by assumption) (by assumption), ?_⟩)
            | fail
          exact hO
        · refine hidx hO.ext fun ad n' hn' hcell => ⟨_, hcell, ?_⟩
          rw [same n' hn']
          clear hcell
          repeat' first
            | ((with_reducible show VNew _ _ _); refine Own.vnew hO fun _ _ _ hO2 => ?_; clear hO; have hO := hO2; clear hO2)
            | ((with_reducible show VSome _ _); refine VSome.mk ?_)
            | ((with_reducible show Exists _); refine ⟨_, Own.cell hO 0 (by rfl) (by rfl), ?_⟩)
            | ((with_reducible show Exists _); refine ⟨_, Own.cell hO 1 (by rfl) (by rfl), ?_⟩)
            | ((with_reducible show storeL _ _ _ _ _); refine Own.vstoreAll hO 0 (by rfl) (by rfl) (by rfl) fun _ hO2 => ?_; clear hO; have hO := hO2; clear hO2)
            | ((with_reducible show storeL _ _ _ _ _); refine Own.vstoreAll hO 1 (by rfl) (by rfl) (by rfl) fun _ hO2 => ?_; clear hO; have hO := hO2; clear hO2)
            | ((with_reducible show VStore _ _ _ _); refine Own.vstore hO 0 (by rfl) (by simp) fun _ hO2 => ?_; clear hO; have hO := hO2; clear hO2)
            | ((with_reducible show VStore _ _ _ _); refine Own.vstore hO 1 (by rfl) (by simp) fun _ hO2 => ?_; clear hO; have hO := hO2; clear hO2)
            | ((with_reducible show And _ _); refine ⟨Own.cell hO 0 (by rfl) (by rfl), ?_⟩)
            | ((with_reducible show And _ _); refine ⟨Own.cell hO 1 (by rfl) (by rfl), ?_⟩)
            | ((with_reducible show Exists _); refine ⟨_, _, _, Own.cell hO 0 (by rfl) (by rfl), ?_⟩)
            | ((with_reducible show Exists _); refine ⟨_, _, _, Own.cell hO 1 (by rfl) (by rfl), ?_⟩)
            | ((with_reducible show And _ _); refine And.intro (And.intro (Own.cell hO 0 (by rfl) (by rfl)) ?_) ?_)
            | ((with_reducible show And _ _); refine And.intro (And.intro (Own.cell hO 1 (by rfl) (by rfl)) ?_) ?_)
            | ((with_reducible show @Eq (Option Value) _ _); exact Own.cell hO 0 (by rfl) (by rfl))
            | ((with_reducible show @Eq (Option Value) _ _); exact Own.cell hO 1 (by rfl) (by rfl))
            | ((with_reducible show Exists _); refine ⟨_, Own.old hO (by assumption) id, ?_⟩)
            | ((with_reducible show Exists _); refine ⟨_, _, _, Own.old hO (by assumption) id, ?_⟩)
            | ((with_reducible show And _ _); refine ⟨Own.old hO (by assumption) id, ?_⟩)
            | ((with_reducible show Exists _); refine ⟨_, Own.old hO (by assumption) (by assumption), ?_⟩)
            | ((with_reducible show Exists _); refine ⟨_, _, _, Own.old hO (by assumption) (by assumption), ?_⟩)
            | ((with_reducible show And _ _); refine ⟨Own.old hO (by assumption) (by assumption), ?_⟩)
            | fail
          refine cond_split (fun he => ?_) (fun he => ?_)
          · refine hidx hO.ext fun ad n' hn' hcell => ⟨_, hcell, ?_⟩
            rw [same n' hn']
            rw [if_pos (.inr (of_decide_eq_true he))] at hhi'
            subst hhi'
            repeat' first
              | ((with_reducible show VNew _ _ _); refine Own.vnew hO fun _ _ _ hO2 => ?_; clear hO; have hO := hO2; clear hO2)
              | ((with_reducible show VSome _ _); refine VSome.mk ?_)
              | ((with_reducible show Exists _); refine ⟨_, Own.cell hO 0 (by rfl) (by rfl), ?_⟩)
              | ((with_reducible show Exists _); refine ⟨_, Own.cell hO 1 (by rfl) (by rfl), ?_⟩)
              | ((with_reducible show storeL _ _ _ _ _); refine Own.vstoreAll hO 0 (by rfl) (by rfl) (by rfl) fun _ hO2 => ?_; clear hO; have hO := hO2; clear hO2)
              | ((with_reducible show storeL _ _ _ _ _); refine Own.vstoreAll hO 1 (by rfl) (by rfl) (by rfl) fun _ hO2 => ?_; clear hO; have hO := hO2; clear hO2)
              | ((with_reducible show VStore _ _ _ _); refine Own.vstore hO 0 (by rfl) (by simp) fun _ hO2 => ?_; clear hO; have hO := hO2; clear hO2)
              | ((with_reducible show VStore _ _ _ _); refine Own.vstore hO 1 (by rfl) (by simp) fun _ hO2 => ?_; clear hO; have hO := hO2; clear hO2)
              | ((with_reducible show And _ _); refine ⟨Own.cell hO 0 (by rfl) (by rfl), ?_⟩)
              | ((with_reducible show And _ _); refine ⟨Own.cell hO 1 (by rfl) (by rfl), ?_⟩)
              | ((with_reducible show Exists _); refine ⟨_, _, _, Own.cell hO 0 (by rfl) (by rfl), ?_⟩)
              | ((with_reducible show Exists _); refine ⟨_, _, _, Own.cell hO 1 (by rfl) (by rfl), ?_⟩)
              | ((with_reducible show And _ _); refine And.intro (And.intro (Own.cell hO 0 (by rfl) (by rfl)) ?_) ?_)
              | ((with_reducible show And _ _); refine And.intro (And.intro (Own.cell hO 1 (by rfl) (by rfl)) ?_) ?_)
              | ((with_reducible show @Eq (Option Value) _ _); exact Own.cell hO 0 (by rfl) (by rfl))
              | ((with_reducible show @Eq (Option Value) _ _); exact Own.cell hO 1 (by rfl) (by rfl))
              | ((with_reducible show Exists _); refine ⟨_, Own.old hO (by assumption) id, ?_⟩)
              | ((with_reducible show Exists _); refine ⟨_, _, _, Own.old hO (by assumption) id, ?_⟩)
              | ((with_reducible show And _ _); refine ⟨Own.old hO (by assumption) id, ?_⟩)
              | ((with_reducible show Exists _); refine ⟨_, Own.old hO (by assumption) (by assumption), ?_⟩)
              | ((with_reducible show Exists _); refine ⟨_, _, _, Own.old hO (by assumption) (by assumption), ?_⟩)
              | ((with_reducible show And _ _); refine ⟨Own.old hO (by assumption) (by assumption), ?_⟩)
              | fail
            exact hO
          · rw [if_neg (fun x => x.elim (fun x => by rw [hd] at x; cases x) (of_decide_eq_false he))] at hhi'
            subst hhi'
            exact hO
      clear hO
      rintro h6 _ hO
      exact ⟨_, by omega, k + 1, wrap_nat hkl (by omega), hkl, rfl, by simp, lo', hi', fun h => by omega, fun _ => ⟨hlo.symm, hhi.symm⟩, hO⟩
    · have hkl : k = l := by
        have : ¬ k < l := by simpa using hc
        omega
      subst hkl
      have ht : (n0 :: nr).take k = n0 :: nr := List.take_of_length_le (by omega)
      rw [ht] at hO hp
      obtain ⟨rfl, rfl⟩ := hp h0
      repeat' first
        | ((with_reducible show VNew _ _ _); refine Own.vnew hO fun _ _ _ hO2 => ?_; clear hO; have hO := hO2; clear hO2)
        | ((with_reducible show VSome _ _); refine VSome.mk ?_)
        | ((with_reducible show Exists _); refine ⟨_, Own.cell hO 0 (by rfl) (by rfl), ?_⟩)
        | ((with_reducible show Exists _); refine ⟨_, Own.cell hO 1 (by rfl) (by rfl), ?_⟩)
        | ((with_reducible show storeL _ _ _ _ _); refine Own.vstoreAll hO 0 (by rfl) (by rfl) (by rfl) fun _ hO2 => ?_; clear hO; have hO := hO2; clear hO2)
        | ((with_reducible show storeL _ _ _ _ _); refine Own.vstoreAll hO 1 (by rfl) (by rfl) (by rfl) fun _ hO2 => ?_; clear hO; have hO := hO2; clear hO2)
        | ((with_reducible show VStore _ _ _ _); refine Own.vstore hO 0 (by rfl) (by simp) fun _ hO2 => ?_; clear hO; have hO := hO2; clear hO2)
        | ((with_reducible show VStore _ _ _ _); refine Own.vstore hO 1 (by rfl) (by simp) fun _ hO2 => ?_; clear hO; have hO := hO2; clear hO2)
        | ((with_reducible show And _ _); refine ⟨Own.cell hO 0 (by rfl) (by rfl), ?_⟩)
        | ((with_reducible show And _ _); refine ⟨Own.cell hO 1 (by rfl) (by rfl), ?_⟩)
        | ((with_reducible show Exists _); refine ⟨_, _, _, Own.cell hO 0 (by rfl) (by rfl), ?_⟩)
        | ((with_reducible show Exists _); refine ⟨_, _, _, Own.cell hO 1 (by rfl) (by rfl), ?_⟩)
        | ((with_reducible show And _ _); refine And.intro (And.intro (Own.cell hO 0 (by rfl) (by rfl)) ?_) ?_)
        | ((with_reducible show And _ _); refine And.intro (And.intro (Own.cell hO 1 (by rfl) (by rfl)) ?_) ?_)
        | ((with_reducible show @Eq (Option Value) _ _); exact Own.cell hO 0 (by rfl) (by rfl))
        | ((with_reducible show @Eq (Option Value) _ _); exact Own.cell hO 1 (by rfl) (by rfl))
        | ((with_reducible show Exists _); refine ⟨_, Own.old hO (by assumption) id, ?_⟩)
        | ((with_reducible show Exists _); refine ⟨_, _, _, Own.old hO (by assumption) id, ?_⟩)
        | ((with_reducible show And _ _); refine ⟨Own.old hO (by assumption) id, ?_⟩)
        | ((with_reducible show Exists _); refine ⟨_, Own.old hO (by assumption) (by assumption), ?_⟩)
        | ((with_reducible show Exists _); refine ⟨_, _, _, Own.old hO (by assumption) (by assumption), ?_⟩)
        | ((with_reducible show And _ _); refine ⟨Own.old hO (by assumption) (by assumption), ?_⟩)
        | fail
      refine ⟨?_, hO.ext⟩
      simp only [addS, Acc.v, hl, hT]
      rfl
theorem rjoin_spec (a b : Acc) (h : Heap) : CallsH Try.prog 22 #[a.v, b.v] h (fun v h' => v = (joinS a b).v ∧ Ext h h') := by
  refine vf22 _ _ _ _ _ _ _ _ h _ ?_
  unfold F22
  have hO := Lcl.start h
  have fin : ∀ (x : Acc) (x' : Value) (h' : Heap) L, Lcl h h' L → joinS a b = x → x' = x.v → x' = (joinS a b).v ∧ Ext h h' := by
    rintro x _ h' L k rfl rfl; exact ⟨rfl, k.ext⟩
  repeat' first
    | ((with_reducible show VNew _ _ _); refine Own.vnew hO fun _ _ _ hO2 => ?_; clear hO; have hO := hO2; clear hO2)
    | ((with_reducible show VSome _ _); refine VSome.mk ?_)
    | ((with_reducible show Exists _); refine ⟨_, Own.cell hO 0 (by rfl) (by rfl), ?_⟩)
    | ((with_reducible show Exists _); refine ⟨_, Own.cell hO 1 (by rfl) (by rfl), ?_⟩)
    | ((with_reducible show Exists _); refine ⟨_, Own.cell hO 2 (by rfl) (by rfl), ?_⟩)
    | ((with_reducible show storeL _ _ _ _ _); refine Own.vstoreAll hO 0 (by rfl) (by rfl) (by rfl) fun _ hO2 => ?_; clear hO; have hO := hO2; clear hO2)
    | ((with_reducible show storeL _ _ _ _ _); refine Own.vstoreAll hO 1 (by rfl) (by rfl) (by rfl) fun _ hO2 => ?_; clear hO; have hO := hO2; clear hO2)
    | ((with_reducible show storeL _ _ _ _ _); refine Own.vstoreAll hO 2 (by rfl) (by rfl) (by rfl) fun _ hO2 => ?_; clear hO; have hO := hO2; clear hO2)
    | ((with_reducible show VStore _ _ _ _); refine Own.vstore hO 0 (by rfl) (by simp) fun _ hO2 => ?_; clear hO; have hO := hO2; clear hO2)
    | ((with_reducible show VStore _ _ _ _); refine Own.vstore hO 1 (by rfl) (by simp) fun _ hO2 => ?_; clear hO; have hO := hO2; clear hO2)
    | ((with_reducible show VStore _ _ _ _); refine Own.vstore hO 2 (by rfl) (by simp) fun _ hO2 => ?_; clear hO; have hO := hO2; clear hO2)
    | ((with_reducible show And _ _); refine ⟨Own.cell hO 0 (by rfl) (by rfl), ?_⟩)
    | ((with_reducible show And _ _); refine ⟨Own.cell hO 1 (by rfl) (by rfl), ?_⟩)
    | ((with_reducible show And _ _); refine ⟨Own.cell hO 2 (by rfl) (by rfl), ?_⟩)
    | ((with_reducible show Exists _); refine ⟨_, _, _, Own.cell hO 0 (by rfl) (by rfl), ?_⟩)
    | ((with_reducible show Exists _); refine ⟨_, _, _, Own.cell hO 1 (by rfl) (by rfl), ?_⟩)
    | ((with_reducible show Exists _); refine ⟨_, _, _, Own.cell hO 2 (by rfl) (by rfl), ?_⟩)
    | ((with_reducible show And _ _); refine And.intro (And.intro (Own.cell hO 0 (by rfl) (by rfl)) ?_) ?_)
    | ((with_reducible show And _ _); refine And.intro (And.intro (Own.cell hO 1 (by rfl) (by rfl)) ?_) ?_)
    | ((with_reducible show And _ _); refine And.intro (And.intro (Own.cell hO 2 (by rfl) (by rfl)) ?_) ?_)
    | ((with_reducible show @Eq (Option Value) _ _); exact Own.cell hO 0 (by rfl) (by rfl))
    | ((with_reducible show @Eq (Option Value) _ _); exact Own.cell hO 1 (by rfl) (by rfl))
    | ((with_reducible show @Eq (Option Value) _ _); exact Own.cell hO 2 (by rfl) (by rfl))
    | ((with_reducible show Exists _); refine ⟨_, Own.old hO (by assumption) id, ?_⟩)
    | ((with_reducible show Exists _); refine ⟨_, _, _, Own.old hO (by assumption) id, ?_⟩)
    | ((with_reducible show And _ _); refine ⟨Own.old hO (by assumption) id, ?_⟩)
    | ((with_reducible show Exists _); refine ⟨_, Own.old hO (by assumption) (by assumption), ?_⟩)
    | ((with_reducible show Exists _); refine ⟨_, _, _, Own.old hO (by assumption) (by assumption), ?_⟩)
    | ((with_reducible show And _ _); refine ⟨Own.old hO (by assumption) (by assumption), ?_⟩)
    | ((with_reducible show CallsH _ _ _ _ _); refine CallsH.mono (taken_spec a _) ?_; rintro _ _ ⟨rfl, hm⟩; (first | refine ⟨rfl, ?_⟩ | refine ⟨_, rfl, ?_⟩ | refine ⟨_, _, rfl, ?_⟩ | refine ⟨_, _, _, _, rfl, ?_⟩ | refine ⟨_, _, _, _, _, rfl, ?_⟩ | refine ⟨_, _, _, _, _, _, rfl, ?_⟩); have hnx := Own.next hO hm; clear hm; clear hO; have hO := hnx; clear hnx)
    | ((with_reducible show CallsH _ _ _ _ _); refine CallsH.mono (taken_spec b _) ?_; rintro _ _ ⟨rfl, hm⟩; (first | refine ⟨rfl, ?_⟩ | refine ⟨_, rfl, ?_⟩ | refine ⟨_, _, rfl, ?_⟩ | refine ⟨_, _, _, _, rfl, ?_⟩ | refine ⟨_, _, _, _, _, rfl, ?_⟩ | refine ⟨_, _, _, _, _, _, rfl, ?_⟩); have hnx := Own.next hO hm; clear hm; clear hO; have hO := hnx; clear hnx)
    | fail
  have ha0 := taken_c a
  have hb0 := taken_c b
  have na : noneB a = decide ((taken a).c = 0) := by
    rw [← taken_none]
    cases hn : noneB (taken a) with
    | true => have := (noneB_iff _).1 hn; rw [decide_eq_true (by omega)]
    | false => rw [decide_eq_false fun e => by rw [(noneB_iff _).2 (by omega)] at hn; cases hn]
  have nb : noneB b = decide ((taken b).c = 0) := by
    rw [← taken_none]
    cases hn : noneB (taken b) with
    | true => have := (noneB_iff _).1 hn; rw [decide_eq_true (by omega)]
    | false => rw [decide_eq_false fun e => by rw [(noneB_iff _).2 (by omega)] at hn; cases hn]
  refine cond_split (fun hc => ?_) (fun hc => ?_)
  · have hc' : (taken a).c = 0 := by simpa using hc
    rw [decide_eq_true hc'] at na
    repeat' first
      | ((with_reducible show VNew _ _ _); refine Own.vnew hO fun _ _ _ hO2 => ?_; clear hO; have hO := hO2; clear hO2)
      | ((with_reducible show VSome _ _); refine VSome.mk ?_)
      | ((with_reducible show Exists _); refine ⟨_, Own.cell hO 0 (by rfl) (by rfl), ?_⟩)
      | ((with_reducible show Exists _); refine ⟨_, Own.cell hO 1 (by rfl) (by rfl), ?_⟩)
      | ((with_reducible show Exists _); refine ⟨_, Own.cell hO 2 (by rfl) (by rfl), ?_⟩)
      | ((with_reducible show storeL _ _ _ _ _); refine Own.vstoreAll hO 0 (by rfl) (by rfl) (by rfl) fun _ hO2 => ?_; clear hO; have hO := hO2; clear hO2)
      | ((with_reducible show storeL _ _ _ _ _); refine Own.vstoreAll hO 1 (by rfl) (by rfl) (by rfl) fun _ hO2 => ?_; clear hO; have hO := hO2; clear hO2)
      | ((with_reducible show storeL _ _ _ _ _); refine Own.vstoreAll hO 2 (by rfl) (by rfl) (by rfl) fun _ hO2 => ?_; clear hO; have hO := hO2; clear hO2)
      | ((with_reducible show VStore _ _ _ _); refine Own.vstore hO 0 (by rfl) (by simp) fun _ hO2 => ?_; clear hO; have hO := hO2; clear hO2)
      | ((with_reducible show VStore _ _ _ _); refine Own.vstore hO 1 (by rfl) (by simp) fun _ hO2 => ?_; clear hO; have hO := hO2; clear hO2)
      | ((with_reducible show VStore _ _ _ _); refine Own.vstore hO 2 (by rfl) (by simp) fun _ hO2 => ?_; clear hO; have hO := hO2; clear hO2)
      | ((with_reducible show And _ _); refine ⟨Own.cell hO 0 (by rfl) (by rfl), ?_⟩)
      | ((with_reducible show And _ _); refine ⟨Own.cell hO 1 (by rfl) (by rfl), ?_⟩)
      | ((with_reducible show And _ _); refine ⟨Own.cell hO 2 (by rfl) (by rfl), ?_⟩)
      | ((with_reducible show Exists _); refine ⟨_, _, _, Own.cell hO 0 (by rfl) (by rfl), ?_⟩)
      | ((with_reducible show Exists _); refine ⟨_, _, _, Own.cell hO 1 (by rfl) (by rfl), ?_⟩)
      | ((with_reducible show Exists _); refine ⟨_, _, _, Own.cell hO 2 (by rfl) (by rfl), ?_⟩)
      | ((with_reducible show And _ _); refine And.intro (And.intro (Own.cell hO 0 (by rfl) (by rfl)) ?_) ?_)
      | ((with_reducible show And _ _); refine And.intro (And.intro (Own.cell hO 1 (by rfl) (by rfl)) ?_) ?_)
      | ((with_reducible show And _ _); refine And.intro (And.intro (Own.cell hO 2 (by rfl) (by rfl)) ?_) ?_)
      | ((with_reducible show @Eq (Option Value) _ _); exact Own.cell hO 0 (by rfl) (by rfl))
      | ((with_reducible show @Eq (Option Value) _ _); exact Own.cell hO 1 (by rfl) (by rfl))
      | ((with_reducible show @Eq (Option Value) _ _); exact Own.cell hO 2 (by rfl) (by rfl))
      | ((with_reducible show Exists _); refine ⟨_, Own.old hO (by assumption) id, ?_⟩)
      | ((with_reducible show Exists _); refine ⟨_, _, _, Own.old hO (by assumption) id, ?_⟩)
      | ((with_reducible show And _ _); refine ⟨Own.old hO (by assumption) id, ?_⟩)
      | ((with_reducible show Exists _); refine ⟨_, Own.old hO (by assumption) (by assumption), ?_⟩)
      | ((with_reducible show Exists _); refine ⟨_, _, _, Own.old hO (by assumption) (by assumption), ?_⟩)
      | ((with_reducible show And _ _); refine ⟨Own.old hO (by assumption) (by assumption), ?_⟩)
      | fail
    refine fin (taken b) _ _ _ hO ?_ rfl
    unfold joinS; rw [na]; rfl
  have hc' : ¬ (taken a).c = 0 := by simpa using hc
  rw [decide_eq_false hc'] at na
  have ta : taken a = a := by unfold taken; rw [na]; rfl
  repeat' first
    | ((with_reducible show VNew _ _ _); refine Own.vnew hO fun _ _ _ hO2 => ?_; clear hO; have hO := hO2; clear hO2)
    | ((with_reducible show VSome _ _); refine VSome.mk ?_)
    | ((with_reducible show Exists _); refine ⟨_, Own.cell hO 0 (by rfl) (by rfl), ?_⟩)
    | ((with_reducible show Exists _); refine ⟨_, Own.cell hO 1 (by rfl) (by rfl), ?_⟩)
    | ((with_reducible show Exists _); refine ⟨_, Own.cell hO 2 (by rfl) (by rfl), ?_⟩)
    | ((with_reducible show storeL _ _ _ _ _); refine Own.vstoreAll hO 0 (by rfl) (by rfl) (by rfl) fun _ hO2 => ?_; clear hO; have hO := hO2; clear hO2)
    | ((with_reducible show storeL _ _ _ _ _); refine Own.vstoreAll hO 1 (by rfl) (by rfl) (by rfl) fun _ hO2 => ?_; clear hO; have hO := hO2; clear hO2)
    | ((with_reducible show storeL _ _ _ _ _); refine Own.vstoreAll hO 2 (by rfl) (by rfl) (by rfl) fun _ hO2 => ?_; clear hO; have hO := hO2; clear hO2)
    | ((with_reducible show VStore _ _ _ _); refine Own.vstore hO 0 (by rfl) (by simp) fun _ hO2 => ?_; clear hO; have hO := hO2; clear hO2)
    | ((with_reducible show VStore _ _ _ _); refine Own.vstore hO 1 (by rfl) (by simp) fun _ hO2 => ?_; clear hO; have hO := hO2; clear hO2)
    | ((with_reducible show VStore _ _ _ _); refine Own.vstore hO 2 (by rfl) (by simp) fun _ hO2 => ?_; clear hO; have hO := hO2; clear hO2)
    | ((with_reducible show And _ _); refine ⟨Own.cell hO 0 (by rfl) (by rfl), ?_⟩)
    | ((with_reducible show And _ _); refine ⟨Own.cell hO 1 (by rfl) (by rfl), ?_⟩)
    | ((with_reducible show And _ _); refine ⟨Own.cell hO 2 (by rfl) (by rfl), ?_⟩)
    | ((with_reducible show Exists _); refine ⟨_, _, _, Own.cell hO 0 (by rfl) (by rfl), ?_⟩)
    | ((with_reducible show Exists _); refine ⟨_, _, _, Own.cell hO 1 (by rfl) (by rfl), ?_⟩)
    | ((with_reducible show Exists _); refine ⟨_, _, _, Own.cell hO 2 (by rfl) (by rfl), ?_⟩)
    | ((with_reducible show And _ _); refine And.intro (And.intro (Own.cell hO 0 (by rfl) (by rfl)) ?_) ?_)
    | ((with_reducible show And _ _); refine And.intro (And.intro (Own.cell hO 1 (by rfl) (by rfl)) ?_) ?_)
    | ((with_reducible show And _ _); refine And.intro (And.intro (Own.cell hO 2 (by rfl) (by rfl)) ?_) ?_)
    | ((with_reducible show @Eq (Option Value) _ _); exact Own.cell hO 0 (by rfl) (by rfl))
    | ((with_reducible show @Eq (Option Value) _ _); exact Own.cell hO 1 (by rfl) (by rfl))
    | ((with_reducible show @Eq (Option Value) _ _); exact Own.cell hO 2 (by rfl) (by rfl))
    | ((with_reducible show Exists _); refine ⟨_, Own.old hO (by assumption) id, ?_⟩)
    | ((with_reducible show Exists _); refine ⟨_, _, _, Own.old hO (by assumption) id, ?_⟩)
    | ((with_reducible show And _ _); refine ⟨Own.old hO (by assumption) id, ?_⟩)
    | ((with_reducible show Exists _); refine ⟨_, Own.old hO (by assumption) (by assumption), ?_⟩)
    | ((with_reducible show Exists _); refine ⟨_, _, _, Own.old hO (by assumption) (by assumption), ?_⟩)
    | ((with_reducible show And _ _); refine ⟨Own.old hO (by assumption) (by assumption), ?_⟩)
    | fail
  refine cond_split (fun hd => ?_) (fun hd => ?_)
  · have hd' : (taken b).c = 0 := by simpa using hd
    rw [decide_eq_true hd'] at nb
    repeat' first
      | ((with_reducible show VNew _ _ _); refine Own.vnew hO fun _ _ _ hO2 => ?_; clear hO; have hO := hO2; clear hO2)
      | ((with_reducible show VSome _ _); refine VSome.mk ?_)
      | ((with_reducible show Exists _); refine ⟨_, Own.cell hO 0 (by rfl) (by rfl), ?_⟩)
      | ((with_reducible show Exists _); refine ⟨_, Own.cell hO 1 (by rfl) (by rfl), ?_⟩)
      | ((with_reducible show Exists _); refine ⟨_, Own.cell hO 2 (by rfl) (by rfl), ?_⟩)
      | ((with_reducible show storeL _ _ _ _ _); refine Own.vstoreAll hO 0 (by rfl) (by rfl) (by rfl) fun _ hO2 => ?_; clear hO; have hO := hO2; clear hO2)
      | ((with_reducible show storeL _ _ _ _ _); refine Own.vstoreAll hO 1 (by rfl) (by rfl) (by rfl) fun _ hO2 => ?_; clear hO; have hO := hO2; clear hO2)
      | ((with_reducible show storeL _ _ _ _ _); refine Own.vstoreAll hO 2 (by rfl) (by rfl) (by rfl) fun _ hO2 => ?_; clear hO; have hO := hO2; clear hO2)
      | ((with_reducible show VStore _ _ _ _); refine Own.vstore hO 0 (by rfl) (by simp) fun _ hO2 => ?_; clear hO; have hO := hO2; clear hO2)
      | ((with_reducible show VStore _ _ _ _); refine Own.vstore hO 1 (by rfl) (by simp) fun _ hO2 => ?_; clear hO; have hO := hO2; clear hO2)
      | ((with_reducible show VStore _ _ _ _); refine Own.vstore hO 2 (by rfl) (by simp) fun _ hO2 => ?_; clear hO; have hO := hO2; clear hO2)
      | ((with_reducible show And _ _); refine ⟨Own.cell hO 0 (by rfl) (by rfl), ?_⟩)
      | ((with_reducible show And _ _); refine ⟨Own.cell hO 1 (by rfl) (by rfl), ?_⟩)
      | ((with_reducible show And _ _); refine ⟨Own.cell hO 2 (by rfl) (by rfl), ?_⟩)
      | ((with_reducible show Exists _); refine ⟨_, _, _, Own.cell hO 0 (by rfl) (by rfl), ?_⟩)
      | ((with_reducible show Exists _); refine ⟨_, _, _, Own.cell hO 1 (by rfl) (by rfl), ?_⟩)
      | ((with_reducible show Exists _); refine ⟨_, _, _, Own.cell hO 2 (by rfl) (by rfl), ?_⟩)
      | ((with_reducible show And _ _); refine And.intro (And.intro (Own.cell hO 0 (by rfl) (by rfl)) ?_) ?_)
      | ((with_reducible show And _ _); refine And.intro (And.intro (Own.cell hO 1 (by rfl) (by rfl)) ?_) ?_)
      | ((with_reducible show And _ _); refine And.intro (And.intro (Own.cell hO 2 (by rfl) (by rfl)) ?_) ?_)
      | ((with_reducible show @Eq (Option Value) _ _); exact Own.cell hO 0 (by rfl) (by rfl))
      | ((with_reducible show @Eq (Option Value) _ _); exact Own.cell hO 1 (by rfl) (by rfl))
      | ((with_reducible show @Eq (Option Value) _ _); exact Own.cell hO 2 (by rfl) (by rfl))
      | ((with_reducible show Exists _); refine ⟨_, Own.old hO (by assumption) id, ?_⟩)
      | ((with_reducible show Exists _); refine ⟨_, _, _, Own.old hO (by assumption) id, ?_⟩)
      | ((with_reducible show And _ _); refine ⟨Own.old hO (by assumption) id, ?_⟩)
      | ((with_reducible show Exists _); refine ⟨_, Own.old hO (by assumption) (by assumption), ?_⟩)
      | ((with_reducible show Exists _); refine ⟨_, _, _, Own.old hO (by assumption) (by assumption), ?_⟩)
      | ((with_reducible show And _ _); refine ⟨Own.old hO (by assumption) (by assumption), ?_⟩)
      | fail
    refine fin (taken a) _ _ _ hO ?_ rfl
    unfold joinS; rw [na, nb, ta]; rfl
  have hd' : ¬ (taken b).c = 0 := by simpa using hd
  rw [decide_eq_false hd'] at nb
  have tb : taken b = b := by unfold taken; rw [nb]; rfl
  repeat' first
    | ((with_reducible show VNew _ _ _); refine Own.vnew hO fun _ _ _ hO2 => ?_; clear hO; have hO := hO2; clear hO2)
    | ((with_reducible show VSome _ _); refine VSome.mk ?_)
    | ((with_reducible show Exists _); refine ⟨_, Own.cell hO 0 (by rfl) (by rfl), ?_⟩)
    | ((with_reducible show Exists _); refine ⟨_, Own.cell hO 1 (by rfl) (by rfl), ?_⟩)
    | ((with_reducible show Exists _); refine ⟨_, Own.cell hO 2 (by rfl) (by rfl), ?_⟩)
    | ((with_reducible show storeL _ _ _ _ _); refine Own.vstoreAll hO 0 (by rfl) (by rfl) (by rfl) fun _ hO2 => ?_; clear hO; have hO := hO2; clear hO2)
    | ((with_reducible show storeL _ _ _ _ _); refine Own.vstoreAll hO 1 (by rfl) (by rfl) (by rfl) fun _ hO2 => ?_; clear hO; have hO := hO2; clear hO2)
    | ((with_reducible show storeL _ _ _ _ _); refine Own.vstoreAll hO 2 (by rfl) (by rfl) (by rfl) fun _ hO2 => ?_; clear hO; have hO := hO2; clear hO2)
    | ((with_reducible show VStore _ _ _ _); refine Own.vstore hO 0 (by rfl) (by simp) fun _ hO2 => ?_; clear hO; have hO := hO2; clear hO2)
    | ((with_reducible show VStore _ _ _ _); refine Own.vstore hO 1 (by rfl) (by simp) fun _ hO2 => ?_; clear hO; have hO := hO2; clear hO2)
    | ((with_reducible show VStore _ _ _ _); refine Own.vstore hO 2 (by rfl) (by simp) fun _ hO2 => ?_; clear hO; have hO := hO2; clear hO2)
    | ((with_reducible show And _ _); refine ⟨Own.cell hO 0 (by rfl) (by rfl), ?_⟩)
    | ((with_reducible show And _ _); refine ⟨Own.cell hO 1 (by rfl) (by rfl), ?_⟩)
    | ((with_reducible show And _ _); refine ⟨Own.cell hO 2 (by rfl) (by rfl), ?_⟩)
    | ((with_reducible show Exists _); refine ⟨_, _, _, Own.cell hO 0 (by rfl) (by rfl), ?_⟩)
    | ((with_reducible show Exists _); refine ⟨_, _, _, Own.cell hO 1 (by rfl) (by rfl), ?_⟩)
    | ((with_reducible show Exists _); refine ⟨_, _, _, Own.cell hO 2 (by rfl) (by rfl), ?_⟩)
    | ((with_reducible show And _ _); refine And.intro (And.intro (Own.cell hO 0 (by rfl) (by rfl)) ?_) ?_)
    | ((with_reducible show And _ _); refine And.intro (And.intro (Own.cell hO 1 (by rfl) (by rfl)) ?_) ?_)
    | ((with_reducible show And _ _); refine And.intro (And.intro (Own.cell hO 2 (by rfl) (by rfl)) ?_) ?_)
    | ((with_reducible show @Eq (Option Value) _ _); exact Own.cell hO 0 (by rfl) (by rfl))
    | ((with_reducible show @Eq (Option Value) _ _); exact Own.cell hO 1 (by rfl) (by rfl))
    | ((with_reducible show @Eq (Option Value) _ _); exact Own.cell hO 2 (by rfl) (by rfl))
    | ((with_reducible show Exists _); refine ⟨_, Own.old hO (by assumption) id, ?_⟩)
    | ((with_reducible show Exists _); refine ⟨_, _, _, Own.old hO (by assumption) id, ?_⟩)
    | ((with_reducible show And _ _); refine ⟨Own.old hO (by assumption) id, ?_⟩)
    | ((with_reducible show Exists _); refine ⟨_, Own.old hO (by assumption) (by assumption), ?_⟩)
    | ((with_reducible show Exists _); refine ⟨_, _, _, Own.old hO (by assumption) (by assumption), ?_⟩)
    | ((with_reducible show And _ _); refine ⟨Own.old hO (by assumption) (by assumption), ?_⟩)
    | fail
  rw [ta, tb] at *
  refine fin ⟨_, _, _, _⟩ _ _ _ hO ?_ rfl
  unfold joinS; rw [na, nb]; rfl
theorem rget_spec (a : Acc) (fn : Int) (h : Heap) : CallsH Try.prog 23 #[a.v, .int .i64 fn] h (fun v h' => v = .tuple #[.int .i64 (getS a fn).1, .bool (getS a fn).2] ∧ Ext h h') := by
  refine vf23 _ _ _ _ _ h _ ?_
  unfold F23
  have hO := Lcl.start h
  repeat' first
    | ((with_reducible show VNew _ _ _); refine Own.vnew hO fun _ _ _ hO2 => ?_; clear hO; have hO := hO2; clear hO2)
    | ((with_reducible show VSome _ _); refine VSome.mk ?_)
    | ((with_reducible show Exists _); refine ⟨_, Own.cell hO 0 (by rfl) (by rfl), ?_⟩)
    | ((with_reducible show storeL _ _ _ _ _); refine Own.vstoreAll hO 0 (by rfl) (by rfl) (by rfl) fun _ hO2 => ?_; clear hO; have hO := hO2; clear hO2)
    | ((with_reducible show VStore _ _ _ _); refine Own.vstore hO 0 (by rfl) (by simp) fun _ hO2 => ?_; clear hO; have hO := hO2; clear hO2)
    | ((with_reducible show And _ _); refine ⟨Own.cell hO 0 (by rfl) (by rfl), ?_⟩)
    | ((with_reducible show Exists _); refine ⟨_, _, _, Own.cell hO 0 (by rfl) (by rfl), ?_⟩)
    | ((with_reducible show And _ _); refine And.intro (And.intro (Own.cell hO 0 (by rfl) (by rfl)) ?_) ?_)
    | ((with_reducible show @Eq (Option Value) _ _); exact Own.cell hO 0 (by rfl) (by rfl))
    | ((with_reducible show Exists _); refine ⟨_, Own.old hO (by assumption) id, ?_⟩)
    | ((with_reducible show Exists _); refine ⟨_, _, _, Own.old hO (by assumption) id, ?_⟩)
    | ((with_reducible show And _ _); refine ⟨Own.old hO (by assumption) id, ?_⟩)
    | ((with_reducible show Exists _); refine ⟨_, Own.old hO (by assumption) (by assumption), ?_⟩)
    | ((with_reducible show Exists _); refine ⟨_, _, _, Own.old hO (by assumption) (by assumption), ?_⟩)
    | ((with_reducible show And _ _); refine ⟨Own.old hO (by assumption) (by assumption), ?_⟩)
    | ((with_reducible show CallsH _ _ _ _ _); refine CallsH.mono (taken_spec a _) ?_; rintro _ _ ⟨rfl, hm⟩; (first | refine ⟨rfl, ?_⟩ | refine ⟨_, rfl, ?_⟩ | refine ⟨_, _, rfl, ?_⟩ | refine ⟨_, _, _, _, rfl, ?_⟩ | refine ⟨_, _, _, _, _, rfl, ?_⟩ | refine ⟨_, _, _, _, _, _, rfl, ?_⟩); have hnx := Own.next hO hm; clear hm; clear hO; have hO := hnx; clear hnx)
    | fail
  have hp := taken_pos a
  unfold getS
  refine cond_split (fun hc => ?_) (fun hc => ?_)
  · repeat' first
      | ((with_reducible show VNew _ _ _); refine Own.vnew hO fun _ _ _ hO2 => ?_; clear hO; have hO := hO2; clear hO2)
      | ((with_reducible show VSome _ _); refine VSome.mk ?_)
      | ((with_reducible show Exists _); refine ⟨_, Own.cell hO 0 (by rfl) (by rfl), ?_⟩)
      | ((with_reducible show storeL _ _ _ _ _); refine Own.vstoreAll hO 0 (by rfl) (by rfl) (by rfl) fun _ hO2 => ?_; clear hO; have hO := hO2; clear hO2)
      | ((with_reducible show VStore _ _ _ _); refine Own.vstore hO 0 (by rfl) (by simp) fun _ hO2 => ?_; clear hO; have hO := hO2; clear hO2)
      | ((with_reducible show And _ _); refine ⟨Own.cell hO 0 (by rfl) (by rfl), ?_⟩)
      | ((with_reducible show Exists _); refine ⟨_, _, _, Own.cell hO 0 (by rfl) (by rfl), ?_⟩)
      | ((with_reducible show And _ _); refine And.intro (And.intro (Own.cell hO 0 (by rfl) (by rfl)) ?_) ?_)
      | ((with_reducible show @Eq (Option Value) _ _); exact Own.cell hO 0 (by rfl) (by rfl))
      | ((with_reducible show Exists _); refine ⟨_, Own.old hO (by assumption) id, ?_⟩)
      | ((with_reducible show Exists _); refine ⟨_, _, _, Own.old hO (by assumption) id, ?_⟩)
      | ((with_reducible show And _ _); refine ⟨Own.old hO (by assumption) id, ?_⟩)
      | ((with_reducible show Exists _); refine ⟨_, Own.old hO (by assumption) (by assumption), ?_⟩)
      | ((with_reducible show Exists _); refine ⟨_, _, _, Own.old hO (by assumption) (by assumption), ?_⟩)
      | ((with_reducible show And _ _); refine ⟨Own.old hO (by assumption) (by assumption), ?_⟩)
      | fail
    exact ⟨by rw [if_pos (by simpa using hc)], hO.ext⟩
  rw [if_neg (by simpa using hc)]
  refine cond_split (fun hc => ?_) (fun hc => ?_)
  · repeat' first
      | ((with_reducible show VNew _ _ _); refine Own.vnew hO fun _ _ _ hO2 => ?_; clear hO; have hO := hO2; clear hO2)
      | ((with_reducible show VSome _ _); refine VSome.mk ?_)
      | ((with_reducible show Exists _); refine ⟨_, Own.cell hO 0 (by rfl) (by rfl), ?_⟩)
      | ((with_reducible show storeL _ _ _ _ _); refine Own.vstoreAll hO 0 (by rfl) (by rfl) (by rfl) fun _ hO2 => ?_; clear hO; have hO := hO2; clear hO2)
      | ((with_reducible show VStore _ _ _ _); refine Own.vstore hO 0 (by rfl) (by simp) fun _ hO2 => ?_; clear hO; have hO := hO2; clear hO2)
      | ((with_reducible show And _ _); refine ⟨Own.cell hO 0 (by rfl) (by rfl), ?_⟩)
      | ((with_reducible show Exists _); refine ⟨_, _, _, Own.cell hO 0 (by rfl) (by rfl), ?_⟩)
      | ((with_reducible show And _ _); refine And.intro (And.intro (Own.cell hO 0 (by rfl) (by rfl)) ?_) ?_)
      | ((with_reducible show @Eq (Option Value) _ _); exact Own.cell hO 0 (by rfl) (by rfl))
      | ((with_reducible show Exists _); refine ⟨_, Own.old hO (by assumption) id, ?_⟩)
      | ((with_reducible show Exists _); refine ⟨_, _, _, Own.old hO (by assumption) id, ?_⟩)
      | ((with_reducible show And _ _); refine ⟨Own.old hO (by assumption) id, ?_⟩)
      | ((with_reducible show Exists _); refine ⟨_, Own.old hO (by assumption) (by assumption), ?_⟩)
      | ((with_reducible show Exists _); refine ⟨_, _, _, Own.old hO (by assumption) (by assumption), ?_⟩)
      | ((with_reducible show And _ _); refine ⟨Own.old hO (by assumption) (by assumption), ?_⟩)
      | fail
    exact ⟨by rw [if_pos (by simpa using hc)], hO.ext⟩
  rw [if_neg (by simpa using hc)]
  refine cond_split (fun hc => ?_) (fun hc => ?_)
  · repeat' first
      | ((with_reducible show VNew _ _ _); refine Own.vnew hO fun _ _ _ hO2 => ?_; clear hO; have hO := hO2; clear hO2)
      | ((with_reducible show VSome _ _); refine VSome.mk ?_)
      | ((with_reducible show Exists _); refine ⟨_, Own.cell hO 0 (by rfl) (by rfl), ?_⟩)
      | ((with_reducible show storeL _ _ _ _ _); refine Own.vstoreAll hO 0 (by rfl) (by rfl) (by rfl) fun _ hO2 => ?_; clear hO; have hO := hO2; clear hO2)
      | ((with_reducible show VStore _ _ _ _); refine Own.vstore hO 0 (by rfl) (by simp) fun _ hO2 => ?_; clear hO; have hO := hO2; clear hO2)
      | ((with_reducible show And _ _); refine ⟨Own.cell hO 0 (by rfl) (by rfl), ?_⟩)
      | ((with_reducible show Exists _); refine ⟨_, _, _, Own.cell hO 0 (by rfl) (by rfl), ?_⟩)
      | ((with_reducible show And _ _); refine And.intro (And.intro (Own.cell hO 0 (by rfl) (by rfl)) ?_) ?_)
      | ((with_reducible show @Eq (Option Value) _ _); exact Own.cell hO 0 (by rfl) (by rfl))
      | ((with_reducible show Exists _); refine ⟨_, Own.old hO (by assumption) id, ?_⟩)
      | ((with_reducible show Exists _); refine ⟨_, _, _, Own.old hO (by assumption) id, ?_⟩)
      | ((with_reducible show And _ _); refine ⟨Own.old hO (by assumption) id, ?_⟩)
      | ((with_reducible show Exists _); refine ⟨_, Own.old hO (by assumption) (by assumption), ?_⟩)
      | ((with_reducible show Exists _); refine ⟨_, _, _, Own.old hO (by assumption) (by assumption), ?_⟩)
      | ((with_reducible show And _ _); refine ⟨Own.old hO (by assumption) (by assumption), ?_⟩)
      | fail
    exact ⟨by rw [if_pos (by simpa using hc), hp], hO.ext⟩
  rw [if_neg (by simpa using hc)]
  refine cond_split (fun hc => ?_) (fun hc => ?_)
  · repeat' first
      | ((with_reducible show VNew _ _ _); refine Own.vnew hO fun _ _ _ hO2 => ?_; clear hO; have hO := hO2; clear hO2)
      | ((with_reducible show VSome _ _); refine VSome.mk ?_)
      | ((with_reducible show Exists _); refine ⟨_, Own.cell hO 0 (by rfl) (by rfl), ?_⟩)
      | ((with_reducible show storeL _ _ _ _ _); refine Own.vstoreAll hO 0 (by rfl) (by rfl) (by rfl) fun _ hO2 => ?_; clear hO; have hO := hO2; clear hO2)
      | ((with_reducible show VStore _ _ _ _); refine Own.vstore hO 0 (by rfl) (by simp) fun _ hO2 => ?_; clear hO; have hO := hO2; clear hO2)
      | ((with_reducible show And _ _); refine ⟨Own.cell hO 0 (by rfl) (by rfl), ?_⟩)
      | ((with_reducible show Exists _); refine ⟨_, _, _, Own.cell hO 0 (by rfl) (by rfl), ?_⟩)
      | ((with_reducible show And _ _); refine And.intro (And.intro (Own.cell hO 0 (by rfl) (by rfl)) ?_) ?_)
      | ((with_reducible show @Eq (Option Value) _ _); exact Own.cell hO 0 (by rfl) (by rfl))
      | ((with_reducible show Exists _); refine ⟨_, Own.old hO (by assumption) id, ?_⟩)
      | ((with_reducible show Exists _); refine ⟨_, _, _, Own.old hO (by assumption) id, ?_⟩)
      | ((with_reducible show And _ _); refine ⟨Own.old hO (by assumption) id, ?_⟩)
      | ((with_reducible show Exists _); refine ⟨_, Own.old hO (by assumption) (by assumption), ?_⟩)
      | ((with_reducible show Exists _); refine ⟨_, _, _, Own.old hO (by assumption) (by assumption), ?_⟩)
      | ((with_reducible show And _ _); refine ⟨Own.old hO (by assumption) (by assumption), ?_⟩)
      | fail
    exact ⟨by rw [if_pos (by simpa using hc), hp], hO.ext⟩
  rw [if_neg (by simpa using hc)]
  exact ⟨rfl, hO.ext⟩
end Go.Proofs.Ytcncagllbkohfaa.F
