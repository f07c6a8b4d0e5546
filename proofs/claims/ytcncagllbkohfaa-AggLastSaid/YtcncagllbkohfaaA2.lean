/- Package agg: Add and Join answer as the plain functions. Conditions: none. -/
import Derived.Test.YtcncagllbkohfaaA1
namespace Go.Proofs.Ytcncagllbkohfaa.F
open Go Go.VC Go.Proofs
set_option linter.unusedSimpArgs false
set_option linter.unusedVariables false
set_option maxRecDepth 100000
attribute [local irreducible] CallsH RunsTo

theorem join_spec (a b : Acc) (h : Heap) : CallsH Try.prog 12 #[a.v, b.v] h (fun v h' => v = (joinS a b).v ∧ Ext h h') := by
  refine vf12 _ _ _ _ _ _ _ _ h _ ?_
  unfold F12
  have hL := Lcl.start h
  repeat' first
    | ((with_reducible show VNew _ _ _); refine Own.vnew ‹Own _ _ _ _› fun _ _ _ _ => ?_)
    | ((with_reducible show VSome _ _); refine VSome.mk ?_)
    | ((with_reducible show Exists _); refine ⟨_, Own.cell ‹Own _ _ _ _› 0 (by rfl) (by rfl), ?_⟩)
    | ((with_reducible show Exists _); refine ⟨_, Own.cell ‹Own _ _ _ _› 1 (by rfl) (by rfl), ?_⟩)
    | ((with_reducible show Exists _); refine ⟨_, Own.cell ‹Own _ _ _ _› 2 (by rfl) (by rfl), ?_⟩)
    | ((with_reducible show storeL _ _ _ _ _); refine Own.vstoreAll ‹Own _ _ _ _› 0 (by rfl) (by rfl) (by rfl) fun _ _ => ?_)
    | ((with_reducible show storeL _ _ _ _ _); refine Own.vstoreAll ‹Own _ _ _ _› 1 (by rfl) (by rfl) (by rfl) fun _ _ => ?_)
    | ((with_reducible show storeL _ _ _ _ _); refine Own.vstoreAll ‹Own _ _ _ _› 2 (by rfl) (by rfl) (by rfl) fun _ _ => ?_)
    | ((with_reducible show VStore _ _ _ _); refine Own.vstore ‹Own _ _ _ _› 0 (by rfl) (by simp) fun _ _ => ?_)
    | ((with_reducible show VStore _ _ _ _); refine Own.vstore ‹Own _ _ _ _› 1 (by rfl) (by simp) fun _ _ => ?_)
    | ((with_reducible show VStore _ _ _ _); refine Own.vstore ‹Own _ _ _ _› 2 (by rfl) (by simp) fun _ _ => ?_)
    | ((with_reducible show And _ _); refine ⟨Own.cell ‹Own _ _ _ _› 0 (by rfl) (by rfl), ?_⟩)
    | ((with_reducible show And _ _); refine ⟨Own.cell ‹Own _ _ _ _› 1 (by rfl) (by rfl), ?_⟩)
    | ((with_reducible show And _ _); refine ⟨Own.cell ‹Own _ _ _ _› 2 (by rfl) (by rfl), ?_⟩)
    | ((with_reducible show Exists _); refine ⟨_, _, _, Own.cell ‹Own _ _ _ _› 0 (by rfl) (by rfl), ?_⟩)
    | ((with_reducible show Exists _); refine ⟨_, _, _, Own.cell ‹Own _ _ _ _› 1 (by rfl) (by rfl), ?_⟩)
    | ((with_reducible show Exists _); refine ⟨_, _, _, Own.cell ‹Own _ _ _ _› 2 (by rfl) (by rfl), ?_⟩)
    | ((with_reducible show And _ _); refine And.intro (And.intro (Own.cell ‹Own _ _ _ _› 0 (by rfl) (by rfl)) ?_) ?_)
    | ((with_reducible show And _ _); refine And.intro (And.intro (Own.cell ‹Own _ _ _ _› 1 (by rfl) (by rfl)) ?_) ?_)
    | ((with_reducible show And _ _); refine And.intro (And.intro (Own.cell ‹Own _ _ _ _› 2 (by rfl) (by rfl)) ?_) ?_)
    | ((with_reducible show @Eq (Option Value) _ _); exact Own.cell ‹Own _ _ _ _› 0 (by rfl) (by rfl))
    | ((with_reducible show @Eq (Option Value) _ _); exact Own.cell ‹Own _ _ _ _› 1 (by rfl) (by rfl))
    | ((with_reducible show @Eq (Option Value) _ _); exact Own.cell ‹Own _ _ _ _› 2 (by rfl) (by rfl))
    | ((with_reducible show Exists _); refine ⟨_, Own.old ‹Own _ _ _ _› (by assumption) id, ?_⟩)
    | ((with_reducible show Exists _); refine ⟨_, _, _, Own.old ‹Own _ _ _ _› (by assumption) id, ?_⟩)
    | ((with_reducible show And _ _); refine ⟨Own.old ‹Own _ _ _ _› (by assumption) id, ?_⟩)
    | ((with_reducible show Exists _); refine ⟨_, Own.old ‹Own _ _ _ _› (by assumption) (by assumption), ?_⟩)
    | ((with_reducible show Exists _); refine ⟨_, _, _, Own.old ‹Own _ _ _ _› (by assumption) (by assumption), ?_⟩)
    | ((with_reducible show And _ _); refine ⟨Own.old ‹Own _ _ _ _› (by assumption) (by assumption), ?_⟩)
    | ((with_reducible show CallsH _ _ _ _ _); refine CallsH.mono (none_spec a _) ?_; rintro _ _ ⟨rfl, hm⟩; (first | refine ⟨rfl, ?_⟩ | refine ⟨_, rfl, ?_⟩ | refine ⟨_, _, rfl, ?_⟩ | refine ⟨_, _, _, _, rfl, ?_⟩ | refine ⟨_, _, _, _, _, rfl, ?_⟩ | refine ⟨_, _, _, _, _, _, rfl, ?_⟩); have hnx := Own.next ‹Own _ _ _ _› hm; clear hm)
    | ((with_reducible show CallsH _ _ _ _ _); refine CallsH.mono (none_spec b _) ?_; rintro _ _ ⟨rfl, hm⟩; (first | refine ⟨rfl, ?_⟩ | refine ⟨_, rfl, ?_⟩ | refine ⟨_, _, rfl, ?_⟩ | refine ⟨_, _, _, _, rfl, ?_⟩ | refine ⟨_, _, _, _, _, rfl, ?_⟩ | refine ⟨_, _, _, _, _, _, rfl, ?_⟩); have hnx := Own.next ‹Own _ _ _ _› hm; clear hm)
    | fail
  have fin : ∀ (x : Acc) (x' : Value) (h' : Heap) L, Lcl h h' L → joinS a b = x → x' = x.v → x' = (joinS a b).v ∧ Ext h h' := by
    rintro x _ h' L k rfl rfl; exact ⟨rfl, k.ext⟩
  refine cond_split (fun ha => ?_) (fun ha => ?_)
  · repeat' first
      | ((with_reducible show VNew _ _ _); refine Own.vnew ‹Own _ _ _ _› fun _ _ _ _ => ?_)
      | ((with_reducible show VSome _ _); refine VSome.mk ?_)
      | ((with_reducible show Exists _); refine ⟨_, Own.cell ‹Own _ _ _ _› 0 (by rfl) (by rfl), ?_⟩)
      | ((with_reducible show Exists _); refine ⟨_, Own.cell ‹Own _ _ _ _› 1 (by rfl) (by rfl), ?_⟩)
      | ((with_reducible show Exists _); refine ⟨_, Own.cell ‹Own _ _ _ _› 2 (by rfl) (by rfl), ?_⟩)
      | ((with_reducible show storeL _ _ _ _ _); refine Own.vstoreAll ‹Own _ _ _ _› 0 (by rfl) (by rfl) (by rfl) fun _ _ => ?_)
      | ((with_reducible show storeL _ _ _ _ _); refine Own.vstoreAll ‹Own _ _ _ _› 1 (by rfl) (by rfl) (by rfl) fun _ _ => ?_)
      | ((with_reducible show storeL _ _ _ _ _); refine Own.vstoreAll ‹Own _ _ _ _› 2 (by rfl) (by rfl) (by rfl) fun _ _ => ?_)
      | ((with_reducible show VStore _ _ _ _); refine Own.vstore ‹Own _ _ _ _› 0 (by rfl) (by simp) fun _ _ => ?_)
      | ((with_reducible show VStore _ _ _ _); refine Own.vstore ‹Own _ _ _ _› 1 (by rfl) (by simp) fun _ _ => ?_)
      | ((with_reducible show VStore _ _ _ _); refine Own.vstore ‹Own _ _ _ _› 2 (by rfl) (by simp) fun _ _ => ?_)
      | ((with_reducible show And _ _); refine ⟨Own.cell ‹Own _ _ _ _› 0 (by rfl) (by rfl), ?_⟩)
      | ((with_reducible show And _ _); refine ⟨Own.cell ‹Own _ _ _ _› 1 (by rfl) (by rfl), ?_⟩)
      | ((with_reducible show And _ _); refine ⟨Own.cell ‹Own _ _ _ _› 2 (by rfl) (by rfl), ?_⟩)
      | ((with_reducible show Exists _); refine ⟨_, _, _, Own.cell ‹Own _ _ _ _› 0 (by rfl) (by rfl), ?_⟩)
      | ((with_reducible show Exists _); refine ⟨_, _, _, Own.cell ‹Own _ _ _ _› 1 (by rfl) (by rfl), ?_⟩)
      | ((with_reducible show Exists _); refine ⟨_, _, _, Own.cell ‹Own _ _ _ _› 2 (by rfl) (by rfl), ?_⟩)
      | ((with_reducible show And _ _); refine And.intro (And.intro (Own.cell ‹Own _ _ _ _› 0 (by rfl) (by rfl)) ?_) ?_)
      | ((with_reducible show And _ _); refine And.intro (And.intro (Own.cell ‹Own _ _ _ _› 1 (by rfl) (by rfl)) ?_) ?_)
      | ((with_reducible show And _ _); refine And.intro (And.intro (Own.cell ‹Own _ _ _ _› 2 (by rfl) (by rfl)) ?_) ?_)
      | ((with_reducible show @Eq (Option Value) _ _); exact Own.cell ‹Own _ _ _ _› 0 (by rfl) (by rfl))
      | ((with_reducible show @Eq (Option Value) _ _); exact Own.cell ‹Own _ _ _ _› 1 (by rfl) (by rfl))
      | ((with_reducible show @Eq (Option Value) _ _); exact Own.cell ‹Own _ _ _ _› 2 (by rfl) (by rfl))
      | ((with_reducible show Exists _); refine ⟨_, Own.old ‹Own _ _ _ _› (by assumption) id, ?_⟩)
      | ((with_reducible show Exists _); refine ⟨_, _, _, Own.old ‹Own _ _ _ _› (by assumption) id, ?_⟩)
      | ((with_reducible show And _ _); refine ⟨Own.old ‹Own _ _ _ _› (by assumption) id, ?_⟩)
      | ((with_reducible show Exists _); refine ⟨_, Own.old ‹Own _ _ _ _› (by assumption) (by assumption), ?_⟩)
      | ((with_reducible show Exists _); refine ⟨_, _, _, Own.old ‹Own _ _ _ _› (by assumption) (by assumption), ?_⟩)
      | ((with_reducible show And _ _); refine ⟨Own.old ‹Own _ _ _ _› (by assumption) (by assumption), ?_⟩)
      | ((with_reducible show CallsH _ _ _ _ _); refine CallsH.mono (none_spec a _) ?_; rintro _ _ ⟨rfl, hm⟩; (first | refine ⟨rfl, ?_⟩ | refine ⟨_, rfl, ?_⟩ | refine ⟨_, _, rfl, ?_⟩ | refine ⟨_, _, _, _, rfl, ?_⟩ | refine ⟨_, _, _, _, _, rfl, ?_⟩ | refine ⟨_, _, _, _, _, _, rfl, ?_⟩); have hnx := Own.next ‹Own _ _ _ _› hm; clear hm)
      | ((with_reducible show CallsH _ _ _ _ _); refine CallsH.mono (none_spec b _) ?_; rintro _ _ ⟨rfl, hm⟩; (first | refine ⟨rfl, ?_⟩ | refine ⟨_, rfl, ?_⟩ | refine ⟨_, _, rfl, ?_⟩ | refine ⟨_, _, _, _, rfl, ?_⟩ | refine ⟨_, _, _, _, _, rfl, ?_⟩ | refine ⟨_, _, _, _, _, _, rfl, ?_⟩); have hnx := Own.next ‹Own _ _ _ _› hm; clear hm)
      | fail
    refine cond_split (fun hb => ?_) (fun hb => ?_)
    · repeat' first
        | ((with_reducible show VNew _ _ _); refine Own.vnew ‹Own _ _ _ _› fun _ _ _ _ => ?_)
        | ((with_reducible show VSome _ _); refine VSome.mk ?_)
        | ((with_reducible show Exists _); refine ⟨_, Own.cell ‹Own _ _ _ _› 0 (by rfl) (by rfl), ?_⟩)
        | ((with_reducible show Exists _); refine ⟨_, Own.cell ‹Own _ _ _ _› 1 (by rfl) (by rfl), ?_⟩)
        | ((with_reducible show Exists _); refine ⟨_, Own.cell ‹Own _ _ _ _› 2 (by rfl) (by rfl), ?_⟩)
        | ((with_reducible show storeL _ _ _ _ _); refine Own.vstoreAll ‹Own _ _ _ _› 0 (by rfl) (by rfl) (by rfl) fun _ _ => ?_)
        | ((with_reducible show storeL _ _ _ _ _); refine Own.vstoreAll ‹Own _ _ _ _› 1 (by rfl) (by rfl) (by rfl) fun _ _ => ?_)
        | ((with_reducible show storeL _ _ _ _ _); refine Own.vstoreAll ‹Own _ _ _ _› 2 (by rfl) (by rfl) (by rfl) fun _ _ => ?_)
        | ((with_reducible show VStore _ _ _ _); refine Own.vstore ‹Own _ _ _ _› 0 (by rfl) (by simp) fun _ _ => ?_)
        | ((with_reducible show VStore _ _ _ _); refine Own.vstore ‹Own _ _ _ _› 1 (by rfl) (by simp) fun _ _ => ?_)
        | ((with_reducible show VStore _ _ _ _); refine Own.vstore ‹Own _ _ _ _› 2 (by rfl) (by simp) fun _ _ => ?_)
        | ((with_reducible show And _ _); refine ⟨Own.cell ‹Own _ _ _ _› 0 (by rfl) (by rfl), ?_⟩)
        | ((with_reducible show And _ _); refine ⟨Own.cell ‹Own _ _ _ _› 1 (by rfl) (by rfl), ?_⟩)
        | ((with_reducible show And _ _); refine ⟨Own.cell ‹Own _ _ _ _› 2 (by rfl) (by rfl), ?_⟩)
        | ((with_reducible show Exists _); refine ⟨_, _, _, Own.cell ‹Own _ _ _ _› 0 (by rfl) (by rfl), ?_⟩)
        | ((with_reducible show Exists _); refine ⟨_, _, _, Own.cell ‹Own _ _ _ _› 1 (by rfl) (by rfl), ?_⟩)
        | ((with_reducible show Exists _); refine ⟨_, _, _, Own.cell ‹Own _ _ _ _› 2 (by rfl) (by rfl), ?_⟩)
        | ((with_reducible show And _ _); refine And.intro (And.intro (Own.cell ‹Own _ _ _ _› 0 (by rfl) (by rfl)) ?_) ?_)
        | ((with_reducible show And _ _); refine And.intro (And.intro (Own.cell ‹Own _ _ _ _› 1 (by rfl) (by rfl)) ?_) ?_)
        | ((with_reducible show And _ _); refine And.intro (And.intro (Own.cell ‹Own _ _ _ _› 2 (by rfl) (by rfl)) ?_) ?_)
        | ((with_reducible show @Eq (Option Value) _ _); exact Own.cell ‹Own _ _ _ _› 0 (by rfl) (by rfl))
        | ((with_reducible show @Eq (Option Value) _ _); exact Own.cell ‹Own _ _ _ _› 1 (by rfl) (by rfl))
        | ((with_reducible show @Eq (Option Value) _ _); exact Own.cell ‹Own _ _ _ _› 2 (by rfl) (by rfl))
        | ((with_reducible show Exists _); refine ⟨_, Own.old ‹Own _ _ _ _› (by assumption) id, ?_⟩)
        | ((with_reducible show Exists _); refine ⟨_, _, _, Own.old ‹Own _ _ _ _› (by assumption) id, ?_⟩)
        | ((with_reducible show And _ _); refine ⟨Own.old ‹Own _ _ _ _› (by assumption) id, ?_⟩)
        | ((with_reducible show Exists _); refine ⟨_, Own.old ‹Own _ _ _ _› (by assumption) (by assumption), ?_⟩)
        | ((with_reducible show Exists _); refine ⟨_, _, _, Own.old ‹Own _ _ _ _› (by assumption) (by assumption), ?_⟩)
        | ((with_reducible show And _ _); refine ⟨Own.old ‹Own _ _ _ _› (by assumption) (by assumption), ?_⟩)
        | fail
      exact fin .z _ _ _ ‹Lcl _ _ _› (by simp [joinS, ha, hb]) rfl
    · repeat' first
        | ((with_reducible show VNew _ _ _); refine Own.vnew ‹Own _ _ _ _› fun _ _ _ _ => ?_)
        | ((with_reducible show VSome _ _); refine VSome.mk ?_)
        | ((with_reducible show Exists _); refine ⟨_, Own.cell ‹Own _ _ _ _› 0 (by rfl) (by rfl), ?_⟩)
        | ((with_reducible show Exists _); refine ⟨_, Own.cell ‹Own _ _ _ _› 1 (by rfl) (by rfl), ?_⟩)
        | ((with_reducible show Exists _); refine ⟨_, Own.cell ‹Own _ _ _ _› 2 (by rfl) (by rfl), ?_⟩)
        | ((with_reducible show storeL _ _ _ _ _); refine Own.vstoreAll ‹Own _ _ _ _› 0 (by rfl) (by rfl) (by rfl) fun _ _ => ?_)
        | ((with_reducible show storeL _ _ _ _ _); refine Own.vstoreAll ‹Own _ _ _ _› 1 (by rfl) (by rfl) (by rfl) fun _ _ => ?_)
        | ((with_reducible show storeL _ _ _ _ _); refine Own.vstoreAll ‹Own _ _ _ _› 2 (by rfl) (by rfl) (by rfl) fun _ _ => ?_)
        | ((with_reducible show VStore _ _ _ _); refine Own.vstore ‹Own _ _ _ _› 0 (by rfl) (by simp) fun _ _ => ?_)
        | ((with_reducible show VStore _ _ _ _); refine Own.vstore ‹Own _ _ _ _› 1 (by rfl) (by simp) fun _ _ => ?_)
        | ((with_reducible show VStore _ _ _ _); refine Own.vstore ‹Own _ _ _ _› 2 (by rfl) (by simp) fun _ _ => ?_)
        | ((with_reducible show And _ _); refine ⟨Own.cell ‹Own _ _ _ _› 0 (by rfl) (by rfl), ?_⟩)
        | ((with_reducible show And _ _); refine ⟨Own.cell ‹Own _ _ _ _› 1 (by rfl) (by rfl), ?_⟩)
        | ((with_reducible show And _ _); refine ⟨Own.cell ‹Own _ _ _ _› 2 (by rfl) (by rfl), ?_⟩)
        | ((with_reducible show Exists _); refine ⟨_, _, _, Own.cell ‹Own _ _ _ _› 0 (by rfl) (by rfl), ?_⟩)
        | ((with_reducible show Exists _); refine ⟨_, _, _, Own.cell ‹Own _ _ _ _› 1 (by rfl) (by rfl), ?_⟩)
        | ((with_reducible show Exists _); refine ⟨_, _, _, Own.cell ‹Own _ _ _ _› 2 (by rfl) (by rfl), ?_⟩)
        | ((with_reducible show And _ _); refine And.intro (And.intro (Own.cell ‹Own _ _ _ _› 0 (by rfl) (by rfl)) ?_) ?_)
        | ((with_reducible show And _ _); refine And.intro (And.intro (Own.cell ‹Own _ _ _ _› 1 (by rfl) (by rfl)) ?_) ?_)
        | ((with_reducible show And _ _); refine And.intro (And.intro (Own.cell ‹Own _ _ _ _› 2 (by rfl) (by rfl)) ?_) ?_)
        | ((with_reducible show @Eq (Option Value) _ _); exact Own.cell ‹Own _ _ _ _› 0 (by rfl) (by rfl))
        | ((with_reducible show @Eq (Option Value) _ _); exact Own.cell ‹Own _ _ _ _› 1 (by rfl) (by rfl))
        | ((with_reducible show @Eq (Option Value) _ _); exact Own.cell ‹Own _ _ _ _› 2 (by rfl) (by rfl))
        | ((with_reducible show Exists _); refine ⟨_, Own.old ‹Own _ _ _ _› (by assumption) id, ?_⟩)
        | ((with_reducible show Exists _); refine ⟨_, _, _, Own.old ‹Own _ _ _ _› (by assumption) id, ?_⟩)
        | ((with_reducible show And _ _); refine ⟨Own.old ‹Own _ _ _ _› (by assumption) id, ?_⟩)
        | ((with_reducible show Exists _); refine ⟨_, Own.old ‹Own _ _ _ _› (by assumption) (by assumption), ?_⟩)
        | ((with_reducible show Exists _); refine ⟨_, _, _, Own.old ‹Own _ _ _ _› (by assumption) (by assumption), ?_⟩)
        | ((with_reducible show And _ _); refine ⟨Own.old ‹Own _ _ _ _› (by assumption) (by assumption), ?_⟩)
        | ((with_reducible show CallsH _ _ _ _ _); refine CallsH.mono (none_spec a _) ?_; rintro _ _ ⟨rfl, hm⟩; (first | refine ⟨rfl, ?_⟩ | refine ⟨_, rfl, ?_⟩ | refine ⟨_, _, rfl, ?_⟩ | refine ⟨_, _, _, _, rfl, ?_⟩ | refine ⟨_, _, _, _, _, rfl, ?_⟩ | refine ⟨_, _, _, _, _, _, rfl, ?_⟩); have hnx := Own.next ‹Own _ _ _ _› hm; clear hm)
        | fail
      refine cond_true ha ?_
      repeat' first
        | ((with_reducible show VNew _ _ _); refine Own.vnew ‹Own _ _ _ _› fun _ _ _ _ => ?_)
        | ((with_reducible show VSome _ _); refine VSome.mk ?_)
        | ((with_reducible show Exists _); refine ⟨_, Own.cell ‹Own _ _ _ _› 0 (by rfl) (by rfl), ?_⟩)
        | ((with_reducible show Exists _); refine ⟨_, Own.cell ‹Own _ _ _ _› 1 (by rfl) (by rfl), ?_⟩)
        | ((with_reducible show Exists _); refine ⟨_, Own.cell ‹Own _ _ _ _› 2 (by rfl) (by rfl), ?_⟩)
        | ((with_reducible show storeL _ _ _ _ _); refine Own.vstoreAll ‹Own _ _ _ _› 0 (by rfl) (by rfl) (by rfl) fun _ _ => ?_)
        | ((with_reducible show storeL _ _ _ _ _); refine Own.vstoreAll ‹Own _ _ _ _› 1 (by rfl) (by rfl) (by rfl) fun _ _ => ?_)
        | ((with_reducible show storeL _ _ _ _ _); refine Own.vstoreAll ‹Own _ _ _ _› 2 (by rfl) (by rfl) (by rfl) fun _ _ => ?_)
        | ((with_reducible show VStore _ _ _ _); refine Own.vstore ‹Own _ _ _ _› 0 (by rfl) (by simp) fun _ _ => ?_)
        | ((with_reducible show VStore _ _ _ _); refine Own.vstore ‹Own _ _ _ _› 1 (by rfl) (by simp) fun _ _ => ?_)
        | ((with_reducible show VStore _ _ _ _); refine Own.vstore ‹Own _ _ _ _› 2 (by rfl) (by simp) fun _ _ => ?_)
        | ((with_reducible show And _ _); refine ⟨Own.cell ‹Own _ _ _ _› 0 (by rfl) (by rfl), ?_⟩)
        | ((with_reducible show And _ _); refine ⟨Own.cell ‹Own _ _ _ _› 1 (by rfl) (by rfl), ?_⟩)
        | ((with_reducible show And _ _); refine ⟨Own.cell ‹Own _ _ _ _› 2 (by rfl) (by rfl), ?_⟩)
        | ((with_reducible show Exists _); refine ⟨_, _, _, Own.cell ‹Own _ _ _ _› 0 (by rfl) (by rfl), ?_⟩)
        | ((with_reducible show Exists _); refine ⟨_, _, _, Own.cell ‹Own _ _ _ _› 1 (by rfl) (by rfl), ?_⟩)
        | ((with_reducible show Exists _); refine ⟨_, _, _, Own.cell ‹Own _ _ _ _› 2 (by rfl) (by rfl), ?_⟩)
        | ((with_reducible show And _ _); refine And.intro (And.intro (Own.cell ‹Own _ _ _ _› 0 (by rfl) (by rfl)) ?_) ?_)
        | ((with_reducible show And _ _); refine And.intro (And.intro (Own.cell ‹Own _ _ _ _› 1 (by rfl) (by rfl)) ?_) ?_)
        | ((with_reducible show And _ _); refine And.intro (And.intro (Own.cell ‹Own _ _ _ _› 2 (by rfl) (by rfl)) ?_) ?_)
        | ((with_reducible show @Eq (Option Value) _ _); exact Own.cell ‹Own _ _ _ _› 0 (by rfl) (by rfl))
        | ((with_reducible show @Eq (Option Value) _ _); exact Own.cell ‹Own _ _ _ _› 1 (by rfl) (by rfl))
        | ((with_reducible show @Eq (Option Value) _ _); exact Own.cell ‹Own _ _ _ _› 2 (by rfl) (by rfl))
        | ((with_reducible show Exists _); refine ⟨_, Own.old ‹Own _ _ _ _› (by assumption) id, ?_⟩)
        | ((with_reducible show Exists _); refine ⟨_, _, _, Own.old ‹Own _ _ _ _› (by assumption) id, ?_⟩)
        | ((with_reducible show And _ _); refine ⟨Own.old ‹Own _ _ _ _› (by assumption) id, ?_⟩)
        | ((with_reducible show Exists _); refine ⟨_, Own.old ‹Own _ _ _ _› (by assumption) (by assumption), ?_⟩)
        | ((with_reducible show Exists _); refine ⟨_, _, _, Own.old ‹Own _ _ _ _› (by assumption) (by assumption), ?_⟩)
        | ((with_reducible show And _ _); refine ⟨Own.old ‹Own _ _ _ _› (by assumption) (by assumption), ?_⟩)
        | fail
      exact fin b _ _ _ ‹Lcl _ _ _› (by simp [joinS, ha, hb]) rfl
  · repeat' first
      | ((with_reducible show VNew _ _ _); refine Own.vnew ‹Own _ _ _ _› fun _ _ _ _ => ?_)
      | ((with_reducible show VSome _ _); refine VSome.mk ?_)
      | ((with_reducible show Exists _); refine ⟨_, Own.cell ‹Own _ _ _ _› 0 (by rfl) (by rfl), ?_⟩)
      | ((with_reducible show Exists _); refine ⟨_, Own.cell ‹Own _ _ _ _› 1 (by rfl) (by rfl), ?_⟩)
      | ((with_reducible show Exists _); refine ⟨_, Own.cell ‹Own _ _ _ _› 2 (by rfl) (by rfl), ?_⟩)
      | ((with_reducible show storeL _ _ _ _ _); refine Own.vstoreAll ‹Own _ _ _ _› 0 (by rfl) (by rfl) (by rfl) fun _ _ => ?_)
      | ((with_reducible show storeL _ _ _ _ _); refine Own.vstoreAll ‹Own _ _ _ _› 1 (by rfl) (by rfl) (by rfl) fun _ _ => ?_)
      | ((with_reducible show storeL _ _ _ _ _); refine Own.vstoreAll ‹Own _ _ _ _› 2 (by rfl) (by rfl) (by rfl) fun _ _ => ?_)
      | ((with_reducible show VStore _ _ _ _); refine Own.vstore ‹Own _ _ _ _› 0 (by rfl) (by simp) fun _ _ => ?_)
      | ((with_reducible show VStore _ _ _ _); refine Own.vstore ‹Own _ _ _ _› 1 (by rfl) (by simp) fun _ _ => ?_)
      | ((with_reducible show VStore _ _ _ _); refine Own.vstore ‹Own _ _ _ _› 2 (by rfl) (by simp) fun _ _ => ?_)
      | ((with_reducible show And _ _); refine ⟨Own.cell ‹Own _ _ _ _› 0 (by rfl) (by rfl), ?_⟩)
      | ((with_reducible show And _ _); refine ⟨Own.cell ‹Own _ _ _ _› 1 (by rfl) (by rfl), ?_⟩)
      | ((with_reducible show And _ _); refine ⟨Own.cell ‹Own _ _ _ _› 2 (by rfl) (by rfl), ?_⟩)
      | ((with_reducible show Exists _); refine ⟨_, _, _, Own.cell ‹Own _ _ _ _› 0 (by rfl) (by rfl), ?_⟩)
      | ((with_reducible show Exists _); refine ⟨_, _, _, Own.cell ‹Own _ _ _ _› 1 (by rfl) (by rfl), ?_⟩)
      | ((with_reducible show Exists _); refine ⟨_, _, _, Own.cell ‹Own _ _ _ _› 2 (by rfl) (by rfl), ?_⟩)
      | ((with_reducible show And _ _); refine And.intro (And.intro (Own.cell ‹Own _ _ _ _› 0 (by rfl) (by rfl)) ?_) ?_)
      | ((with_reducible show And _ _); refine And.intro (And.intro (Own.cell ‹Own _ _ _ _› 1 (by rfl) (by rfl)) ?_) ?_)
      | ((with_reducible show And _ _); refine And.intro (And.intro (Own.cell ‹Own _ _ _ _› 2 (by rfl) (by rfl)) ?_) ?_)
      | ((with_reducible show @Eq (Option Value) _ _); exact Own.cell ‹Own _ _ _ _› 0 (by rfl) (by rfl))
      | ((with_reducible show @Eq (Option Value) _ _); exact Own.cell ‹Own _ _ _ _› 1 (by rfl) (by rfl))
      | ((with_reducible show @Eq (Option Value) _ _); exact Own.cell ‹Own _ _ _ _› 2 (by rfl) (by rfl))
      | ((with_reducible show Exists _); refine ⟨_, Own.old ‹Own _ _ _ _› (by assumption) id, ?_⟩)
      | ((with_reducible show Exists _); refine ⟨_, _, _, Own.old ‹Own _ _ _ _› (by assumption) id, ?_⟩)
      | ((with_reducible show And _ _); refine ⟨Own.old ‹Own _ _ _ _› (by assumption) id, ?_⟩)
      | ((with_reducible show Exists _); refine ⟨_, Own.old ‹Own _ _ _ _› (by assumption) (by assumption), ?_⟩)
      | ((with_reducible show Exists _); refine ⟨_, _, _, Own.old ‹Own _ _ _ _› (by assumption) (by assumption), ?_⟩)
      | ((with_reducible show And _ _); refine ⟨Own.old ‹Own _ _ _ _› (by assumption) (by assumption), ?_⟩)
      | ((with_reducible show CallsH _ _ _ _ _); refine CallsH.mono (none_spec a _) ?_; rintro _ _ ⟨rfl, hm⟩; (first | refine ⟨rfl, ?_⟩ | refine ⟨_, rfl, ?_⟩ | refine ⟨_, _, rfl, ?_⟩ | refine ⟨_, _, _, _, rfl, ?_⟩ | refine ⟨_, _, _, _, _, rfl, ?_⟩ | refine ⟨_, _, _, _, _, _, rfl, ?_⟩); have hnx := Own.next ‹Own _ _ _ _› hm; clear hm)
      | fail
    refine cond_false ha ?_
    repeat' first
      | ((with_reducible show VNew _ _ _); refine Own.vnew ‹Own _ _ _ _› fun _ _ _ _ => ?_)
      | ((with_reducible show VSome _ _); refine VSome.mk ?_)
      | ((with_reducible show Exists _); refine ⟨_, Own.cell ‹Own _ _ _ _› 0 (by rfl) (by rfl), ?_⟩)
      | ((with_reducible show Exists _); refine ⟨_, Own.cell ‹Own _ _ _ _› 1 (by rfl) (by rfl), ?_⟩)
      | ((with_reducible show Exists _); refine ⟨_, Own.cell ‹Own _ _ _ _› 2 (by rfl) (by rfl), ?_⟩)
      | ((with_reducible show storeL _ _ _ _ _); refine Own.vstoreAll ‹Own _ _ _ _› 0 (by rfl) (by rfl) (by rfl) fun _ _ => ?_)
      | ((with_reducible show storeL _ _ _ _ _); refine Own.vstoreAll ‹Own _ _ _ _› 1 (by rfl) (by rfl) (by rfl) fun _ _ => ?_)
      | ((with_reducible show storeL _ _ _ _ _); refine Own.vstoreAll ‹Own _ _ _ _› 2 (by rfl) (by rfl) (by rfl) fun _ _ => ?_)
      | ((with_reducible show VStore _ _ _ _); refine Own.vstore ‹Own _ _ _ _› 0 (by rfl) (by simp) fun _ _ => ?_)
      | ((with_reducible show VStore _ _ _ _); refine Own.vstore ‹Own _ _ _ _› 1 (by rfl) (by simp) fun _ _ => ?_)
      | ((with_reducible show VStore _ _ _ _); refine Own.vstore ‹Own _ _ _ _› 2 (by rfl) (by simp) fun _ _ => ?_)
      | ((with_reducible show And _ _); refine ⟨Own.cell ‹Own _ _ _ _› 0 (by rfl) (by rfl), ?_⟩)
      | ((with_reducible show And _ _); refine ⟨Own.cell ‹Own _ _ _ _› 1 (by rfl) (by rfl), ?_⟩)
      | ((with_reducible show And _ _); refine ⟨Own.cell ‹Own _ _ _ _› 2 (by rfl) (by rfl), ?_⟩)
      | ((with_reducible show Exists _); refine ⟨_, _, _, Own.cell ‹Own _ _ _ _› 0 (by rfl) (by rfl), ?_⟩)
      | ((with_reducible show Exists _); refine ⟨_, _, _, Own.cell ‹Own _ _ _ _› 1 (by rfl) (by rfl), ?_⟩)
      | ((with_reducible show Exists _); refine ⟨_, _, _, Own.cell ‹Own _ _ _ _› 2 (by rfl) (by rfl), ?_⟩)
      | ((with_reducible show And _ _); refine And.intro (And.intro (Own.cell ‹Own _ _ _ _› 0 (by rfl) (by rfl)) ?_) ?_)
      | ((with_reducible show And _ _); refine And.intro (And.intro (Own.cell ‹Own _ _ _ _› 1 (by rfl) (by rfl)) ?_) ?_)
      | ((with_reducible show And _ _); refine And.intro (And.intro (Own.cell ‹Own _ _ _ _› 2 (by rfl) (by rfl)) ?_) ?_)
      | ((with_reducible show @Eq (Option Value) _ _); exact Own.cell ‹Own _ _ _ _› 0 (by rfl) (by rfl))
      | ((with_reducible show @Eq (Option Value) _ _); exact Own.cell ‹Own _ _ _ _› 1 (by rfl) (by rfl))
      | ((with_reducible show @Eq (Option Value) _ _); exact Own.cell ‹Own _ _ _ _› 2 (by rfl) (by rfl))
      | ((with_reducible show Exists _); refine ⟨_, Own.old ‹Own _ _ _ _› (by assumption) id, ?_⟩)
      | ((with_reducible show Exists _); refine ⟨_, _, _, Own.old ‹Own _ _ _ _› (by assumption) id, ?_⟩)
      | ((with_reducible show And _ _); refine ⟨Own.old ‹Own _ _ _ _› (by assumption) id, ?_⟩)
      | ((with_reducible show Exists _); refine ⟨_, Own.old ‹Own _ _ _ _› (by assumption) (by assumption), ?_⟩)
      | ((with_reducible show Exists _); refine ⟨_, _, _, Own.old ‹Own _ _ _ _› (by assumption) (by assumption), ?_⟩)
      | ((with_reducible show And _ _); refine ⟨Own.old ‹Own _ _ _ _› (by assumption) (by assumption), ?_⟩)
      | ((with_reducible show CallsH _ _ _ _ _); refine CallsH.mono (none_spec b _) ?_; rintro _ _ ⟨rfl, hm⟩; (first | refine ⟨rfl, ?_⟩ | refine ⟨_, rfl, ?_⟩ | refine ⟨_, _, rfl, ?_⟩ | refine ⟨_, _, _, _, rfl, ?_⟩ | refine ⟨_, _, _, _, _, rfl, ?_⟩ | refine ⟨_, _, _, _, _, _, rfl, ?_⟩); have hnx := Own.next ‹Own _ _ _ _› hm; clear hm)
      | fail
    refine cond_split (fun hb => ?_) (fun hb => ?_)
    · repeat' first
        | ((with_reducible show VNew _ _ _); refine Own.vnew ‹Own _ _ _ _› fun _ _ _ _ => ?_)
        | ((with_reducible show VSome _ _); refine VSome.mk ?_)
        | ((with_reducible show Exists _); refine ⟨_, Own.cell ‹Own _ _ _ _› 0 (by rfl) (by rfl), ?_⟩)
        | ((with_reducible show Exists _); refine ⟨_, Own.cell ‹Own _ _ _ _› 1 (by rfl) (by rfl), ?_⟩)
        | ((with_reducible show Exists _); refine ⟨_, Own.cell ‹Own _ _ _ _› 2 (by rfl) (by rfl), ?_⟩)
        | ((with_reducible show storeL _ _ _ _ _); refine Own.vstoreAll ‹Own _ _ _ _› 0 (by rfl) (by rfl) (by rfl) fun _ _ => ?_)
        | ((with_reducible show storeL _ _ _ _ _); refine Own.vstoreAll ‹Own _ _ _ _› 1 (by rfl) (by rfl) (by rfl) fun _ _ => ?_)
        | ((with_reducible show storeL _ _ _ _ _); refine Own.vstoreAll ‹Own _ _ _ _› 2 (by rfl) (by rfl) (by rfl) fun _ _ => ?_)
        | ((with_reducible show VStore _ _ _ _); refine Own.vstore ‹Own _ _ _ _› 0 (by rfl) (by simp) fun _ _ => ?_)
        | ((with_reducible show VStore _ _ _ _); refine Own.vstore ‹Own _ _ _ _› 1 (by rfl) (by simp) fun _ _ => ?_)
        | ((with_reducible show VStore _ _ _ _); refine Own.vstore ‹Own _ _ _ _› 2 (by rfl) (by simp) fun _ _ => ?_)
        | ((with_reducible show And _ _); refine ⟨Own.cell ‹Own _ _ _ _› 0 (by rfl) (by rfl), ?_⟩)
        | ((with_reducible show And _ _); refine ⟨Own.cell ‹Own _ _ _ _› 1 (by rfl) (by rfl), ?_⟩)
        | ((with_reducible show And _ _); refine ⟨Own.cell ‹Own _ _ _ _› 2 (by rfl) (by rfl), ?_⟩)
        | ((with_reducible show Exists _); refine ⟨_, _, _, Own.cell ‹Own _ _ _ _› 0 (by rfl) (by rfl), ?_⟩)
        | ((with_reducible show Exists _); refine ⟨_, _, _, Own.cell ‹Own _ _ _ _› 1 (by rfl) (by rfl), ?_⟩)
        | ((with_reducible show Exists _); refine ⟨_, _, _, Own.cell ‹Own _ _ _ _› 2 (by rfl) (by rfl), ?_⟩)
        | ((with_reducible show And _ _); refine And.intro (And.intro (Own.cell ‹Own _ _ _ _› 0 (by rfl) (by rfl)) ?_) ?_)
        | ((with_reducible show And _ _); refine And.intro (And.intro (Own.cell ‹Own _ _ _ _› 1 (by rfl) (by rfl)) ?_) ?_)
        | ((with_reducible show And _ _); refine And.intro (And.intro (Own.cell ‹Own _ _ _ _› 2 (by rfl) (by rfl)) ?_) ?_)
        | ((with_reducible show @Eq (Option Value) _ _); exact Own.cell ‹Own _ _ _ _› 0 (by rfl) (by rfl))
        | ((with_reducible show @Eq (Option Value) _ _); exact Own.cell ‹Own _ _ _ _› 1 (by rfl) (by rfl))
        | ((with_reducible show @Eq (Option Value) _ _); exact Own.cell ‹Own _ _ _ _› 2 (by rfl) (by rfl))
        | ((with_reducible show Exists _); refine ⟨_, Own.old ‹Own _ _ _ _› (by assumption) id, ?_⟩)
        | ((with_reducible show Exists _); refine ⟨_, _, _, Own.old ‹Own _ _ _ _› (by assumption) id, ?_⟩)
        | ((with_reducible show And _ _); refine ⟨Own.old ‹Own _ _ _ _› (by assumption) id, ?_⟩)
        | ((with_reducible show Exists _); refine ⟨_, Own.old ‹Own _ _ _ _› (by assumption) (by assumption), ?_⟩)
        | ((with_reducible show Exists _); refine ⟨_, _, _, Own.old ‹Own _ _ _ _› (by assumption) (by assumption), ?_⟩)
        | ((with_reducible show And _ _); refine ⟨Own.old ‹Own _ _ _ _› (by assumption) (by assumption), ?_⟩)
        | fail
      exact fin a _ _ _ ‹Lcl _ _ _› (by simp [joinS, ha, hb]) rfl
    · repeat' first
        | ((with_reducible show VNew _ _ _); refine Own.vnew ‹Own _ _ _ _› fun _ _ _ _ => ?_)
        | ((with_reducible show VSome _ _); refine VSome.mk ?_)
        | ((with_reducible show Exists _); refine ⟨_, Own.cell ‹Own _ _ _ _› 0 (by rfl) (by rfl), ?_⟩)
        | ((with_reducible show Exists _); refine ⟨_, Own.cell ‹Own _ _ _ _› 1 (by rfl) (by rfl), ?_⟩)
        | ((with_reducible show Exists _); refine ⟨_, Own.cell ‹Own _ _ _ _› 2 (by rfl) (by rfl), ?_⟩)
        | ((with_reducible show storeL _ _ _ _ _); refine Own.vstoreAll ‹Own _ _ _ _› 0 (by rfl) (by rfl) (by rfl) fun _ _ => ?_)
        | ((with_reducible show storeL _ _ _ _ _); refine Own.vstoreAll ‹Own _ _ _ _› 1 (by rfl) (by rfl) (by rfl) fun _ _ => ?_)
        | ((with_reducible show storeL _ _ _ _ _); refine Own.vstoreAll ‹Own _ _ _ _› 2 (by rfl) (by rfl) (by rfl) fun _ _ => ?_)
        | ((with_reducible show VStore _ _ _ _); refine Own.vstore ‹Own _ _ _ _› 0 (by rfl) (by simp) fun _ _ => ?_)
        | ((with_reducible show VStore _ _ _ _); refine Own.vstore ‹Own _ _ _ _› 1 (by rfl) (by simp) fun _ _ => ?_)
        | ((with_reducible show VStore _ _ _ _); refine Own.vstore ‹Own _ _ _ _› 2 (by rfl) (by simp) fun _ _ => ?_)
        | ((with_reducible show And _ _); refine ⟨Own.cell ‹Own _ _ _ _› 0 (by rfl) (by rfl), ?_⟩)
        | ((with_reducible show And _ _); refine ⟨Own.cell ‹Own _ _ _ _› 1 (by rfl) (by rfl), ?_⟩)
        | ((with_reducible show And _ _); refine ⟨Own.cell ‹Own _ _ _ _› 2 (by rfl) (by rfl), ?_⟩)
        | ((with_reducible show Exists _); refine ⟨_, _, _, Own.cell ‹Own _ _ _ _› 0 (by rfl) (by rfl), ?_⟩)
        | ((with_reducible show Exists _); refine ⟨_, _, _, Own.cell ‹Own _ _ _ _› 1 (by rfl) (by rfl), ?_⟩)
        | ((with_reducible show Exists _); refine ⟨_, _, _, Own.cell ‹Own _ _ _ _› 2 (by rfl) (by rfl), ?_⟩)
        | ((with_reducible show And _ _); refine And.intro (And.intro (Own.cell ‹Own _ _ _ _› 0 (by rfl) (by rfl)) ?_) ?_)
        | ((with_reducible show And _ _); refine And.intro (And.intro (Own.cell ‹Own _ _ _ _› 1 (by rfl) (by rfl)) ?_) ?_)
        | ((with_reducible show And _ _); refine And.intro (And.intro (Own.cell ‹Own _ _ _ _› 2 (by rfl) (by rfl)) ?_) ?_)
        | ((with_reducible show @Eq (Option Value) _ _); exact Own.cell ‹Own _ _ _ _› 0 (by rfl) (by rfl))
        | ((with_reducible show @Eq (Option Value) _ _); exact Own.cell ‹Own _ _ _ _› 1 (by rfl) (by rfl))
        | ((with_reducible show @Eq (Option Value) _ _); exact Own.cell ‹Own _ _ _ _› 2 (by rfl) (by rfl))
        | ((with_reducible show Exists _); refine ⟨_, Own.old ‹Own _ _ _ _› (by assumption) id, ?_⟩)
        | ((with_reducible show Exists _); refine ⟨_, _, _, Own.old ‹Own _ _ _ _› (by assumption) id, ?_⟩)
        | ((with_reducible show And _ _); refine ⟨Own.old ‹Own _ _ _ _› (by assumption) id, ?_⟩)
        | ((with_reducible show Exists _); refine ⟨_, Own.old ‹Own _ _ _ _› (by assumption) (by assumption), ?_⟩)
        | ((with_reducible show Exists _); refine ⟨_, _, _, Own.old ‹Own _ _ _ _› (by assumption) (by assumption), ?_⟩)
        | ((with_reducible show And _ _); refine ⟨Own.old ‹Own _ _ _ _› (by assumption) (by assumption), ?_⟩)
        | fail
      exact fin ⟨_, _, _, _⟩ _ _ _ ‹Lcl _ _ _› (by simp only [joinS, ha, hb]; rfl) rfl
theorem add_spec (a : Acc) (ns : List Int) (p : Option Addr) (l c : Nat) (h : Heap) (hs : Sl h p (ints ns)) (hl : ns.length = l) (hb : l < 35184372088832) :
    CallsH Try.prog 11 #[a.v, .slice p l c] h (fun v h' => v = (addS a ns).v ∧ Ext h h') := by
  refine vf11 _ _ _ _ _ _ _ h _ ?_
  unfold F11
  have hL := Lcl.start h
  refine hL.vnew fun b1 h1 _ hL1 => hL1.vnew fun b3 h2 _ hL2 => ?_
  clear hL hL1
  refine ⟨fun h' => Lcl h h' [(b3, #[.int .i64 0, .int .i64 0, .int .i64 0, .int .i64 0], 39), (b1, #[.int .i64 (taken a).c, .int .i64 (taken a).s, .int .i64 (taken a).lo, .int .i64 (taken a).hi], 39)], ?_, ?_⟩
  · repeat' first
      | ((with_reducible show VNew _ _ _); refine Own.vnew ‹Own _ _ _ _› fun _ _ _ _ => ?_)
      | ((with_reducible show VSome _ _); refine VSome.mk ?_)
      | ((with_reducible show Exists _); refine ⟨_, Own.cell ‹Own _ _ _ _› 0 (by rfl) (by rfl), ?_⟩)
      | ((with_reducible show Exists _); refine ⟨_, Own.cell ‹Own _ _ _ _› 1 (by rfl) (by rfl), ?_⟩)
      | ((with_reducible show storeL _ _ _ _ _); refine Own.vstoreAll ‹Own _ _ _ _› 0 (by rfl) (by rfl) (by rfl) fun _ _ => ?_)
      | ((with_reducible show storeL _ _ _ _ _); refine Own.vstoreAll ‹Own _ _ _ _› 1 (by rfl) (by rfl) (by rfl) fun _ _ => ?_)
      | ((with_reducible show VStore _ _ _ _); refine Own.vstore ‹Own _ _ _ _› 0 (by rfl) (by simp) fun _ _ => ?_)
      | ((with_reducible show VStore _ _ _ _); refine Own.vstore ‹Own _ _ _ _› 1 (by rfl) (by simp) fun _ _ => ?_)
      | ((with_reducible show And _ _); refine ⟨Own.cell ‹Own _ _ _ _› 0 (by rfl) (by rfl), ?_⟩)
      | ((with_reducible show And _ _); refine ⟨Own.cell ‹Own _ _ _ _› 1 (by rfl) (by rfl), ?_⟩)
      | ((with_reducible show Exists _); refine ⟨_, _, _, Own.cell ‹Own _ _ _ _› 0 (by rfl) (by rfl), ?_⟩)
      | ((with_reducible show Exists _); refine ⟨_, _, _, Own.cell ‹Own _ _ _ _› 1 (by rfl) (by rfl), ?_⟩)
      | ((with_reducible show And _ _); refine And.intro (And.intro (Own.cell ‹Own _ _ _ _› 0 (by rfl) (by rfl)) ?_) ?_)
      | ((with_reducible show And _ _); refine And.intro (And.intro (Own.cell ‹Own _ _ _ _› 1 (by rfl) (by rfl)) ?_) ?_)
      | ((with_reducible show @Eq (Option Value) _ _); exact Own.cell ‹Own _ _ _ _› 0 (by rfl) (by rfl))
      | ((with_reducible show @Eq (Option Value) _ _); exact Own.cell ‹Own _ _ _ _› 1 (by rfl) (by rfl))
      | ((with_reducible show Exists _); refine ⟨_, Own.old ‹Own _ _ _ _› (by assumption) id, ?_⟩)
      | ((with_reducible show Exists _); refine ⟨_, _, _, Own.old ‹Own _ _ _ _› (by assumption) id, ?_⟩)
      | ((with_reducible show And _ _); refine ⟨Own.old ‹Own _ _ _ _› (by assumption) id, ?_⟩)
      | ((with_reducible show Exists _); refine ⟨_, Own.old ‹Own _ _ _ _› (by assumption) (by assumption), ?_⟩)
      | ((with_reducible show Exists _); refine ⟨_, _, _, Own.old ‹Own _ _ _ _› (by assumption) (by assumption), ?_⟩)
      | ((with_reducible show And _ _); refine ⟨Own.old ‹Own _ _ _ _› (by assumption) (by assumption), ?_⟩)
      | ((with_reducible show CallsH _ _ _ _ _); refine CallsH.mono (none_spec a _) ?_; rintro _ _ ⟨rfl, hm⟩; (first | refine ⟨rfl, ?_⟩ | refine ⟨_, rfl, ?_⟩ | refine ⟨_, _, rfl, ?_⟩ | refine ⟨_, _, _, _, rfl, ?_⟩ | refine ⟨_, _, _, _, _, rfl, ?_⟩ | refine ⟨_, _, _, _, _, _, rfl, ?_⟩); have hnx := Own.next ‹Own _ _ _ _› hm; clear hm)
      | fail
    refine cond_split (fun hc => ?_) (fun hc => ?_)
    · have e : taken a = Acc.z := by simp only [taken]; rw [show noneB a = true from hc]; rfl
      rw [e]
      repeat' first
        | ((with_reducible show VNew _ _ _); refine Own.vnew ‹Own _ _ _ _› fun _ _ _ _ => ?_)
        | ((with_reducible show VSome _ _); refine VSome.mk ?_)
        | ((with_reducible show Exists _); refine ⟨_, Own.cell ‹Own _ _ _ _› 0 (by rfl) (by rfl), ?_⟩)
        | ((with_reducible show Exists _); refine ⟨_, Own.cell ‹Own _ _ _ _› 1 (by rfl) (by rfl), ?_⟩)
        | ((with_reducible show storeL _ _ _ _ _); refine Own.vstoreAll ‹Own _ _ _ _› 0 (by rfl) (by rfl) (by rfl) fun _ _ => ?_)
        | ((with_reducible show storeL _ _ _ _ _); refine Own.vstoreAll ‹Own _ _ _ _› 1 (by rfl) (by rfl) (by rfl) fun _ _ => ?_)
        | ((with_reducible show VStore _ _ _ _); refine Own.vstore ‹Own _ _ _ _› 0 (by rfl) (by simp) fun _ _ => ?_)
        | ((with_reducible show VStore _ _ _ _); refine Own.vstore ‹Own _ _ _ _› 1 (by rfl) (by simp) fun _ _ => ?_)
        | ((with_reducible show And _ _); refine ⟨Own.cell ‹Own _ _ _ _› 0 (by rfl) (by rfl), ?_⟩)
        | ((with_reducible show And _ _); refine ⟨Own.cell ‹Own _ _ _ _› 1 (by rfl) (by rfl), ?_⟩)
        | ((with_reducible show Exists _); refine ⟨_, _, _, Own.cell ‹Own _ _ _ _› 0 (by rfl) (by rfl), ?_⟩)
        | ((with_reducible show Exists _); refine ⟨_, _, _, Own.cell ‹Own _ _ _ _› 1 (by rfl) (by rfl), ?_⟩)
        | ((with_reducible show And _ _); refine And.intro (And.intro (Own.cell ‹Own _ _ _ _› 0 (by rfl) (by rfl)) ?_) ?_)
        | ((with_reducible show And _ _); refine And.intro (And.intro (Own.cell ‹Own _ _ _ _› 1 (by rfl) (by rfl)) ?_) ?_)
        | ((with_reducible show @Eq (Option Value) _ _); exact Own.cell ‹Own _ _ _ _› 0 (by rfl) (by rfl))
        | ((with_reducible show @Eq (Option Value) _ _); exact Own.cell ‹Own _ _ _ _› 1 (by rfl) (by rfl))
        | ((with_reducible show Exists _); refine ⟨_, Own.old ‹Own _ _ _ _› (by assumption) id, ?_⟩)
        | ((with_reducible show Exists _); refine ⟨_, _, _, Own.old ‹Own _ _ _ _› (by assumption) id, ?_⟩)
        | ((with_reducible show And _ _); refine ⟨Own.old ‹Own _ _ _ _› (by assumption) id, ?_⟩)
        | ((with_reducible show Exists _); refine ⟨_, Own.old ‹Own _ _ _ _› (by assumption) (by assumption), ?_⟩)
        | ((with_reducible show Exists _); refine ⟨_, _, _, Own.old ‹Own _ _ _ _› (by assumption) (by assumption), ?_⟩)
        | ((with_reducible show And _ _); refine ⟨Own.old ‹Own _ _ _ _› (by assumption) (by assumption), ?_⟩)
        | fail
      exact ‹Lcl _ _ _›
    · have e : taken a = a := by simp only [taken]; rw [show noneB a = false from hc]; rfl
      rw [e]
      exact ‹Lcl _ _ _›
  · intro h3 _ hL3
    clear hL2
    refine cond_split (fun hc => ?_) (fun hc => ?_)
    · have hn : ns = [] := List.eq_nil_of_length_eq_zero (by rw [hl]; simpa using hc)
      repeat' first
        | ((with_reducible show VNew _ _ _); refine Own.vnew ‹Own _ _ _ _› fun _ _ _ _ => ?_)
        | ((with_reducible show VSome _ _); refine VSome.mk ?_)
        | ((with_reducible show Exists _); refine ⟨_, Own.cell ‹Own _ _ _ _› 0 (by rfl) (by rfl), ?_⟩)
        | ((with_reducible show Exists _); refine ⟨_, Own.cell ‹Own _ _ _ _› 1 (by rfl) (by rfl), ?_⟩)
        | ((with_reducible show storeL _ _ _ _ _); refine Own.vstoreAll ‹Own _ _ _ _› 0 (by rfl) (by rfl) (by rfl) fun _ _ => ?_)
        | ((with_reducible show storeL _ _ _ _ _); refine Own.vstoreAll ‹Own _ _ _ _› 1 (by rfl) (by rfl) (by rfl) fun _ _ => ?_)
        | ((with_reducible show VStore _ _ _ _); refine Own.vstore ‹Own _ _ _ _› 0 (by rfl) (by simp) fun _ _ => ?_)
        | ((with_reducible show VStore _ _ _ _); refine Own.vstore ‹Own _ _ _ _› 1 (by rfl) (by simp) fun _ _ => ?_)
        | ((with_reducible show And _ _); refine ⟨Own.cell ‹Own _ _ _ _› 0 (by rfl) (by rfl), ?_⟩)
        | ((with_reducible show And _ _); refine ⟨Own.cell ‹Own _ _ _ _› 1 (by rfl) (by rfl), ?_⟩)
        | ((with_reducible show Exists _); refine ⟨_, _, _, Own.cell ‹Own _ _ _ _› 0 (by rfl) (by rfl), ?_⟩)
        | ((with_reducible show Exists _); refine ⟨_, _, _, Own.cell ‹Own _ _ _ _› 1 (by rfl) (by rfl), ?_⟩)
        | ((with_reducible show And _ _); refine And.intro (And.intro (Own.cell ‹Own _ _ _ _› 0 (by rfl) (by rfl)) ?_) ?_)
        | ((with_reducible show And _ _); refine And.intro (And.intro (Own.cell ‹Own _ _ _ _› 1 (by rfl) (by rfl)) ?_) ?_)
        | ((with_reducible show @Eq (Option Value) _ _); exact Own.cell ‹Own _ _ _ _› 0 (by rfl) (by rfl))
        | ((with_reducible show @Eq (Option Value) _ _); exact Own.cell ‹Own _ _ _ _› 1 (by rfl) (by rfl))
        | ((with_reducible show Exists _); refine ⟨_, Own.old ‹Own _ _ _ _› (by assumption) id, ?_⟩)
        | ((with_reducible show Exists _); refine ⟨_, _, _, Own.old ‹Own _ _ _ _› (by assumption) id, ?_⟩)
        | ((with_reducible show And _ _); refine ⟨Own.old ‹Own _ _ _ _› (by assumption) id, ?_⟩)
        | ((with_reducible show Exists _); refine ⟨_, Own.old ‹Own _ _ _ _› (by assumption) (by assumption), ?_⟩)
        | ((with_reducible show Exists _); refine ⟨_, _, _, Own.old ‹Own _ _ _ _› (by assumption) (by assumption), ?_⟩)
        | ((with_reducible show And _ _); refine ⟨Own.old ‹Own _ _ _ _› (by assumption) (by assumption), ?_⟩)
        | fail
      exact ⟨by subst hn; rfl, (‹Lcl _ _ _›).ext⟩
    · have h0 : 0 < l := Nat.pos_of_ne_zero fun e => by simp [e] at hc
      obtain ⟨n0, nr, rfl⟩ : ∃ n0 nr, ns = n0 :: nr := List.exists_cons_of_length_pos (by omega)
      refine hs.int hL3.ext hl (by omega) (by omega) fun ad n hn hcell => ?_
      cases hn
      refine ⟨_, hcell, ?_⟩
      refine hs.int hL3.ext hl (by omega) (by omega) fun ad' n hn hcell' => ?_
      cases hn
      refine ⟨_, hcell', ?_⟩
      refine ⟨fun h' x y => x = (if noneB (taken a) then n0 else (taken a).lo) ∧ y = (if noneB (taken a) then n0 else (taken a).hi) ∧ Lcl h h' [(b3, #[.int .i64 0, .int .i64 0, .int .i64 0, .int .i64 0], 39), (b1, #[.int .i64 (taken a).c, .int .i64 (taken a).s, .int .i64 (taken a).lo, .int .i64 (taken a).hi], 39)], ?_, ?_⟩
      · repeat' first
          | ((with_reducible show VNew _ _ _); refine Own.vnew ‹Own _ _ _ _› fun _ _ _ _ => ?_)
          | ((with_reducible show VSome _ _); refine VSome.mk ?_)
          | ((with_reducible show Exists _); refine ⟨_, Own.cell ‹Own _ _ _ _› 0 (by rfl) (by rfl), ?_⟩)
          | ((with_reducible show Exists _); refine ⟨_, Own.cell ‹Own _ _ _ _› 1 (by rfl) (by rfl), ?_⟩)
          | ((with_reducible show storeL _ _ _ _ _); refine Own.vstoreAll ‹Own _ _ _ _› 0 (by rfl) (by rfl) (by rfl) fun _ _ => ?_)
          | ((with_reducible show storeL _ _ _ _ _); refine Own.vstoreAll ‹Own _ _ _ _› 1 (by rfl) (by rfl) (by rfl) fun _ _ => ?_)
          | ((with_reducible show VStore _ _ _ _); refine Own.vstore ‹Own _ _ _ _› 0 (by rfl) (by simp) fun _ _ => ?_)
          | ((with_reducible show VStore _ _ _ _); refine Own.vstore ‹Own _ _ _ _› 1 (by rfl) (by simp) fun _ _ => ?_)
          | ((with_reducible show And _ _); refine ⟨Own.cell ‹Own _ _ _ _› 0 (by rfl) (by rfl), ?_⟩)
          | ((with_reducible show And _ _); refine ⟨Own.cell ‹Own _ _ _ _› 1 (by rfl) (by rfl), ?_⟩)
          | ((with_reducible show Exists _); refine ⟨_, _, _, Own.cell ‹Own _ _ _ _› 0 (by rfl) (by rfl), ?_⟩)
          | ((with_reducible show Exists _); refine ⟨_, _, _, Own.cell ‹Own _ _ _ _› 1 (by rfl) (by rfl), ?_⟩)
          | ((with_reducible show And _ _); refine And.intro (And.intro (Own.cell ‹Own _ _ _ _› 0 (by rfl) (by rfl)) ?_) ?_)
          | ((with_reducible show And _ _); refine And.intro (And.intro (Own.cell ‹Own _ _ _ _› 1 (by rfl) (by rfl)) ?_) ?_)
          | ((with_reducible show @Eq (Option Value) _ _); exact Own.cell ‹Own _ _ _ _› 0 (by rfl) (by rfl))
          | ((with_reducible show @Eq (Option Value) _ _); exact Own.cell ‹Own _ _ _ _› 1 (by rfl) (by rfl))
          | ((with_reducible show Exists _); refine ⟨_, Own.old ‹Own _ _ _ _› (by assumption) id, ?_⟩)
          | ((with_reducible show Exists _); refine ⟨_, _, _, Own.old ‹Own _ _ _ _› (by assumption) id, ?_⟩)
          | ((with_reducible show And _ _); refine ⟨Own.old ‹Own _ _ _ _› (by assumption) id, ?_⟩)
          | ((with_reducible show Exists _); refine ⟨_, Own.old ‹Own _ _ _ _› (by assumption) (by assumption), ?_⟩)
          | ((with_reducible show Exists _); refine ⟨_, _, _, Own.old ‹Own _ _ _ _› (by assumption) (by assumption), ?_⟩)
          | ((with_reducible show And _ _); refine ⟨Own.old ‹Own _ _ _ _› (by assumption) (by assumption), ?_⟩)
          | ((with_reducible show CallsH _ _ _ _ _); refine CallsH.mono (none_spec (taken a) _) ?_; rintro _ _ ⟨rfl, hm⟩; (first | refine ⟨rfl, ?_⟩ | refine ⟨_, rfl, ?_⟩ | refine ⟨_, _, rfl, ?_⟩ | refine ⟨_, _, _, _, rfl, ?_⟩ | refine ⟨_, _, _, _, _, rfl, ?_⟩ | refine ⟨_, _, _, _, _, _, rfl, ?_⟩); have hnx := Own.next ‹Own _ _ _ _› hm; clear hm)
          | fail
        refine cond_split (fun hc => ?_) (fun hc => ?_)
        · have hc' : noneB (taken a) = false := by simpa using hc
          repeat' first
            | ((with_reducible show VNew _ _ _); refine Own.vnew ‹Own _ _ _ _› fun _ _ _ _ => ?_)
            | ((with_reducible show VSome _ _); refine VSome.mk ?_)
            | ((with_reducible show Exists _); refine ⟨_, Own.cell ‹Own _ _ _ _› 0 (by rfl) (by rfl), ?_⟩)
            | ((with_reducible show Exists _); refine ⟨_, Own.cell ‹Own _ _ _ _› 1 (by rfl) (by rfl), ?_⟩)
            | ((with_reducible show storeL _ _ _ _ _); refine Own.vstoreAll ‹Own _ _ _ _› 0 (by rfl) (by rfl) (by rfl) fun _ _ => ?_)
            | ((with_reducible show storeL _ _ _ _ _); refine Own.vstoreAll ‹Own _ _ _ _› 1 (by rfl) (by rfl) (by rfl) fun _ _ => ?_)
            | ((with_reducible show VStore _ _ _ _); refine Own.vstore ‹Own _ _ _ _› 0 (by rfl) (by simp) fun _ _ => ?_)
            | ((with_reducible show VStore _ _ _ _); refine Own.vstore ‹Own _ _ _ _› 1 (by rfl) (by simp) fun _ _ => ?_)
            | ((with_reducible show And _ _); refine ⟨Own.cell ‹Own _ _ _ _› 0 (by rfl) (by rfl), ?_⟩)
            | ((with_reducible show And _ _); refine ⟨Own.cell ‹Own _ _ _ _› 1 (by rfl) (by rfl), ?_⟩)
            | ((with_reducible show Exists _); refine ⟨_, _, _, Own.cell ‹Own _ _ _ _› 0 (by rfl) (by rfl), ?_⟩)
            | ((with_reducible show Exists _); refine ⟨_, _, _, Own.cell ‹Own _ _ _ _› 1 (by rfl) (by rfl), ?_⟩)
            | ((with_reducible show And _ _); refine And.intro (And.intro (Own.cell ‹Own _ _ _ _› 0 (by rfl) (by rfl)) ?_) ?_)
            | ((with_reducible show And _ _); refine And.intro (And.intro (Own.cell ‹Own _ _ _ _› 1 (by rfl) (by rfl)) ?_) ?_)
            | ((with_reducible show @Eq (Option Value) _ _); exact Own.cell ‹Own _ _ _ _› 0 (by rfl) (by rfl))
            | ((with_reducible show @Eq (Option Value) _ _); exact Own.cell ‹Own _ _ _ _› 1 (by rfl) (by rfl))
            | ((with_reducible show Exists _); refine ⟨_, Own.old ‹Own _ _ _ _› (by assumption) id, ?_⟩)
            | ((with_reducible show Exists _); refine ⟨_, _, _, Own.old ‹Own _ _ _ _› (by assumption) id, ?_⟩)
            | ((with_reducible show And _ _); refine ⟨Own.old ‹Own _ _ _ _› (by assumption) id, ?_⟩)
            | ((with_reducible show Exists _); refine ⟨_, Own.old ‹Own _ _ _ _› (by assumption) (by assumption), ?_⟩)
            | ((with_reducible show Exists _); refine ⟨_, _, _, Own.old ‹Own _ _ _ _› (by assumption) (by assumption), ?_⟩)
            | ((with_reducible show And _ _); refine ⟨Own.old ‹Own _ _ _ _› (by assumption) (by assumption), ?_⟩)
            | fail
          exact ⟨by rw [hc']; rfl, by rw [hc']; rfl, ‹Lcl _ _ _›⟩
        · have hc' : noneB (taken a) = true := by simpa using hc
          exact ⟨by rw [hc']; rfl, by rw [hc']; rfl, ‹Lcl _ _ _›⟩
      · rintro h4 _ le mo ⟨rfl, rfl, hL4⟩
        clear hL3 hcell hcell'
        generalize hle : (if noneB (taken a) then n0 else (taken a).lo) = le
        generalize hmo : (if noneB (taken a) then n0 else (taken a).hi) = mo
        refine ⟨fun n hh x y i => ∃ k : Nat, i = k ∧ k ≤ l ∧ n = l - k ∧ x = minF le ((n0 :: nr).take k) ∧ y = maxF mo ((n0 :: nr).take k) ∧
          Lcl h hh [(b3, #[.int .i64 0, .int .i64 0, .int .i64 0, .int .i64 0], 39), (b1, #[.int .i64 (taken a).c, .int .i64 (sumF (taken a).s ((n0 :: nr).take k)), .int .i64 (taken a).lo, .int .i64 (taken a).hi], 39)],
          ⟨_, 0, rfl, by omega, rfl, rfl, rfl, hL4⟩, ?_⟩
        rintro n hh _ x y i ⟨k, rfl, hk, rfl, rfl, rfl, hL5⟩
        clear hL4
        refine cond_split (fun hc => ?_) (fun hc => ?_)
        · have hkl : k < l := by simpa using hc
          refine hs.int hL5.ext hl (by omega) (by omega) fun ad n hn hcell => ?_
          refine ⟨_, hcell, ?_⟩
          repeat' first
            | ((with_reducible show VNew _ _ _); refine Own.vnew ‹Own _ _ _ _› fun _ _ _ _ => ?_)
            | ((with_reducible show VSome _ _); refine VSome.mk ?_)
            | ((with_reducible show Exists _); refine ⟨_, Own.cell ‹Own _ _ _ _› 0 (by rfl) (by rfl), ?_⟩)
            | ((with_reducible show Exists _); refine ⟨_, Own.cell ‹Own _ _ _ _› 1 (by rfl) (by rfl), ?_⟩)
            | ((with_reducible show storeL _ _ _ _ _); refine Own.vstoreAll ‹Own _ _ _ _› 0 (by rfl) (by rfl) (by rfl) fun _ _ => ?_)
            | ((with_reducible show storeL _ _ _ _ _); refine Own.vstoreAll ‹Own _ _ _ _› 1 (by rfl) (by rfl) (by rfl) fun _ _ => ?_)
            | ((with_reducible show VStore _ _ _ _); refine Own.vstore ‹Own _ _ _ _› 0 (by rfl) (by simp) fun _ _ => ?_)
            | ((with_reducible show VStore _ _ _ _); refine Own.vstore ‹Own _ _ _ _› 1 (by rfl) (by simp) fun _ _ => ?_)
            | ((with_reducible show And _ _); refine ⟨Own.cell ‹Own _ _ _ _› 0 (by rfl) (by rfl), ?_⟩)
            | ((with_reducible show And _ _); refine ⟨Own.cell ‹Own _ _ _ _› 1 (by rfl) (by rfl), ?_⟩)
            | ((with_reducible show Exists _); refine ⟨_, _, _, Own.cell ‹Own _ _ _ _› 0 (by rfl) (by rfl), ?_⟩)
            | ((with_reducible show Exists _); refine ⟨_, _, _, Own.cell ‹Own _ _ _ _› 1 (by rfl) (by rfl), ?_⟩)
            | ((with_reducible show And _ _); refine And.intro (And.intro (Own.cell ‹Own _ _ _ _› 0 (by rfl) (by rfl)) ?_) ?_)
            | ((with_reducible show And _ _); refine And.intro (And.intro (Own.cell ‹Own _ _ _ _› 1 (by rfl) (by rfl)) ?_) ?_)
            | ((with_reducible show @Eq (Option Value) _ _); exact Own.cell ‹Own _ _ _ _› 0 (by rfl) (by rfl))
            | ((with_reducible show @Eq (Option Value) _ _); exact Own.cell ‹Own _ _ _ _› 1 (by rfl) (by rfl))
            | ((with_reducible show Exists _); refine ⟨_, Own.old ‹Own _ _ _ _› (by assumption) id, ?_⟩)
            | ((with_reducible show Exists _); refine ⟨_, _, _, Own.old ‹Own _ _ _ _› (by assumption) id, ?_⟩)
            | ((with_reducible show And _ _); refine ⟨Own.old ‹Own _ _ _ _› (by assumption) id, ?_⟩)
            | ((with_reducible show Exists _); refine ⟨_, Own.old ‹Own _ _ _ _› (by assumption) (by assumption), ?_⟩)
            | ((with_reducible show Exists _); refine ⟨_, _, _, Own.old ‹Own _ _ _ _› (by assumption) (by assumption), ?_⟩)
            | ((with_reducible show And _ _); refine ⟨Own.old ‹Own _ _ _ _› (by assumption) (by assumption), ?_⟩)
            | fail
          simp only [Int.toNat_natCast] at hn
          refine ⟨_, ?_, k + 1, wrap_nat hkl (by omega), hkl, rfl, ?_, ?_, ?_⟩
          · omega
          · exact (foldl_take _ _ hn).symm
          · exact (foldl_take _ _ hn).symm
          · have e : sumF (taken a).s ((n0 :: nr).take (k + 1)) = w64 (sumF (taken a).s ((n0 :: nr).take k) + n) := foldl_take _ _ hn
            rw [e]
            exact ‹Lcl _ _ _›
        · have hkl : k = l := by
            have : ¬ k < l := by simpa using hc
            omega
          subst hkl
          have ht : (n0 :: nr).take k = n0 :: nr := List.take_of_length_le (by omega)
          rw [ht] at hL5 ⊢
          repeat' first
            | ((with_reducible show VNew _ _ _); refine Own.vnew ‹Own _ _ _ _› fun _ _ _ _ => ?_)
            | ((with_reducible show VSome _ _); refine VSome.mk ?_)
            | ((with_reducible show Exists _); refine ⟨_, Own.cell ‹Own _ _ _ _› 0 (by rfl) (by rfl), ?_⟩)
            | ((with_reducible show Exists _); refine ⟨_, Own.cell ‹Own _ _ _ _› 1 (by rfl) (by rfl), ?_⟩)
            | ((with_reducible show storeL _ _ _ _ _); refine Own.vstoreAll ‹Own _ _ _ _› 0 (by rfl) (by rfl) (by rfl) fun _ _ => ?_)
            | ((with_reducible show storeL _ _ _ _ _); refine Own.vstoreAll ‹Own _ _ _ _› 1 (by rfl) (by rfl) (by rfl) fun _ _ => ?_)
            | ((with_reducible show VStore _ _ _ _); refine Own.vstore ‹Own _ _ _ _› 0 (by rfl) (by simp) fun _ _ => ?_)
            | ((with_reducible show VStore _ _ _ _); refine Own.vstore ‹Own _ _ _ _› 1 (by rfl) (by simp) fun _ _ => ?_)
            | ((with_reducible show And _ _); refine ⟨Own.cell ‹Own _ _ _ _› 0 (by rfl) (by rfl), ?_⟩)
            | ((with_reducible show And _ _); refine ⟨Own.cell ‹Own _ _ _ _› 1 (by rfl) (by rfl), ?_⟩)
            | ((with_reducible show Exists _); refine ⟨_, _, _, Own.cell ‹Own _ _ _ _› 0 (by rfl) (by rfl), ?_⟩)
            | ((with_reducible show Exists _); refine ⟨_, _, _, Own.cell ‹Own _ _ _ _› 1 (by rfl) (by rfl), ?_⟩)
            | ((with_reducible show And _ _); refine And.intro (And.intro (Own.cell ‹Own _ _ _ _› 0 (by rfl) (by rfl)) ?_) ?_)
            | ((with_reducible show And _ _); refine And.intro (And.intro (Own.cell ‹Own _ _ _ _› 1 (by rfl) (by rfl)) ?_) ?_)
            | ((with_reducible show @Eq (Option Value) _ _); exact Own.cell ‹Own _ _ _ _› 0 (by rfl) (by rfl))
            | ((with_reducible show @Eq (Option Value) _ _); exact Own.cell ‹Own _ _ _ _› 1 (by rfl) (by rfl))
            | ((with_reducible show Exists _); refine ⟨_, Own.old ‹Own _ _ _ _› (by assumption) id, ?_⟩)
            | ((with_reducible show Exists _); refine ⟨_, _, _, Own.old ‹Own _ _ _ _› (by assumption) id, ?_⟩)
            | ((with_reducible show And _ _); refine ⟨Own.old ‹Own _ _ _ _› (by assumption) id, ?_⟩)
            | ((with_reducible show Exists _); refine ⟨_, Own.old ‹Own _ _ _ _› (by assumption) (by assumption), ?_⟩)
            | ((with_reducible show Exists _); refine ⟨_, _, _, Own.old ‹Own _ _ _ _› (by assumption) (by assumption), ?_⟩)
            | ((with_reducible show And _ _); refine ⟨Own.old ‹Own _ _ _ _› (by assumption) (by assumption), ?_⟩)
            | fail
          refine ⟨?_, (‹Lcl _ _ _›).ext⟩
          subst hle hmo
          simp only [addS, Acc.v, hl]
          rfl
end Go.Proofs.Ytcncagllbkohfaa.F
