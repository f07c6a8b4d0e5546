/- Package agg: Add, Join, Get, as plain functions, and that the code answers them. Conditions: none. -/
import Derived.Test.YtcncagllbkohfaaG
import Derived.Test.YtcncagllbkohfaaM5
namespace Go.Proofs.Ytcncagllbkohfaa.F
open Go Go.VC Go.Proofs
set_option linter.unusedSimpArgs false
set_option linter.unusedVariables false
set_option maxRecDepth 100000
attribute [local irreducible] CallsH RunsTo

structure Acc where
  c : Int
  s : Int
  lo : Int
  hi : Int
  deriving DecidableEq
def Acc.v (a : Acc) : Value := .agg #[.int .i64 a.c, .int .i64 a.s, .int .i64 a.lo, .int .i64 a.hi]
def Acc.z : Acc := ⟨0, 0, 0, 0⟩
def w64 (n : Int) : Int := IntKind.i64.wrap n
def noneB (a : Acc) : Bool := decide (a.c < 1)
def sumF (s : Int) (ns : List Int) : Int := ns.foldl (fun s n => w64 (s + n)) s
def minF (m : Int) (ns : List Int) : Int := ns.foldl minI m
def maxF (m : Int) (ns : List Int) : Int := ns.foldl maxI m
def taken (a : Acc) : Acc := if noneB a then Acc.z else a
def addS (a : Acc) (ns : List Int) : Acc :=
  match ns with
  | [] => taken a
  | n0 :: _ => ⟨w64 ((taken a).c + ns.length), sumF (taken a).s ns, minF (if noneB (taken a) then n0 else (taken a).lo) ns, maxF (if noneB (taken a) then n0 else (taken a).hi) ns⟩
def joinS (a b : Acc) : Acc :=
  if noneB a then (if noneB b then Acc.z else b) else if noneB b then a else ⟨w64 (a.c + b.c), w64 (a.s + b.s), minI a.lo b.lo, maxI a.hi b.hi⟩
def getS (a : Acc) (fn : Int) : Int × Bool :=
  if fn = 1 then ((taken a).c, true) else if fn = 2 then ((taken a).s, true) else if fn = 3 then ((taken a).lo, !noneB (taken a)) else if fn = 4 then ((taken a).hi, !noneB (taken a)) else (0, false)

theorem none_spec (a : Acc) (h : Heap) : CallsH Try.prog 27 #[a.v] h (fun v h' => v = .bool (noneB a) ∧ Ext h h') := by
  refine vf27 _ _ _ _ h _ ?_
  unfold F27
  have hL := Lcl.start h
  repeat' first
    | ((with_reducible show VNew _ _ _); refine Own.vnew ‹Own _ _ _ _› fun _ _ _ _ => ?_)
    | ((with_reducible show VSome _ _); refine VSome.mk ?_)
    | ((with_reducible show Exists _); refine ⟨_, Own.cell ‹Own _ _ _ _› 0 (by rfl) (by rfl), ?_⟩)
    | ((with_reducible show storeL _ _ _ _ _); refine Own.vstoreAll ‹Own _ _ _ _› 0 (by rfl) (by rfl) (by rfl) fun _ _ => ?_)
    | ((with_reducible show VStore _ _ _ _); refine Own.vstore ‹Own _ _ _ _› 0 (by rfl) (by simp) fun _ _ => ?_)
    | ((with_reducible show And _ _); refine ⟨Own.cell ‹Own _ _ _ _› 0 (by rfl) (by rfl), ?_⟩)
    | ((with_reducible show Exists _); refine ⟨_, _, _, Own.cell ‹Own _ _ _ _› 0 (by rfl) (by rfl), ?_⟩)
    | ((with_reducible show And _ _); refine And.intro (And.intro (Own.cell ‹Own _ _ _ _› 0 (by rfl) (by rfl)) ?_) ?_)
    | ((with_reducible show @Eq (Option Value) _ _); exact Own.cell ‹Own _ _ _ _› 0 (by rfl) (by rfl))
    | ((with_reducible show Exists _); refine ⟨_, Own.old ‹Own _ _ _ _› (by assumption) id, ?_⟩)
    | ((with_reducible show Exists _); refine ⟨_, _, _, Own.old ‹Own _ _ _ _› (by assumption) id, ?_⟩)
    | ((with_reducible show And _ _); refine ⟨Own.old ‹Own _ _ _ _› (by assumption) id, ?_⟩)
    | ((with_reducible show Exists _); refine ⟨_, Own.old ‹Own _ _ _ _› (by assumption) (by assumption), ?_⟩)
    | ((with_reducible show Exists _); refine ⟨_, _, _, Own.old ‹Own _ _ _ _› (by assumption) (by assumption), ?_⟩)
    | ((with_reducible show And _ _); refine ⟨Own.old ‹Own _ _ _ _› (by assumption) (by assumption), ?_⟩)
    | fail
  exact ⟨rfl, (‹Lcl _ _ _›).ext⟩
theorem get_spec (a : Acc) (fn : Int) (h : Heap) : CallsH Try.prog 13 #[a.v, .int .i64 fn] h (fun v h' => v = .tuple #[.int .i64 (getS a fn).1, .bool (getS a fn).2] ∧ Ext h h') := by
  refine vf13 _ _ _ _ _ h _ ?_
  unfold F13
  have hL := Lcl.start h
  refine hL.vnew fun b h1 _ hL1 => ?_
  refine ⟨fun h' => Lcl h h' [(b, #[.int .i64 (taken a).c, .int .i64 (taken a).s, .int .i64 (taken a).lo, .int .i64 (taken a).hi], 39)], ?_, ?_⟩
  · repeat' first
      | ((with_reducible show VNew _ _ _); refine Own.vnew ‹Own _ _ _ _› fun _ _ _ _ => ?_)
      | ((with_reducible show VSome _ _); refine VSome.mk ?_)
      | ((with_reducible show Exists _); refine ⟨_, Own.cell ‹Own _ _ _ _› 0 (by rfl) (by rfl), ?_⟩)
      | ((with_reducible show storeL _ _ _ _ _); refine Own.vstoreAll ‹Own _ _ _ _› 0 (by rfl) (by rfl) (by rfl) fun _ _ => ?_)
      | ((with_reducible show VStore _ _ _ _); refine Own.vstore ‹Own _ _ _ _› 0 (by rfl) (by simp) fun _ _ => ?_)
      | ((with_reducible show And _ _); refine ⟨Own.cell ‹Own _ _ _ _› 0 (by rfl) (by rfl), ?_⟩)
      | ((with_reducible show Exists _); refine ⟨_, _, _, Own.cell ‹Own _ _ _ _› 0 (by rfl) (by rfl), ?_⟩)
      | ((with_reducible show And _ _); refine And.intro (And.intro (Own.cell ‹Own _ _ _ _› 0 (by rfl) (by rfl)) ?_) ?_)
      | ((with_reducible show @Eq (Option Value) _ _); exact Own.cell ‹Own _ _ _ _› 0 (by rfl) (by rfl))
      | ((with_reducible show Exists _); refine ⟨_, Own.old ‹Own _ _ _ _› (by assumption) id, ?_⟩)
      | ((with_reducible show Exists _); refine ⟨_, _, _, Own.old ‹Own _ _ _ _› (by assumption) id, ?_⟩)
      | ((with_reducible show And _ _); refine ⟨Own.old ‹Own _ _ _ _› (by assumption) id, ?_⟩)
      | ((with_reducible show Exists _); refine ⟨_, Own.old ‹Own _ _ _ _› (by assumption) (by assumption), ?_⟩)
      | ((with_reducible show Exists _); refine ⟨_, _, _, Own.old ‹Own _ _ _ _› (by assumption) (by assumption), ?_⟩)
      | ((with_reducible show And _ _); refine ⟨Own.old ‹Own _ _ _ _› (by assumption) (by assumption), ?_⟩)
      | ((with_reducible show CallsH _ _ _ _ _); refine CallsH.mono (none_spec ⟨_, _, _, _⟩ _) ?_; rintro _ _ ⟨rfl, hm⟩; (first | refine ⟨rfl, ?_⟩ | refine ⟨_, rfl, ?_⟩ | refine ⟨_, _, rfl, ?_⟩ | refine ⟨_, _, _, _, rfl, ?_⟩ | refine ⟨_, _, _, _, _, rfl, ?_⟩ | refine ⟨_, _, _, _, _, _, rfl, ?_⟩); have hnx := Own.next ‹Own _ _ _ _› hm; clear hm)
      | fail
    refine cond_split (fun hc => ?_) (fun hc => ?_)
    · have e : taken a = Acc.z := by simp only [taken]; rw [show noneB a = true from hc]; rfl
      rw [e]
      repeat' first
        | ((with_reducible show VNew _ _ _); refine Own.vnew ‹Own _ _ _ _› fun _ _ _ _ => ?_)
        | ((with_reducible show VSome _ _); refine VSome.mk ?_)
        | ((with_reducible show Exists _); refine ⟨_, Own.cell ‹Own _ _ _ _› 0 (by rfl) (by rfl), ?_⟩)
        | ((with_reducible show storeL _ _ _ _ _); refine Own.vstoreAll ‹Own _ _ _ _› 0 (by rfl) (by rfl) (by rfl) fun _ _ => ?_)
        | ((with_reducible show VStore _ _ _ _); refine Own.vstore ‹Own _ _ _ _› 0 (by rfl) (by simp) fun _ _ => ?_)
        | ((with_reducible show And _ _); refine ⟨Own.cell ‹Own _ _ _ _› 0 (by rfl) (by rfl), ?_⟩)
        | ((with_reducible show Exists _); refine ⟨_, _, _, Own.cell ‹Own _ _ _ _› 0 (by rfl) (by rfl), ?_⟩)
        | ((with_reducible show And _ _); refine And.intro (And.intro (Own.cell ‹Own _ _ _ _› 0 (by rfl) (by rfl)) ?_) ?_)
        | ((with_reducible show @Eq (Option Value) _ _); exact Own.cell ‹Own _ _ _ _› 0 (by rfl) (by rfl))
        | ((with_reducible show Exists _); refine ⟨_, Own.old ‹Own _ _ _ _› (by assumption) id, ?_⟩)
        | ((with_reducible show Exists _); refine ⟨_, _, _, Own.old ‹Own _ _ _ _› (by assumption) id, ?_⟩)
        | ((with_reducible show And _ _); refine ⟨Own.old ‹Own _ _ _ _› (by assumption) id, ?_⟩)
        | ((with_reducible show Exists _); refine ⟨_, Own.old ‹Own _ _ _ _› (by assumption) (by assumption), ?_⟩)
        | ((with_reducible show Exists _); refine ⟨_, _, _, Own.old ‹Own _ _ _ _› (by assumption) (by assumption), ?_⟩)
        | ((with_reducible show And _ _); refine ⟨Own.old ‹Own _ _ _ _› (by assumption) (by assumption), ?_⟩)
        | fail
      exact ‹Lcl _ _ _›
    · have e : taken a = a := by simp only [taken]; rw [show noneB a = false from hc]; rfl
      rw [e]
      exact ‹Lcl _ _ _›
  · intro h2 _ hL2
    clear hL1 hL
    unfold getS
    refine cond_split (fun hc => ?_) (fun hc => ?_)
    · repeat' first
        | ((with_reducible show VNew _ _ _); refine Own.vnew ‹Own _ _ _ _› fun _ _ _ _ => ?_)
        | ((with_reducible show VSome _ _); refine VSome.mk ?_)
        | ((with_reducible show Exists _); refine ⟨_, Own.cell ‹Own _ _ _ _› 0 (by rfl) (by rfl), ?_⟩)
        | ((with_reducible show storeL _ _ _ _ _); refine Own.vstoreAll ‹Own _ _ _ _› 0 (by rfl) (by rfl) (by rfl) fun _ _ => ?_)
        | ((with_reducible show VStore _ _ _ _); refine Own.vstore ‹Own _ _ _ _› 0 (by rfl) (by simp) fun _ _ => ?_)
        | ((with_reducible show And _ _); refine ⟨Own.cell ‹Own _ _ _ _› 0 (by rfl) (by rfl), ?_⟩)
        | ((with_reducible show Exists _); refine ⟨_, _, _, Own.cell ‹Own _ _ _ _› 0 (by rfl) (by rfl), ?_⟩)
        | ((with_reducible show And _ _); refine And.intro (And.intro (Own.cell ‹Own _ _ _ _› 0 (by rfl) (by rfl)) ?_) ?_)
        | ((with_reducible show @Eq (Option Value) _ _); exact Own.cell ‹Own _ _ _ _› 0 (by rfl) (by rfl))
        | ((with_reducible show Exists _); refine ⟨_, Own.old ‹Own _ _ _ _› (by assumption) id, ?_⟩)
        | ((with_reducible show Exists _); refine ⟨_, _, _, Own.old ‹Own _ _ _ _› (by assumption) id, ?_⟩)
        | ((with_reducible show And _ _); refine ⟨Own.old ‹Own _ _ _ _› (by assumption) id, ?_⟩)
        | ((with_reducible show Exists _); refine ⟨_, Own.old ‹Own _ _ _ _› (by assumption) (by assumption), ?_⟩)
        | ((with_reducible show Exists _); refine ⟨_, _, _, Own.old ‹Own _ _ _ _› (by assumption) (by assumption), ?_⟩)
        | ((with_reducible show And _ _); refine ⟨Own.old ‹Own _ _ _ _› (by assumption) (by assumption), ?_⟩)
        | fail
      exact ⟨by rw [if_pos (by simpa using hc)], (‹Lcl _ _ _›).ext⟩
    rw [if_neg (by simpa using hc)]
    refine cond_split (fun hc => ?_) (fun hc => ?_)
    · repeat' first
        | ((with_reducible show VNew _ _ _); refine Own.vnew ‹Own _ _ _ _› fun _ _ _ _ => ?_)
        | ((with_reducible show VSome _ _); refine VSome.mk ?_)
        | ((with_reducible show Exists _); refine ⟨_, Own.cell ‹Own _ _ _ _› 0 (by rfl) (by rfl), ?_⟩)
        | ((with_reducible show storeL _ _ _ _ _); refine Own.vstoreAll ‹Own _ _ _ _› 0 (by rfl) (by rfl) (by rfl) fun _ _ => ?_)
        | ((with_reducible show VStore _ _ _ _); refine Own.vstore ‹Own _ _ _ _› 0 (by rfl) (by simp) fun _ _ => ?_)
        | ((with_reducible show And _ _); refine ⟨Own.cell ‹Own _ _ _ _› 0 (by rfl) (by rfl), ?_⟩)
        | ((with_reducible show Exists _); refine ⟨_, _, _, Own.cell ‹Own _ _ _ _› 0 (by rfl) (by rfl), ?_⟩)
        | ((with_reducible show And _ _); refine And.intro (And.intro (Own.cell ‹Own _ _ _ _› 0 (by rfl) (by rfl)) ?_) ?_)
        | ((with_reducible show @Eq (Option Value) _ _); exact Own.cell ‹Own _ _ _ _› 0 (by rfl) (by rfl))
        | ((with_reducible show Exists _); refine ⟨_, Own.old ‹Own _ _ _ _› (by assumption) id, ?_⟩)
        | ((with_reducible show Exists _); refine ⟨_, _, _, Own.old ‹Own _ _ _ _› (by assumption) id, ?_⟩)
        | ((with_reducible show And _ _); refine ⟨Own.old ‹Own _ _ _ _› (by assumption) id, ?_⟩)
        | ((with_reducible show Exists _); refine ⟨_, Own.old ‹Own _ _ _ _› (by assumption) (by assumption), ?_⟩)
        | ((with_reducible show Exists _); refine ⟨_, _, _, Own.old ‹Own _ _ _ _› (by assumption) (by assumption), ?_⟩)
        | ((with_reducible show And _ _); refine ⟨Own.old ‹Own _ _ _ _› (by assumption) (by assumption), ?_⟩)
        | fail
      exact ⟨by rw [if_pos (by simpa using hc)], (‹Lcl _ _ _›).ext⟩
    rw [if_neg (by simpa using hc)]
    refine cond_split (fun hc => ?_) (fun hc => ?_)
    · repeat' first
        | ((with_reducible show VNew _ _ _); refine Own.vnew ‹Own _ _ _ _› fun _ _ _ _ => ?_)
        | ((with_reducible show VSome _ _); refine VSome.mk ?_)
        | ((with_reducible show Exists _); refine ⟨_, Own.cell ‹Own _ _ _ _› 0 (by rfl) (by rfl), ?_⟩)
        | ((with_reducible show storeL _ _ _ _ _); refine Own.vstoreAll ‹Own _ _ _ _› 0 (by rfl) (by rfl) (by rfl) fun _ _ => ?_)
        | ((with_reducible show VStore _ _ _ _); refine Own.vstore ‹Own _ _ _ _› 0 (by rfl) (by simp) fun _ _ => ?_)
        | ((with_reducible show And _ _); refine ⟨Own.cell ‹Own _ _ _ _› 0 (by rfl) (by rfl), ?_⟩)
        | ((with_reducible show Exists _); refine ⟨_, _, _, Own.cell ‹Own _ _ _ _› 0 (by rfl) (by rfl), ?_⟩)
        | ((with_reducible show And _ _); refine And.intro (And.intro (Own.cell ‹Own _ _ _ _› 0 (by rfl) (by rfl)) ?_) ?_)
        | ((with_reducible show @Eq (Option Value) _ _); exact Own.cell ‹Own _ _ _ _› 0 (by rfl) (by rfl))
        | ((with_reducible show Exists _); refine ⟨_, Own.old ‹Own _ _ _ _› (by assumption) id, ?_⟩)
        | ((with_reducible show Exists _); refine ⟨_, _, _, Own.old ‹Own _ _ _ _› (by assumption) id, ?_⟩)
        | ((with_reducible show And _ _); refine ⟨Own.old ‹Own _ _ _ _› (by assumption) id, ?_⟩)
        | ((with_reducible show Exists _); refine ⟨_, Own.old ‹Own _ _ _ _› (by assumption) (by assumption), ?_⟩)
        | ((with_reducible show Exists _); refine ⟨_, _, _, Own.old ‹Own _ _ _ _› (by assumption) (by assumption), ?_⟩)
        | ((with_reducible show And _ _); refine ⟨Own.old ‹Own _ _ _ _› (by assumption) (by assumption), ?_⟩)
        | ((with_reducible show CallsH _ _ _ _ _); refine CallsH.mono (none_spec (taken a) _) ?_; rintro _ _ ⟨rfl, hm⟩; (first | refine ⟨rfl, ?_⟩ | refine ⟨_, rfl, ?_⟩ | refine ⟨_, _, rfl, ?_⟩ | refine ⟨_, _, _, _, rfl, ?_⟩ | refine ⟨_, _, _, _, _, rfl, ?_⟩ | refine ⟨_, _, _, _, _, _, rfl, ?_⟩); have hnx := Own.next ‹Own _ _ _ _› hm; clear hm)
        | fail
      exact ⟨by rw [if_pos (by simpa using hc)], (‹Lcl _ _ _›).ext⟩
    rw [if_neg (by simpa using hc)]
    refine cond_split (fun hc => ?_) (fun hc => ?_)
    · repeat' first
        | ((with_reducible show VNew _ _ _); refine Own.vnew ‹Own _ _ _ _› fun _ _ _ _ => ?_)
        | ((with_reducible show VSome _ _); refine VSome.mk ?_)
        | ((with_reducible show Exists _); refine ⟨_, Own.cell ‹Own _ _ _ _› 0 (by rfl) (by rfl), ?_⟩)
        | ((with_reducible show storeL _ _ _ _ _); refine Own.vstoreAll ‹Own _ _ _ _› 0 (by rfl) (by rfl) (by rfl) fun _ _ => ?_)
        | ((with_reducible show VStore _ _ _ _); refine Own.vstore ‹Own _ _ _ _› 0 (by rfl) (by simp) fun _ _ => ?_)
        | ((with_reducible show And _ _); refine ⟨Own.cell ‹Own _ _ _ _› 0 (by rfl) (by rfl), ?_⟩)
        | ((with_reducible show Exists _); refine ⟨_, _, _, Own.cell ‹Own _ _ _ _› 0 (by rfl) (by rfl), ?_⟩)
        | ((with_reducible show And _ _); refine And.intro (And.intro (Own.cell ‹Own _ _ _ _› 0 (by rfl) (by rfl)) ?_) ?_)
        | ((with_reducible show @Eq (Option Value) _ _); exact Own.cell ‹Own _ _ _ _› 0 (by rfl) (by rfl))
        | ((with_reducible show Exists _); refine ⟨_, Own.old ‹Own _ _ _ _› (by assumption) id, ?_⟩)
        | ((with_reducible show Exists _); refine ⟨_, _, _, Own.old ‹Own _ _ _ _› (by assumption) id, ?_⟩)
        | ((with_reducible show And _ _); refine ⟨Own.old ‹Own _ _ _ _› (by assumption) id, ?_⟩)
        | ((with_reducible show Exists _); refine ⟨_, Own.old ‹Own _ _ _ _› (by assumption) (by assumption), ?_⟩)
        | ((with_reducible show Exists _); refine ⟨_, _, _, Own.old ‹Own _ _ _ _› (by assumption) (by assumption), ?_⟩)
        | ((with_reducible show And _ _); refine ⟨Own.old ‹Own _ _ _ _› (by assumption) (by assumption), ?_⟩)
        | ((with_reducible show CallsH _ _ _ _ _); refine CallsH.mono (none_spec (taken a) _) ?_; rintro _ _ ⟨rfl, hm⟩; (first | refine ⟨rfl, ?_⟩ | refine ⟨_, rfl, ?_⟩ | refine ⟨_, _, rfl, ?_⟩ | refine ⟨_, _, _, _, rfl, ?_⟩ | refine ⟨_, _, _, _, _, rfl, ?_⟩ | refine ⟨_, _, _, _, _, _, rfl, ?_⟩); have hnx := Own.next ‹Own _ _ _ _› hm; clear hm)
        | fail
      exact ⟨by rw [if_pos (by simpa using hc)], (‹Lcl _ _ _›).ext⟩
    rw [if_neg (by simpa using hc)]
    exact ⟨rfl, (‹Lcl _ _ _›).ext⟩
end Go.Proofs.Ytcncagllbkohfaa.F
