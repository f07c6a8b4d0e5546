/- One call of the law AggAll: it answers true. Conditions: none. -/
import Derived.Test.YtcncagllbkohfaaC5
namespace Go.Proofs.Ytcncagllbkohfaa.F
open Go Go.VC Go.Proofs
set_option linter.unusedSimpArgs false
set_option linter.unusedVariables false
set_option maxRecDepth 100000
attribute [local irreducible] CallsH RunsTo PureTo IntKind.wrap

theorem Sl.pre {h : Heap} {a : Option Addr} {xs ys : List Int} (k : Sl h a (ints (xs ++ ys))) : Sl h a (ints xs) := fun j v hj => k j v (by
  have hlt := (List.getElem?_eq_some_iff.1 hj).1
  unfold ints at *
  rw [List.map_append, List.getElem?_append_left hlt]; exact hj)
theorem HP.ofLcl {TH TR : Nat → Prop} {h hh : Heap} {L : List (Nat × Array Value × Nat)} {hb : Nat} {vs : List Value} {a p q : Option Addr} {c : Nat} {sz : Int} {held : List Int} (o : Lcl h hh L) (kH : HD h hb vs TH a c) (kR : RS h p q sz held TR) (d : ∀ z, TH z → ¬ TR z) :
    HP TH TR h hh L hb vs TH a c p q sz held :=
  ⟨⟨o.ext.mono fun _ h => h.elim, o.blk, fun x hx => .inr ((o.new x hx).resolve_left id), o.once⟩, kH.mod o.ext fun _ _ => id, kR.mod o.ext fun _ _ => id, fun _ => .inl, d, fun x hx => by
    have := (o.new x hx).resolve_left id
    exact ⟨fun e => by have := kH.lt _ e; omega, fun e => by have := kR.1 _ e; omega⟩⟩
theorem plays_spec {h0 h : Heap} (hx : Ext h0 h) {hb : Nat} {vs : List Value} {TH : Nat → Prop} {a : Option Addr} {c : Nat} (kH : HD h hb vs TH a c) {p q : Option Addr} {sz : Int} {held : List Int} {TR : Nat → Prop} (kR : RS h p q sz held TR)
    (dHR : ∀ z, TH z → ¬ TR z) (hnew : ∀ z, TH z ∨ TR z → h0.size ≤ z) (kind which fn : Int) (A B : Acc) (po : Option Addr) (l cp : Nat) (ns : List Int) (hs : Sl h0 po (ints ns)) (hl : ns.length = l) (hbd : l < 17592186043905) :
    CallsH Try.prog 9 #[.pointer (some ⟨hb, 0, none⟩), .agg #[.pointer p, .pointer q], .agg #[.int .i64 kind, .int .i64 which, .int .i64 A.c, .int .i64 A.s, .int .i64 A.lo, .int .i64 A.hi, .int .i64 B.c, .int .i64 B.s, .int .i64 B.lo, .int .i64 B.hi, .slice po l cp, .int .i64 fn]] h
      fun v h' => v = .bool true ∧ After TH TR h hb p q sz h' := by
  refine vf9 _ _ _ _ _ _ _ _ _ _ _ _ _ _ _ _ _ h _ ?_
  unfold F9
  have hlt : ns ≠ [] → ∀ z, ob po = some z → z < h0.size := fun hne z hz => hs.lt (by unfold ints; simpa using hne) z hz
  have hsAt : ∀ {hh : Heap} {L : List (Nat × Array Value × Nat)}, Own (fun z => TH z ∨ TR z) h hh L → Sl hh po (ints ns) := fun o => Sl.mod2 hs (Mod.after hx o.ext) fun hne z hz e => by
    have := hlt hne z hz
    have := hnew z e
    omega
  have hpAt : ∀ T : Nat → Prop, (∀ z, T z → TH z ∨ h.size ≤ z) → ns ≠ [] → ∀ z, ob po = some z → ¬ T z := fun T hT hne z hz e => by
    have := hlt hne z hz
    have e0 := hx.size
    rcases hT z e with h1 | h1
    · have := hnew z (.inl h1); omega
    · omega
  have hL := Lcl.start h
  refine hL.vnew fun b1 h1 _ hL1 => hL1.vnew fun b3 h2 _ hL2 => ?_
  clear hL hL1
  have k : HP TH TR h h2 _ hb vs TH a c p q sz held := HP.ofLcl hL2 kH kR dHR
  have hO := hL2
  repeat' first
    | ((with_reducible show VSome _ _); refine VSome.mk ?_)
    | ((with_reducible show Exists _); refine ⟨_, Own.cell hO 0 (by rfl) (by rfl), ?_⟩)
    | ((with_reducible show Exists _); refine ⟨_, Own.cell hO 1 (by rfl) (by rfl), ?_⟩)
    | ((with_reducible show And _ _); refine ⟨Own.cell hO 0 (by rfl) (by rfl), ?_⟩)
    | ((with_reducible show And _ _); refine ⟨Own.cell hO 1 (by rfl) (by rfl), ?_⟩)
    | ((with_reducible show Exists _); refine ⟨_, _, _, Own.cell hO 0 (by rfl) (by rfl), ?_⟩)
    | ((with_reducible show Exists _); refine ⟨_, _, _, Own.cell hO 1 (by rfl) (by rfl), ?_⟩)
    | ((with_reducible show And _ _); refine And.intro (And.intro (Own.cell hO 0 (by rfl) (by rfl)) ?_) ?_)
    | ((with_reducible show And _ _); refine And.intro (And.intro (Own.cell hO 1 (by rfl) (by rfl)) ?_) ?_)
    | ((with_reducible show @Eq (Option Value) _ _); exact Own.cell hO 0 (by rfl) (by rfl))
    | ((with_reducible show @Eq (Option Value) _ _); exact Own.cell hO 1 (by rfl) (by rfl))
    | ((with_reducible show Exists _); refine ⟨_, Own.old hO (by assumption) id, ?_⟩)
    | ((with_reducible show Exists _); refine ⟨_, _, _, Own.old hO (by assumption) id, ?_⟩)
    | ((with_reducible show And _ _); refine ⟨Own.old hO (by assumption) id, ?_⟩)
    | ((with_reducible show Exists _); refine ⟨_, Own.old hO (by assumption) (by assumption), ?_⟩)
    | ((with_reducible show Exists _); refine ⟨_, _, _, Own.old hO (by assumption) (by assumption), ?_⟩)
    | ((with_reducible show And _ _); refine ⟨Own.old hO (by assumption) (by assumption), ?_⟩)
    | fail
  refine cond_split (fun hc => ?_) (fun hc => ?_)
  · -- Add
    repeat' first
      | ((with_reducible show VSome _ _); refine VSome.mk ?_)
      | ((with_reducible show Exists _); refine ⟨_, Own.cell hO 0 (by rfl) (by rfl), ?_⟩)
      | ((with_reducible show Exists _); refine ⟨_, Own.cell hO 1 (by rfl) (by rfl), ?_⟩)
      | ((with_reducible show And _ _); refine ⟨Own.cell hO 0 (by rfl) (by rfl), ?_⟩)
      | ((with_reducible show And _ _); refine ⟨Own.cell hO 1 (by rfl) (by rfl), ?_⟩)
      | ((with_reducible show Exists _); refine ⟨_, _, _, Own.cell hO 0 (by rfl) (by rfl), ?_⟩)
      | ((with_reducible show Exists _); refine ⟨_, _, _, Own.cell hO 1 (by rfl) (by rfl), ?_⟩)
      | ((with_reducible show And _ _); refine And.intro (And.intro (Own.cell hO 0 (by rfl) (by rfl)) ?_) ?_)
      | ((with_reducible show And _ _); refine And.intro (And.intro (Own.cell hO 1 (by rfl) (by rfl)) ?_) ?_)
      | ((with_reducible show @Eq (Option Value) _ _); exact Own.cell hO 0 (by rfl) (by rfl))
      | ((with_reducible show @Eq (Option Value) _ _); exact Own.cell hO 1 (by rfl) (by rfl))
      | ((with_reducible show Exists _); refine ⟨_, Own.old hO (by assumption) id, ?_⟩)
      | ((with_reducible show Exists _); refine ⟨_, _, _, Own.old hO (by assumption) id, ?_⟩)
      | ((with_reducible show And _ _); refine ⟨Own.old hO (by assumption) id, ?_⟩)
      | ((with_reducible show Exists _); refine ⟨_, Own.old hO (by assumption) (by assumption), ?_⟩)
      | ((with_reducible show Exists _); refine ⟨_, _, _, Own.old hO (by assumption) (by assumption), ?_⟩)
      | ((with_reducible show And _ _); refine ⟨Own.old hO (by assumption) (by assumption), ?_⟩)
      | fail
    clear hO
    refine ⟨?_, ?_⟩
    · refine CallsH.mono (list_spec k.hd (hsAt k.own) hl hbd (hpAt _ k.sub)) ?_
      rintro _ h3 ⟨a', m, rfl, hd3, m3⟩
      replace k := k.call hd3 m3
      refine ⟨_, _, _, rfl, ?_⟩
      have hO := k.own
      repeat' first
        | ((with_reducible show VSome _ _); refine VSome.mk ?_)
        | ((with_reducible show Exists _); refine ⟨_, Own.cell hO 0 (by rfl) (by rfl), ?_⟩)
        | ((with_reducible show Exists _); refine ⟨_, Own.cell hO 1 (by rfl) (by rfl), ?_⟩)
        | ((with_reducible show And _ _); refine ⟨Own.cell hO 0 (by rfl) (by rfl), ?_⟩)
        | ((with_reducible show And _ _); refine ⟨Own.cell hO 1 (by rfl) (by rfl), ?_⟩)
        | ((with_reducible show Exists _); refine ⟨_, _, _, Own.cell hO 0 (by rfl) (by rfl), ?_⟩)
        | ((with_reducible show Exists _); refine ⟨_, _, _, Own.cell hO 1 (by rfl) (by rfl), ?_⟩)
        | ((with_reducible show And _ _); refine And.intro (And.intro (Own.cell hO 0 (by rfl) (by rfl)) ?_) ?_)
        | ((with_reducible show And _ _); refine And.intro (And.intro (Own.cell hO 1 (by rfl) (by rfl)) ?_) ?_)
        | ((with_reducible show @Eq (Option Value) _ _); exact Own.cell hO 0 (by rfl) (by rfl))
        | ((with_reducible show @Eq (Option Value) _ _); exact Own.cell hO 1 (by rfl) (by rfl))
        | ((with_reducible show Exists _); refine ⟨_, Own.old hO (by assumption) id, ?_⟩)
        | ((with_reducible show Exists _); refine ⟨_, _, _, Own.old hO (by assumption) id, ?_⟩)
        | ((with_reducible show And _ _); refine ⟨Own.old hO (by assumption) id, ?_⟩)
        | ((with_reducible show Exists _); refine ⟨_, Own.old hO (by assumption) (by assumption), ?_⟩)
        | ((with_reducible show Exists _); refine ⟨_, _, _, Own.old hO (by assumption) (by assumption), ?_⟩)
        | ((with_reducible show And _ _); refine ⟨Own.old hO (by assumption) (by assumption), ?_⟩)
        | fail
      clear hO
      refine ⟨?_, ?_⟩
      · refine CallsH.mono (add_spec A ns a' l (l + m) _ (Sl.pre k.hd.vec.sl) hl (by omega)) ?_
        rintro _ h4 ⟨rfl, m4⟩
        replace k := k.next m4
        refine ⟨_, _, _, _, rfl, k.vnew fun b5 h5 k => k.store 0 rfl rfl rfl fun h6 k => ?_⟩
        have hO := k.own
        repeat' first
          | ((with_reducible show VSome _ _); refine VSome.mk ?_)
          | ((with_reducible show Exists _); refine ⟨_, Own.cell hO 0 (by rfl) (by rfl), ?_⟩)
          | ((with_reducible show Exists _); refine ⟨_, Own.cell hO 1 (by rfl) (by rfl), ?_⟩)
          | ((with_reducible show Exists _); refine ⟨_, Own.cell hO 2 (by rfl) (by rfl), ?_⟩)
          | ((with_reducible show And _ _); refine ⟨Own.cell hO 0 (by rfl) (by rfl), ?_⟩)
          | ((with_reducible show And _ _); refine ⟨Own.cell hO 1 (by rfl) (by rfl), ?_⟩)
          | ((with_reducible show And _ _); refine ⟨Own.cell hO 2 (by rfl) (by rfl), ?_⟩)
          | ((with_reducible show Exists _); refine ⟨_, _, _, Own.cell hO 0 (by rfl) (by rfl), ?_⟩)
          | ((with_reducible show Exists _); refine ⟨_, _, _, Own.cell hO 1 (by rfl) (by rfl), ?_⟩)
          | ((with_reducible show Exists _); refine ⟨_, _, _, Own.cell hO 2 (by rfl) (by rfl), ?_⟩)
          | ((with_reducible show And _ _); refine And.intro (And.intro (Own.cell hO 0 (by rfl) (by rfl)) ?_) ?_)
          | ((with_reducible show And _ _); refine And.intro (And.intro (Own.cell hO 1 (by rfl) (by rfl)) ?_) ?_)
          | ((with_reducible show And _ _); refine And.intro (And.intro (Own.cell hO 2 (by rfl) (by rfl)) ?_) ?_)
          | ((with_reducible show @Eq (Option Value) _ _); exact Own.cell hO 0 (by rfl) (by rfl))
          | ((with_reducible show @Eq (Option Value) _ _); exact Own.cell hO 1 (by rfl) (by rfl))
          | ((with_reducible show @Eq (Option Value) _ _); exact Own.cell hO 2 (by rfl) (by rfl))
          | ((with_reducible show Exists _); refine ⟨_, Own.old hO (by assumption) id, ?_⟩)
          | ((with_reducible show Exists _); refine ⟨_, _, _, Own.old hO (by assumption) id, ?_⟩)
          | ((with_reducible show And _ _); refine ⟨Own.old hO (by assumption) id, ?_⟩)
          | ((with_reducible show Exists _); refine ⟨_, Own.old hO (by assumption) (by assumption), ?_⟩)
          | ((with_reducible show Exists _); refine ⟨_, _, _, Own.old hO (by assumption) (by assumption), ?_⟩)
          | ((with_reducible show And _ _); refine ⟨Own.old hO (by assumption) (by assumption), ?_⟩)
          | fail
        refine CallsH.mono (kept_spec k.hd (hsAt k.own) hl hbd (hpAt _ k.sub)) ?_
        rintro _ h8 ⟨rfl, vs8, hd8, m8⟩
        replace k := k.same hd8 m8
        refine ⟨_, rfl, cond_true rfl ?_⟩
        clear hO
        have hO := k.own
        repeat' first
          | ((with_reducible show VSome _ _); refine VSome.mk ?_)
          | ((with_reducible show Exists _); refine ⟨_, Own.cell hO 0 (by rfl) (by rfl), ?_⟩)
          | ((with_reducible show Exists _); refine ⟨_, Own.cell hO 1 (by rfl) (by rfl), ?_⟩)
          | ((with_reducible show Exists _); refine ⟨_, Own.cell hO 2 (by rfl) (by rfl), ?_⟩)
          | ((with_reducible show And _ _); refine ⟨Own.cell hO 0 (by rfl) (by rfl), ?_⟩)
          | ((with_reducible show And _ _); refine ⟨Own.cell hO 1 (by rfl) (by rfl), ?_⟩)
          | ((with_reducible show And _ _); refine ⟨Own.cell hO 2 (by rfl) (by rfl), ?_⟩)
          | ((with_reducible show Exists _); refine ⟨_, _, _, Own.cell hO 0 (by rfl) (by rfl), ?_⟩)
          | ((with_reducible show Exists _); refine ⟨_, _, _, Own.cell hO 1 (by rfl) (by rfl), ?_⟩)
          | ((with_reducible show Exists _); refine ⟨_, _, _, Own.cell hO 2 (by rfl) (by rfl), ?_⟩)
          | ((with_reducible show And _ _); refine And.intro (And.intro (Own.cell hO 0 (by rfl) (by rfl)) ?_) ?_)
          | ((with_reducible show And _ _); refine And.intro (And.intro (Own.cell hO 1 (by rfl) (by rfl)) ?_) ?_)
          | ((with_reducible show And _ _); refine And.intro (And.intro (Own.cell hO 2 (by rfl) (by rfl)) ?_) ?_)
          | ((with_reducible show @Eq (Option Value) _ _); exact Own.cell hO 0 (by rfl) (by rfl))
          | ((with_reducible show @Eq (Option Value) _ _); exact Own.cell hO 1 (by rfl) (by rfl))
          | ((with_reducible show @Eq (Option Value) _ _); exact Own.cell hO 2 (by rfl) (by rfl))
          | ((with_reducible show Exists _); refine ⟨_, Own.old hO (by assumption) id, ?_⟩)
          | ((with_reducible show Exists _); refine ⟨_, _, _, Own.old hO (by assumption) id, ?_⟩)
          | ((with_reducible show And _ _); refine ⟨Own.old hO (by assumption) id, ?_⟩)
          | ((with_reducible show Exists _); refine ⟨_, Own.old hO (by assumption) (by assumption), ?_⟩)
          | ((with_reducible show Exists _); refine ⟨_, _, _, Own.old hO (by assumption) (by assumption), ?_⟩)
          | ((with_reducible show And _ _); refine ⟨Own.old hO (by assumption) (by assumption), ?_⟩)
          | fail
        refine CallsH.mono (radd_spec A ns po l cp _ (hsAt k.own) hl (by omega)) ?_
        rintro _ h9 ⟨rfl, m9⟩
        replace k := k.next m9
        clear hO
        have hO := k.own
        refine ⟨_, _, _, _, rfl, ?_⟩
        repeat' first
          | ((with_reducible show VSome _ _); refine VSome.mk ?_)
          | ((with_reducible show Exists _); refine ⟨_, Own.cell hO 0 (by rfl) (by rfl), ?_⟩)
          | ((with_reducible show Exists _); refine ⟨_, Own.cell hO 1 (by rfl) (by rfl), ?_⟩)
          | ((with_reducible show Exists _); refine ⟨_, Own.cell hO 2 (by rfl) (by rfl), ?_⟩)
          | ((with_reducible show And _ _); refine ⟨Own.cell hO 0 (by rfl) (by rfl), ?_⟩)
          | ((with_reducible show And _ _); refine ⟨Own.cell hO 1 (by rfl) (by rfl), ?_⟩)
          | ((with_reducible show And _ _); refine ⟨Own.cell hO 2 (by rfl) (by rfl), ?_⟩)
          | ((with_reducible show Exists _); refine ⟨_, _, _, Own.cell hO 0 (by rfl) (by rfl), ?_⟩)
          | ((with_reducible show Exists _); refine ⟨_, _, _, Own.cell hO 1 (by rfl) (by rfl), ?_⟩)
          | ((with_reducible show Exists _); refine ⟨_, _, _, Own.cell hO 2 (by rfl) (by rfl), ?_⟩)
          | ((with_reducible show And _ _); refine And.intro (And.intro (Own.cell hO 0 (by rfl) (by rfl)) ?_) ?_)
          | ((with_reducible show And _ _); refine And.intro (And.intro (Own.cell hO 1 (by rfl) (by rfl)) ?_) ?_)
          | ((with_reducible show And _ _); refine And.intro (And.intro (Own.cell hO 2 (by rfl) (by rfl)) ?_) ?_)
          | ((with_reducible show @Eq (Option Value) _ _); exact Own.cell hO 0 (by rfl) (by rfl))
          | ((with_reducible show @Eq (Option Value) _ _); exact Own.cell hO 1 (by rfl) (by rfl))
          | ((with_reducible show @Eq (Option Value) _ _); exact Own.cell hO 2 (by rfl) (by rfl))
          | ((with_reducible show Exists _); refine ⟨_, Own.old hO (by assumption) id, ?_⟩)
          | ((with_reducible show Exists _); refine ⟨_, _, _, Own.old hO (by assumption) id, ?_⟩)
          | ((with_reducible show And _ _); refine ⟨Own.old hO (by assumption) id, ?_⟩)
          | ((with_reducible show Exists _); refine ⟨_, Own.old hO (by assumption) (by assumption), ?_⟩)
          | ((with_reducible show Exists _); refine ⟨_, _, _, Own.old hO (by assumption) (by assumption), ?_⟩)
          | ((with_reducible show And _ _); refine ⟨Own.old hO (by assumption) (by assumption), ?_⟩)
          | fail
        refine acc_eql (a := addS A ns) (b := addS A ns) ⟨_, rfl, ?_⟩
        exact ⟨by rw [eqA_self], k.after⟩
      · refine k.vnew fun b5 h5 k => ?_
        have hO := k.own
        repeat' first
          | ((with_reducible show VSome _ _); refine VSome.mk ?_)
          | ((with_reducible show Exists _); refine ⟨_, Own.cell hO 0 (by rfl) (by rfl), ?_⟩)
          | ((with_reducible show Exists _); refine ⟨_, Own.cell hO 1 (by rfl) (by rfl), ?_⟩)
          | ((with_reducible show Exists _); refine ⟨_, Own.cell hO 2 (by rfl) (by rfl), ?_⟩)
          | ((with_reducible show And _ _); refine ⟨Own.cell hO 0 (by rfl) (by rfl), ?_⟩)
          | ((with_reducible show And _ _); refine ⟨Own.cell hO 1 (by rfl) (by rfl), ?_⟩)
          | ((with_reducible show And _ _); refine ⟨Own.cell hO 2 (by rfl) (by rfl), ?_⟩)
          | ((with_reducible show Exists _); refine ⟨_, _, _, Own.cell hO 0 (by rfl) (by rfl), ?_⟩)
          | ((with_reducible show Exists _); refine ⟨_, _, _, Own.cell hO 1 (by rfl) (by rfl), ?_⟩)
          | ((with_reducible show Exists _); refine ⟨_, _, _, Own.cell hO 2 (by rfl) (by rfl), ?_⟩)
          | ((with_reducible show And _ _); refine And.intro (And.intro (Own.cell hO 0 (by rfl) (by rfl)) ?_) ?_)
          | ((with_reducible show And _ _); refine And.intro (And.intro (Own.cell hO 1 (by rfl) (by rfl)) ?_) ?_)
          | ((with_reducible show And _ _); refine And.intro (And.intro (Own.cell hO 2 (by rfl) (by rfl)) ?_) ?_)
          | ((with_reducible show @Eq (Option Value) _ _); exact Own.cell hO 0 (by rfl) (by rfl))
          | ((with_reducible show @Eq (Option Value) _ _); exact Own.cell hO 1 (by rfl) (by rfl))
          | ((with_reducible show @Eq (Option Value) _ _); exact Own.cell hO 2 (by rfl) (by rfl))
          | ((with_reducible show Exists _); refine ⟨_, Own.old hO (by assumption) id, ?_⟩)
          | ((with_reducible show Exists _); refine ⟨_, _, _, Own.old hO (by assumption) id, ?_⟩)
          | ((with_reducible show And _ _); refine ⟨Own.old hO (by assumption) id, ?_⟩)
          | ((with_reducible show Exists _); refine ⟨_, Own.old hO (by assumption) (by assumption), ?_⟩)
          | ((with_reducible show Exists _); refine ⟨_, _, _, Own.old hO (by assumption) (by assumption), ?_⟩)
          | ((with_reducible show And _ _); refine ⟨Own.old hO (by assumption) (by assumption), ?_⟩)
          | fail
        clear hO
        refine CallsH.mono (add_spec A ns a' l (l + m) _ (Sl.pre k.hd.vec.sl) hl (by omega)) ?_
        rintro _ h4 ⟨rfl, m4⟩
        replace k := k.next m4
        refine ⟨_, _, _, _, rfl, k.store 0 rfl rfl rfl fun h6 k => ?_⟩
        have hO := k.own
        repeat' first
          | ((with_reducible show VSome _ _); refine VSome.mk ?_)
          | ((with_reducible show Exists _); refine ⟨_, Own.cell hO 0 (by rfl) (by rfl), ?_⟩)
          | ((with_reducible show Exists _); refine ⟨_, Own.cell hO 1 (by rfl) (by rfl), ?_⟩)
          | ((with_reducible show Exists _); refine ⟨_, Own.cell hO 2 (by rfl) (by rfl), ?_⟩)
          | ((with_reducible show And _ _); refine ⟨Own.cell hO 0 (by rfl) (by rfl), ?_⟩)
          | ((with_reducible show And _ _); refine ⟨Own.cell hO 1 (by rfl) (by rfl), ?_⟩)
          | ((with_reducible show And _ _); refine ⟨Own.cell hO 2 (by rfl) (by rfl), ?_⟩)
          | ((with_reducible show Exists _); refine ⟨_, _, _, Own.cell hO 0 (by rfl) (by rfl), ?_⟩)
          | ((with_reducible show Exists _); refine ⟨_, _, _, Own.cell hO 1 (by rfl) (by rfl), ?_⟩)
          | ((with_reducible show Exists _); refine ⟨_, _, _, Own.cell hO 2 (by rfl) (by rfl), ?_⟩)
          | ((with_reducible show And _ _); refine And.intro (And.intro (Own.cell hO 0 (by rfl) (by rfl)) ?_) ?_)
          | ((with_reducible show And _ _); refine And.intro (And.intro (Own.cell hO 1 (by rfl) (by rfl)) ?_) ?_)
          | ((with_reducible show And _ _); refine And.intro (And.intro (Own.cell hO 2 (by rfl) (by rfl)) ?_) ?_)
          | ((with_reducible show @Eq (Option Value) _ _); exact Own.cell hO 0 (by rfl) (by rfl))
          | ((with_reducible show @Eq (Option Value) _ _); exact Own.cell hO 1 (by rfl) (by rfl))
          | ((with_reducible show @Eq (Option Value) _ _); exact Own.cell hO 2 (by rfl) (by rfl))
          | ((with_reducible show Exists _); refine ⟨_, Own.old hO (by assumption) id, ?_⟩)
          | ((with_reducible show Exists _); refine ⟨_, _, _, Own.old hO (by assumption) id, ?_⟩)
          | ((with_reducible show And _ _); refine ⟨Own.old hO (by assumption) id, ?_⟩)
          | ((with_reducible show Exists _); refine ⟨_, Own.old hO (by assumption) (by assumption), ?_⟩)
          | ((with_reducible show Exists _); refine ⟨_, _, _, Own.old hO (by assumption) (by assumption), ?_⟩)
          | ((with_reducible show And _ _); refine ⟨Own.old hO (by assumption) (by assumption), ?_⟩)
          | fail
        refine CallsH.mono (kept_spec k.hd (hsAt k.own) hl hbd (hpAt _ k.sub)) ?_
        rintro _ h8 ⟨rfl, vs8, hd8, m8⟩
        replace k := k.same hd8 m8
        refine ⟨_, rfl, cond_true rfl ?_⟩
        clear hO
        have hO := k.own
        repeat' first
          | ((with_reducible show VSome _ _); refine VSome.mk ?_)
          | ((with_reducible show Exists _); refine ⟨_, Own.cell hO 0 (by rfl) (by rfl), ?_⟩)
          | ((with_reducible show Exists _); refine ⟨_, Own.cell hO 1 (by rfl) (by rfl), ?_⟩)
          | ((with_reducible show Exists _); refine ⟨_, Own.cell hO 2 (by rfl) (by rfl), ?_⟩)
          | ((with_reducible show And _ _); refine ⟨Own.cell hO 0 (by rfl) (by rfl), ?_⟩)
          | ((with_reducible show And _ _); refine ⟨Own.cell hO 1 (by rfl) (by rfl), ?_⟩)
          | ((with_reducible show And _ _); refine ⟨Own.cell hO 2 (by rfl) (by rfl), ?_⟩)
          | ((with_reducible show Exists _); refine ⟨_, _, _, Own.cell hO 0 (by rfl) (by rfl), ?_⟩)
          | ((with_reducible show Exists _); refine ⟨_, _, _, Own.cell hO 1 (by rfl) (by rfl), ?_⟩)
          | ((with_reducible show Exists _); refine ⟨_, _, _, Own.cell hO 2 (by rfl) (by rfl), ?_⟩)
          | ((with_reducible show And _ _); refine And.intro (And.intro (Own.cell hO 0 (by rfl) (by rfl)) ?_) ?_)
          | ((with_reducible show And _ _); refine And.intro (And.intro (Own.cell hO 1 (by rfl) (by rfl)) ?_) ?_)
          | ((with_reducible show And _ _); refine And.intro (And.intro (Own.cell hO 2 (by rfl) (by rfl)) ?_) ?_)
          | ((with_reducible show @Eq (Option Value) _ _); exact Own.cell hO 0 (by rfl) (by rfl))
          | ((with_reducible show @Eq (Option Value) _ _); exact Own.cell hO 1 (by rfl) (by rfl))
          | ((with_reducible show @Eq (Option Value) _ _); exact Own.cell hO 2 (by rfl) (by rfl))
          | ((with_reducible show Exists _); refine ⟨_, Own.old hO (by assumption) id, ?_⟩)
          | ((with_reducible show Exists _); refine ⟨_, _, _, Own.old hO (by assumption) id, ?_⟩)
          | ((with_reducible show And _ _); refine ⟨Own.old hO (by assumption) id, ?_⟩)
          | ((with_reducible show Exists _); refine ⟨_, Own.old hO (by assumption) (by assumption), ?_⟩)
          | ((with_reducible show Exists _); refine ⟨_, _, _, Own.old hO (by assumption) (by assumption), ?_⟩)
          | ((with_reducible show And _ _); refine ⟨Own.old hO (by assumption) (by assumption), ?_⟩)
          | fail
        refine CallsH.mono (radd_spec A ns po l cp _ (hsAt k.own) hl (by omega)) ?_
        rintro _ h9 ⟨rfl, m9⟩
        replace k := k.next m9
        clear hO
        have hO := k.own
        refine ⟨_, _, _, _, rfl, ?_⟩
        repeat' first
          | ((with_reducible show VSome _ _); refine VSome.mk ?_)
          | ((with_reducible show Exists _); refine ⟨_, Own.cell hO 0 (by rfl) (by rfl), ?_⟩)
          | ((with_reducible show Exists _); refine ⟨_, Own.cell hO 1 (by rfl) (by rfl), ?_⟩)
          | ((with_reducible show Exists _); refine ⟨_, Own.cell hO 2 (by rfl) (by rfl), ?_⟩)
          | ((with_reducible show And _ _); refine ⟨Own.cell hO 0 (by rfl) (by rfl), ?_⟩)
          | ((with_reducible show And _ _); refine ⟨Own.cell hO 1 (by rfl) (by rfl), ?_⟩)
          | ((with_reducible show And _ _); refine ⟨Own.cell hO 2 (by rfl) (by rfl), ?_⟩)
          | ((with_reducible show Exists _); refine ⟨_, _, _, Own.cell hO 0 (by rfl) (by rfl), ?_⟩)
          | ((with_reducible show Exists _); refine ⟨_, _, _, Own.cell hO 1 (by rfl) (by rfl), ?_⟩)
          | ((with_reducible show Exists _); refine ⟨_, _, _, Own.cell hO 2 (by rfl) (by rfl), ?_⟩)
          | ((with_reducible show And _ _); refine And.intro (And.intro (Own.cell hO 0 (by rfl) (by rfl)) ?_) ?_)
          | ((with_reducible show And _ _); refine And.intro (And.intro (Own.cell hO 1 (by rfl) (by rfl)) ?_) ?_)
          | ((with_reducible show And _ _); refine And.intro (And.intro (Own.cell hO 2 (by rfl) (by rfl)) ?_) ?_)
          | ((with_reducible show @Eq (Option Value) _ _); exact Own.cell hO 0 (by rfl) (by rfl))
          | ((with_reducible show @Eq (Option Value) _ _); exact Own.cell hO 1 (by rfl) (by rfl))
          | ((with_reducible show @Eq (Option Value) _ _); exact Own.cell hO 2 (by rfl) (by rfl))
          | ((with_reducible show Exists _); refine ⟨_, Own.old hO (by assumption) id, ?_⟩)
          | ((with_reducible show Exists _); refine ⟨_, _, _, Own.old hO (by assumption) id, ?_⟩)
          | ((with_reducible show And _ _); refine ⟨Own.old hO (by assumption) id, ?_⟩)
          | ((with_reducible show Exists _); refine ⟨_, Own.old hO (by assumption) (by assumption), ?_⟩)
          | ((with_reducible show Exists _); refine ⟨_, _, _, Own.old hO (by assumption) (by assumption), ?_⟩)
          | ((with_reducible show And _ _); refine ⟨Own.old hO (by assumption) (by assumption), ?_⟩)
          | fail
        refine acc_eql (a := addS A ns) (b := addS A ns) ⟨_, rfl, ?_⟩
        exact ⟨by rw [eqA_self], k.after⟩
    · refine k.vnew fun b5 h5 k => ?_
      have hO := k.own
      repeat' first
        | ((with_reducible show VSome _ _); refine VSome.mk ?_)
        | ((with_reducible show Exists _); refine ⟨_, Own.cell hO 0 (by rfl) (by rfl), ?_⟩)
        | ((with_reducible show Exists _); refine ⟨_, Own.cell hO 1 (by rfl) (by rfl), ?_⟩)
        | ((with_reducible show Exists _); refine ⟨_, Own.cell hO 2 (by rfl) (by rfl), ?_⟩)
        | ((with_reducible show And _ _); refine ⟨Own.cell hO 0 (by rfl) (by rfl), ?_⟩)
        | ((with_reducible show And _ _); refine ⟨Own.cell hO 1 (by rfl) (by rfl), ?_⟩)
        | ((with_reducible show And _ _); refine ⟨Own.cell hO 2 (by rfl) (by rfl), ?_⟩)
        | ((with_reducible show Exists _); refine ⟨_, _, _, Own.cell hO 0 (by rfl) (by rfl), ?_⟩)
        | ((with_reducible show Exists _); refine ⟨_, _, _, Own.cell hO 1 (by rfl) (by rfl), ?_⟩)
        | ((with_reducible show Exists _); refine ⟨_, _, _, Own.cell hO 2 (by rfl) (by rfl), ?_⟩)
        | ((with_reducible show And _ _); refine And.intro (And.intro (Own.cell hO 0 (by rfl) (by rfl)) ?_) ?_)
        | ((with_reducible show And _ _); refine And.intro (And.intro (Own.cell hO 1 (by rfl) (by rfl)) ?_) ?_)
        | ((with_reducible show And _ _); refine And.intro (And.intro (Own.cell hO 2 (by rfl) (by rfl)) ?_) ?_)
        | ((with_reducible show @Eq (Option Value) _ _); exact Own.cell hO 0 (by rfl) (by rfl))
        | ((with_reducible show @Eq (Option Value) _ _); exact Own.cell hO 1 (by rfl) (by rfl))
        | ((with_reducible show @Eq (Option Value) _ _); exact Own.cell hO 2 (by rfl) (by rfl))
        | ((with_reducible show Exists _); refine ⟨_, Own.old hO (by assumption) id, ?_⟩)
        | ((with_reducible show Exists _); refine ⟨_, _, _, Own.old hO (by assumption) id, ?_⟩)
        | ((with_reducible show And _ _); refine ⟨Own.old hO (by assumption) id, ?_⟩)
        | ((with_reducible show Exists _); refine ⟨_, Own.old hO (by assumption) (by assumption), ?_⟩)
        | ((with_reducible show Exists _); refine ⟨_, _, _, Own.old hO (by assumption) (by assumption), ?_⟩)
        | ((with_reducible show And _ _); refine ⟨Own.old hO (by assumption) (by assumption), ?_⟩)
        | fail
      clear hO
      refine CallsH.mono (list_spec k.hd (hsAt k.own) hl hbd (hpAt _ k.sub)) ?_
      rintro _ h3 ⟨a', m, rfl, hd3, m3⟩
      replace k := k.call hd3 m3
      refine ⟨_, _, _, rfl, ?_⟩
      have hO := k.own
      repeat' first
        | ((with_reducible show VSome _ _); refine VSome.mk ?_)
        | ((with_reducible show Exists _); refine ⟨_, Own.cell hO 0 (by rfl) (by rfl), ?_⟩)
        | ((with_reducible show Exists _); refine ⟨_, Own.cell hO 1 (by rfl) (by rfl), ?_⟩)
        | ((with_reducible show Exists _); refine ⟨_, Own.cell hO 2 (by rfl) (by rfl), ?_⟩)
        | ((with_reducible show And _ _); refine ⟨Own.cell hO 0 (by rfl) (by rfl), ?_⟩)
        | ((with_reducible show And _ _); refine ⟨Own.cell hO 1 (by rfl) (by rfl), ?_⟩)
        | ((with_reducible show And _ _); refine ⟨Own.cell hO 2 (by rfl) (by rfl), ?_⟩)
        | ((with_reducible show Exists _); refine ⟨_, _, _, Own.cell hO 0 (by rfl) (by rfl), ?_⟩)
        | ((with_reducible show Exists _); refine ⟨_, _, _, Own.cell hO 1 (by rfl) (by rfl), ?_⟩)
        | ((with_reducible show Exists _); refine ⟨_, _, _, Own.cell hO 2 (by rfl) (by rfl), ?_⟩)
        | ((with_reducible show And _ _); refine And.intro (And.intro (Own.cell hO 0 (by rfl) (by rfl)) ?_) ?_)
        | ((with_reducible show And _ _); refine And.intro (And.intro (Own.cell hO 1 (by rfl) (by rfl)) ?_) ?_)
        | ((with_reducible show And _ _); refine And.intro (And.intro (Own.cell hO 2 (by rfl) (by rfl)) ?_) ?_)
        | ((with_reducible show @Eq (Option Value) _ _); exact Own.cell hO 0 (by rfl) (by rfl))
        | ((with_reducible show @Eq (Option Value) _ _); exact Own.cell hO 1 (by rfl) (by rfl))
        | ((with_reducible show @Eq (Option Value) _ _); exact Own.cell hO 2 (by rfl) (by rfl))
        | ((with_reducible show Exists _); refine ⟨_, Own.old hO (by assumption) id, ?_⟩)
        | ((with_reducible show Exists _); refine ⟨_, _, _, Own.old hO (by assumption) id, ?_⟩)
        | ((with_reducible show And _ _); refine ⟨Own.old hO (by assumption) id, ?_⟩)
        | ((with_reducible show Exists _); refine ⟨_, Own.old hO (by assumption) (by assumption), ?_⟩)
        | ((with_reducible show Exists _); refine ⟨_, _, _, Own.old hO (by assumption) (by assumption), ?_⟩)
        | ((with_reducible show And _ _); refine ⟨Own.old hO (by assumption) (by assumption), ?_⟩)
        | fail
      clear hO
      refine CallsH.mono (add_spec A ns a' l (l + m) _ (Sl.pre k.hd.vec.sl) hl (by omega)) ?_
      rintro _ h4 ⟨rfl, m4⟩
      replace k := k.next m4
      refine ⟨_, _, _, _, rfl, k.store 0 rfl rfl rfl fun h6 k => ?_⟩
      have hO := k.own
      repeat' first
        | ((with_reducible show VSome _ _); refine VSome.mk ?_)
        | ((with_reducible show Exists _); refine ⟨_, Own.cell hO 0 (by rfl) (by rfl), ?_⟩)
        | ((with_reducible show Exists _); refine ⟨_, Own.cell hO 1 (by rfl) (by rfl), ?_⟩)
        | ((with_reducible show Exists _); refine ⟨_, Own.cell hO 2 (by rfl) (by rfl), ?_⟩)
        | ((with_reducible show And _ _); refine ⟨Own.cell hO 0 (by rfl) (by rfl), ?_⟩)
        | ((with_reducible show And _ _); refine ⟨Own.cell hO 1 (by rfl) (by rfl), ?_⟩)
        | ((with_reducible show And _ _); refine ⟨Own.cell hO 2 (by rfl) (by rfl), ?_⟩)
        | ((with_reducible show Exists _); refine ⟨_, _, _, Own.cell hO 0 (by rfl) (by rfl), ?_⟩)
        | ((with_reducible show Exists _); refine ⟨_, _, _, Own.cell hO 1 (by rfl) (by rfl), ?_⟩)
        | ((with_reducible show Exists _); refine ⟨_, _, _, Own.cell hO 2 (by rfl) (by rfl), ?_⟩)
        | ((with_reducible show And _ _); refine And.intro (And.intro (Own.cell hO 0 (by rfl) (by rfl)) ?_) ?_)
        | ((with_reducible show And _ _); refine And.intro (And.intro (Own.cell hO 1 (by rfl) (by rfl)) ?_) ?_)
        | ((with_reducible show And _ _); refine And.intro (And.intro (Own.cell hO 2 (by rfl) (by rfl)) ?_) ?_)
        | ((with_reducible show @Eq (Option Value) _ _); exact Own.cell hO 0 (by rfl) (by rfl))
        | ((with_reducible show @Eq (Option Value) _ _); exact Own.cell hO 1 (by rfl) (by rfl))
        | ((with_reducible show @Eq (Option Value) _ _); exact Own.cell hO 2 (by rfl) (by rfl))
        | ((with_reducible show Exists _); refine ⟨_, Own.old hO (by assumption) id, ?_⟩)
        | ((with_reducible show Exists _); refine ⟨_, _, _, Own.old hO (by assumption) id, ?_⟩)
        | ((with_reducible show And _ _); refine ⟨Own.old hO (by assumption) id, ?_⟩)
        | ((with_reducible show Exists _); refine ⟨_, Own.old hO (by assumption) (by assumption), ?_⟩)
        | ((with_reducible show Exists _); refine ⟨_, _, _, Own.old hO (by assumption) (by assumption), ?_⟩)
        | ((with_reducible show And _ _); refine ⟨Own.old hO (by assumption) (by assumption), ?_⟩)
        | fail
      refine CallsH.mono (kept_spec k.hd (hsAt k.own) hl hbd (hpAt _ k.sub)) ?_
      rintro _ h8 ⟨rfl, vs8, hd8, m8⟩
      replace k := k.same hd8 m8
      refine ⟨_, rfl, cond_true rfl ?_⟩
      clear hO
      have hO := k.own
      repeat' first
        | ((with_reducible show VSome _ _); refine VSome.mk ?_)
        | ((with_reducible show Exists _); refine ⟨_, Own.cell hO 0 (by rfl) (by rfl), ?_⟩)
        | ((with_reducible show Exists _); refine ⟨_, Own.cell hO 1 (by rfl) (by rfl), ?_⟩)
        | ((with_reducible show Exists _); refine ⟨_, Own.cell hO 2 (by rfl) (by rfl), ?_⟩)
        | ((with_reducible show And _ _); refine ⟨Own.cell hO 0 (by rfl) (by rfl), ?_⟩)
        | ((with_reducible show And _ _); refine ⟨Own.cell hO 1 (by rfl) (by rfl), ?_⟩)
        | ((with_reducible show And _ _); refine ⟨Own.cell hO 2 (by rfl) (by rfl), ?_⟩)
        | ((with_reducible show Exists _); refine ⟨_, _, _, Own.cell hO 0 (by rfl) (by rfl), ?_⟩)
        | ((with_reducible show Exists _); refine ⟨_, _, _, Own.cell hO 1 (by rfl) (by rfl), ?_⟩)
        | ((with_reducible show Exists _); refine ⟨_, _, _, Own.cell hO 2 (by rfl) (by rfl), ?_⟩)
        | ((with_reducible show And _ _); refine And.intro (And.intro (Own.cell hO 0 (by rfl) (by rfl)) ?_) ?_)
        | ((with_reducible show And _ _); refine And.intro (And.intro (Own.cell hO 1 (by rfl) (by rfl)) ?_) ?_)
        | ((with_reducible show And _ _); refine And.intro (And.intro (Own.cell hO 2 (by rfl) (by rfl)) ?_) ?_)
        | ((with_reducible show @Eq (Option Value) _ _); exact Own.cell hO 0 (by rfl) (by rfl))
        | ((with_reducible show @Eq (Option Value) _ _); exact Own.cell hO 1 (by rfl) (by rfl))
        | ((with_reducible show @Eq (Option Value) _ _); exact Own.cell hO 2 (by rfl) (by rfl))
        | ((with_reducible show Exists _); refine ⟨_, Own.old hO (by assumption) id, ?_⟩)
        | ((with_reducible show Exists _); refine ⟨_, _, _, Own.old hO (by assumption) id, ?_⟩)
        | ((with_reducible show And _ _); refine ⟨Own.old hO (by assumption) id, ?_⟩)
        | ((with_reducible show Exists _); refine ⟨_, Own.old hO (by assumption) (by assumption), ?_⟩)
        | ((with_reducible show Exists _); refine ⟨_, _, _, Own.old hO (by assumption) (by assumption), ?_⟩)
        | ((with_reducible show And _ _); refine ⟨Own.old hO (by assumption) (by assumption), ?_⟩)
        | fail
      refine CallsH.mono (radd_spec A ns po l cp _ (hsAt k.own) hl (by omega)) ?_
      rintro _ h9 ⟨rfl, m9⟩
      replace k := k.next m9
      clear hO
      have hO := k.own
      refine ⟨_, _, _, _, rfl, ?_⟩
      repeat' first
        | ((with_reducible show VSome _ _); refine VSome.mk ?_)
        | ((with_reducible show Exists _); refine ⟨_, Own.cell hO 0 (by rfl) (by rfl), ?_⟩)
        | ((with_reducible show Exists _); refine ⟨_, Own.cell hO 1 (by rfl) (by rfl), ?_⟩)
        | ((with_reducible show Exists _); refine ⟨_, Own.cell hO 2 (by rfl) (by rfl), ?_⟩)
        | ((with_reducible show And _ _); refine ⟨Own.cell hO 0 (by rfl) (by rfl), ?_⟩)
        | ((with_reducible show And _ _); refine ⟨Own.cell hO 1 (by rfl) (by rfl), ?_⟩)
        | ((with_reducible show And _ _); refine ⟨Own.cell hO 2 (by rfl) (by rfl), ?_⟩)
        | ((with_reducible show Exists _); refine ⟨_, _, _, Own.cell hO 0 (by rfl) (by rfl), ?_⟩)
        | ((with_reducible show Exists _); refine ⟨_, _, _, Own.cell hO 1 (by rfl) (by rfl), ?_⟩)
        | ((with_reducible show Exists _); refine ⟨_, _, _, Own.cell hO 2 (by rfl) (by rfl), ?_⟩)
        | ((with_reducible show And _ _); refine And.intro (And.intro (Own.cell hO 0 (by rfl) (by rfl)) ?_) ?_)
        | ((with_reducible show And _ _); refine And.intro (And.intro (Own.cell hO 1 (by rfl) (by rfl)) ?_) ?_)
        | ((with_reducible show And _ _); refine And.intro (And.intro (Own.cell hO 2 (by rfl) (by rfl)) ?_) ?_)
        | ((with_reducible show @Eq (Option Value) _ _); exact Own.cell hO 0 (by rfl) (by rfl))
        | ((with_reducible show @Eq (Option Value) _ _); exact Own.cell hO 1 (by rfl) (by rfl))
        | ((with_reducible show @Eq (Option Value) _ _); exact Own.cell hO 2 (by rfl) (by rfl))
        | ((with_reducible show Exists _); refine ⟨_, Own.old hO (by assumption) id, ?_⟩)
        | ((with_reducible show Exists _); refine ⟨_, _, _, Own.old hO (by assumption) id, ?_⟩)
        | ((with_reducible show And _ _); refine ⟨Own.old hO (by assumption) id, ?_⟩)
        | ((with_reducible show Exists _); refine ⟨_, Own.old hO (by assumption) (by assumption), ?_⟩)
        | ((with_reducible show Exists _); refine ⟨_, _, _, Own.old hO (by assumption) (by assumption), ?_⟩)
        | ((with_reducible show And _ _); refine ⟨Own.old hO (by assumption) (by assumption), ?_⟩)
        | fail
      refine acc_eql (a := addS A ns) (b := addS A ns) ⟨_, rfl, ?_⟩
      exact ⟨by rw [eqA_self], k.after⟩
  refine cond_split (fun hc => ?_) (fun hc => ?_)
  · -- Join
    repeat' first
      | ((with_reducible show VSome _ _); refine VSome.mk ?_)
      | ((with_reducible show Exists _); refine ⟨_, Own.cell hO 0 (by rfl) (by rfl), ?_⟩)
      | ((with_reducible show Exists _); refine ⟨_, Own.cell hO 1 (by rfl) (by rfl), ?_⟩)
      | ((with_reducible show And _ _); refine ⟨Own.cell hO 0 (by rfl) (by rfl), ?_⟩)
      | ((with_reducible show And _ _); refine ⟨Own.cell hO 1 (by rfl) (by rfl), ?_⟩)
      | ((with_reducible show Exists _); refine ⟨_, _, _, Own.cell hO 0 (by rfl) (by rfl), ?_⟩)
      | ((with_reducible show Exists _); refine ⟨_, _, _, Own.cell hO 1 (by rfl) (by rfl), ?_⟩)
      | ((with_reducible show And _ _); refine And.intro (And.intro (Own.cell hO 0 (by rfl) (by rfl)) ?_) ?_)
      | ((with_reducible show And _ _); refine And.intro (And.intro (Own.cell hO 1 (by rfl) (by rfl)) ?_) ?_)
      | ((with_reducible show @Eq (Option Value) _ _); exact Own.cell hO 0 (by rfl) (by rfl))
      | ((with_reducible show @Eq (Option Value) _ _); exact Own.cell hO 1 (by rfl) (by rfl))
      | ((with_reducible show Exists _); refine ⟨_, Own.old hO (by assumption) id, ?_⟩)
      | ((with_reducible show Exists _); refine ⟨_, _, _, Own.old hO (by assumption) id, ?_⟩)
      | ((with_reducible show And _ _); refine ⟨Own.old hO (by assumption) id, ?_⟩)
      | ((with_reducible show Exists _); refine ⟨_, Own.old hO (by assumption) (by assumption), ?_⟩)
      | ((with_reducible show Exists _); refine ⟨_, _, _, Own.old hO (by assumption) (by assumption), ?_⟩)
      | ((with_reducible show And _ _); refine ⟨Own.old hO (by assumption) (by assumption), ?_⟩)
      | fail
    clear hO
    refine CallsH.mono (join_spec A B _) ?_
    rintro _ h3 ⟨rfl, m3⟩
    replace k := k.next m3
    refine ⟨_, _, _, _, rfl, ?_⟩
    have hO := k.own
    repeat' first
      | ((with_reducible show VSome _ _); refine VSome.mk ?_)
      | ((with_reducible show Exists _); refine ⟨_, Own.cell hO 0 (by rfl) (by rfl), ?_⟩)
      | ((with_reducible show Exists _); refine ⟨_, Own.cell hO 1 (by rfl) (by rfl), ?_⟩)
      | ((with_reducible show And _ _); refine ⟨Own.cell hO 0 (by rfl) (by rfl), ?_⟩)
      | ((with_reducible show And _ _); refine ⟨Own.cell hO 1 (by rfl) (by rfl), ?_⟩)
      | ((with_reducible show Exists _); refine ⟨_, _, _, Own.cell hO 0 (by rfl) (by rfl), ?_⟩)
      | ((with_reducible show Exists _); refine ⟨_, _, _, Own.cell hO 1 (by rfl) (by rfl), ?_⟩)
      | ((with_reducible show And _ _); refine And.intro (And.intro (Own.cell hO 0 (by rfl) (by rfl)) ?_) ?_)
      | ((with_reducible show And _ _); refine And.intro (And.intro (Own.cell hO 1 (by rfl) (by rfl)) ?_) ?_)
      | ((with_reducible show @Eq (Option Value) _ _); exact Own.cell hO 0 (by rfl) (by rfl))
      | ((with_reducible show @Eq (Option Value) _ _); exact Own.cell hO 1 (by rfl) (by rfl))
      | ((with_reducible show Exists _); refine ⟨_, Own.old hO (by assumption) id, ?_⟩)
      | ((with_reducible show Exists _); refine ⟨_, _, _, Own.old hO (by assumption) id, ?_⟩)
      | ((with_reducible show And _ _); refine ⟨Own.old hO (by assumption) id, ?_⟩)
      | ((with_reducible show Exists _); refine ⟨_, Own.old hO (by assumption) (by assumption), ?_⟩)
      | ((with_reducible show Exists _); refine ⟨_, _, _, Own.old hO (by assumption) (by assumption), ?_⟩)
      | ((with_reducible show And _ _); refine ⟨Own.old hO (by assumption) (by assumption), ?_⟩)
      | fail
    clear hO
    refine CallsH.mono (rjoin_spec A B _) ?_
    rintro _ h4 ⟨rfl, m4⟩
    replace k := k.next m4
    refine ⟨_, _, _, _, rfl, ?_⟩
    refine acc_eql (a := joinS A B) (b := joinS A B) ⟨_, rfl, ?_⟩
    exact ⟨by rw [eqA_self], k.after⟩
  refine cond_split (fun hc => ?_) (fun hc => ?_)
  · -- Get
    repeat' first
      | ((with_reducible show VSome _ _); refine VSome.mk ?_)
      | ((with_reducible show Exists _); refine ⟨_, Own.cell hO 0 (by rfl) (by rfl), ?_⟩)
      | ((with_reducible show Exists _); refine ⟨_, Own.cell hO 1 (by rfl) (by rfl), ?_⟩)
      | ((with_reducible show And _ _); refine ⟨Own.cell hO 0 (by rfl) (by rfl), ?_⟩)
      | ((with_reducible show And _ _); refine ⟨Own.cell hO 1 (by rfl) (by rfl), ?_⟩)
      | ((with_reducible show Exists _); refine ⟨_, _, _, Own.cell hO 0 (by rfl) (by rfl), ?_⟩)
      | ((with_reducible show Exists _); refine ⟨_, _, _, Own.cell hO 1 (by rfl) (by rfl), ?_⟩)
      | ((with_reducible show And _ _); refine And.intro (And.intro (Own.cell hO 0 (by rfl) (by rfl)) ?_) ?_)
      | ((with_reducible show And _ _); refine And.intro (And.intro (Own.cell hO 1 (by rfl) (by rfl)) ?_) ?_)
      | ((with_reducible show @Eq (Option Value) _ _); exact Own.cell hO 0 (by rfl) (by rfl))
      | ((with_reducible show @Eq (Option Value) _ _); exact Own.cell hO 1 (by rfl) (by rfl))
      | ((with_reducible show Exists _); refine ⟨_, Own.old hO (by assumption) id, ?_⟩)
      | ((with_reducible show Exists _); refine ⟨_, _, _, Own.old hO (by assumption) id, ?_⟩)
      | ((with_reducible show And _ _); refine ⟨Own.old hO (by assumption) id, ?_⟩)
      | ((with_reducible show Exists _); refine ⟨_, Own.old hO (by assumption) (by assumption), ?_⟩)
      | ((with_reducible show Exists _); refine ⟨_, _, _, Own.old hO (by assumption) (by assumption), ?_⟩)
      | ((with_reducible show And _ _); refine ⟨Own.old hO (by assumption) (by assumption), ?_⟩)
      | fail
    clear hO
    refine CallsH.mono (get_spec A fn _) ?_
    rintro _ h3 ⟨rfl, m3⟩
    replace k := k.next m3
    refine ⟨_, _, rfl, ?_⟩
    have hO := k.own
    repeat' first
      | ((with_reducible show VSome _ _); refine VSome.mk ?_)
      | ((with_reducible show Exists _); refine ⟨_, Own.cell hO 0 (by rfl) (by rfl), ?_⟩)
      | ((with_reducible show Exists _); refine ⟨_, Own.cell hO 1 (by rfl) (by rfl), ?_⟩)
      | ((with_reducible show And _ _); refine ⟨Own.cell hO 0 (by rfl) (by rfl), ?_⟩)
      | ((with_reducible show And _ _); refine ⟨Own.cell hO 1 (by rfl) (by rfl), ?_⟩)
      | ((with_reducible show Exists _); refine ⟨_, _, _, Own.cell hO 0 (by rfl) (by rfl), ?_⟩)
      | ((with_reducible show Exists _); refine ⟨_, _, _, Own.cell hO 1 (by rfl) (by rfl), ?_⟩)
      | ((with_reducible show And _ _); refine And.intro (And.intro (Own.cell hO 0 (by rfl) (by rfl)) ?_) ?_)
      | ((with_reducible show And _ _); refine And.intro (And.intro (Own.cell hO 1 (by rfl) (by rfl)) ?_) ?_)
      | ((with_reducible show @Eq (Option Value) _ _); exact Own.cell hO 0 (by rfl) (by rfl))
      | ((with_reducible show @Eq (Option Value) _ _); exact Own.cell hO 1 (by rfl) (by rfl))
      | ((with_reducible show Exists _); refine ⟨_, Own.old hO (by assumption) id, ?_⟩)
      | ((with_reducible show Exists _); refine ⟨_, _, _, Own.old hO (by assumption) id, ?_⟩)
      | ((with_reducible show And _ _); refine ⟨Own.old hO (by assumption) id, ?_⟩)
      | ((with_reducible show Exists _); refine ⟨_, Own.old hO (by assumption) (by assumption), ?_⟩)
      | ((with_reducible show Exists _); refine ⟨_, _, _, Own.old hO (by assumption) (by assumption), ?_⟩)
      | ((with_reducible show And _ _); refine ⟨Own.old hO (by assumption) (by assumption), ?_⟩)
      | fail
    clear hO
    refine CallsH.mono (rget_spec A fn _) ?_
    rintro _ h4 ⟨rfl, m4⟩
    replace k := k.next m4
    refine ⟨_, _, rfl, cond_true (by simp) ⟨by simp, k.after⟩⟩
  -- the rows
  repeat' first
    | ((with_reducible show VSome _ _); refine VSome.mk ?_)
    | ((with_reducible show Exists _); refine ⟨_, Own.cell hO 0 (by rfl) (by rfl), ?_⟩)
    | ((with_reducible show Exists _); refine ⟨_, Own.cell hO 1 (by rfl) (by rfl), ?_⟩)
    | ((with_reducible show And _ _); refine ⟨Own.cell hO 0 (by rfl) (by rfl), ?_⟩)
    | ((with_reducible show And _ _); refine ⟨Own.cell hO 1 (by rfl) (by rfl), ?_⟩)
    | ((with_reducible show Exists _); refine ⟨_, _, _, Own.cell hO 0 (by rfl) (by rfl), ?_⟩)
    | ((with_reducible show Exists _); refine ⟨_, _, _, Own.cell hO 1 (by rfl) (by rfl), ?_⟩)
    | ((with_reducible show And _ _); refine And.intro (And.intro (Own.cell hO 0 (by rfl) (by rfl)) ?_) ?_)
    | ((with_reducible show And _ _); refine And.intro (And.intro (Own.cell hO 1 (by rfl) (by rfl)) ?_) ?_)
    | ((with_reducible show @Eq (Option Value) _ _); exact Own.cell hO 0 (by rfl) (by rfl))
    | ((with_reducible show @Eq (Option Value) _ _); exact Own.cell hO 1 (by rfl) (by rfl))
    | ((with_reducible show Exists _); refine ⟨_, Own.old hO (by assumption) id, ?_⟩)
    | ((with_reducible show Exists _); refine ⟨_, _, _, Own.old hO (by assumption) id, ?_⟩)
    | ((with_reducible show And _ _); refine ⟨Own.old hO (by assumption) id, ?_⟩)
    | ((with_reducible show Exists _); refine ⟨_, Own.old hO (by assumption) (by assumption), ?_⟩)
    | ((with_reducible show Exists _); refine ⟨_, _, _, Own.old hO (by assumption) (by assumption), ?_⟩)
    | ((with_reducible show And _ _); refine ⟨Own.old hO (by assumption) (by assumption), ?_⟩)
    | fail
  obtain ⟨hlR, hR⟩ := id kR
  rcases hR with ⟨rfl, rfl⟩ | ⟨c1, c2, S1, S2, rfl, rfl, k1, k2, d12, s1, s2⟩
  · exact cond_true rfl ⟨rfl, k.after⟩
  have pr : PairE TR h h2 _ c1 c2 sz held held := ⟨S1, S2, ⟨hL2.ext.mono fun _ h => h.elim, hL2.blk, fun x hx => .inr ((hL2.new x hx).resolve_left id), hL2.once⟩, k1.ext hL2.ext, k2.mod hL2.ext fun _ _ => id, d12, fun z hz => .inl (s1 z hz), fun z hz => .inl (s2 z hz), fun x hx => by
    have := (hL2.new x hx).resolve_left id
    exact ⟨fun e => by have := hlR _ (s1 _ e); omega, fun e => by have := hlR _ (s2 _ e); omega⟩⟩
  refine cond_false rfl ?_
  repeat' first
    | ((with_reducible show VSome _ _); refine VSome.mk ?_)
    | ((with_reducible show Exists _); refine ⟨_, Own.cell hO 0 (by rfl) (by rfl), ?_⟩)
    | ((with_reducible show Exists _); refine ⟨_, Own.cell hO 1 (by rfl) (by rfl), ?_⟩)
    | ((with_reducible show And _ _); refine ⟨Own.cell hO 0 (by rfl) (by rfl), ?_⟩)
    | ((with_reducible show And _ _); refine ⟨Own.cell hO 1 (by rfl) (by rfl), ?_⟩)
    | ((with_reducible show Exists _); refine ⟨_, _, _, Own.cell hO 0 (by rfl) (by rfl), ?_⟩)
    | ((with_reducible show Exists _); refine ⟨_, _, _, Own.cell hO 1 (by rfl) (by rfl), ?_⟩)
    | ((with_reducible show And _ _); refine And.intro (And.intro (Own.cell hO 0 (by rfl) (by rfl)) ?_) ?_)
    | ((with_reducible show And _ _); refine And.intro (And.intro (Own.cell hO 1 (by rfl) (by rfl)) ?_) ?_)
    | ((with_reducible show @Eq (Option Value) _ _); exact Own.cell hO 0 (by rfl) (by rfl))
    | ((with_reducible show @Eq (Option Value) _ _); exact Own.cell hO 1 (by rfl) (by rfl))
    | ((with_reducible show Exists _); refine ⟨_, Own.old hO (by assumption) id, ?_⟩)
    | ((with_reducible show Exists _); refine ⟨_, _, _, Own.old hO (by assumption) id, ?_⟩)
    | ((with_reducible show And _ _); refine ⟨Own.old hO (by assumption) id, ?_⟩)
    | ((with_reducible show Exists _); refine ⟨_, Own.old hO (by assumption) (by assumption), ?_⟩)
    | ((with_reducible show Exists _); refine ⟨_, _, _, Own.old hO (by assumption) (by assumption), ?_⟩)
    | ((with_reducible show And _ _); refine ⟨Own.old hO (by assumption) (by assumption), ?_⟩)
    | fail
  refine cond_false rfl ?_
  refine ⟨fun h' y => ∃ held', PairE TR h h' [(b3, #[.int .i64 kind, .int .i64 which, .int .i64 A.c, .int .i64 A.s, .int .i64 A.lo, .int .i64 A.hi, .int .i64 B.c, .int .i64 B.s, .int .i64 B.lo, .int .i64 B.hi, .slice po l cp, .int .i64 fn], 41), (b1, #[.pointer (some ⟨c1, 0, none⟩), .pointer (some ⟨c2, 0, none⟩)], 32)] c1 c2 sz held' held', ?_, ?_⟩
  · repeat' first
      | ((with_reducible show VSome _ _); refine VSome.mk ?_)
      | ((with_reducible show Exists _); refine ⟨_, Own.cell hO 0 (by rfl) (by rfl), ?_⟩)
      | ((with_reducible show Exists _); refine ⟨_, Own.cell hO 1 (by rfl) (by rfl), ?_⟩)
      | ((with_reducible show And _ _); refine ⟨Own.cell hO 0 (by rfl) (by rfl), ?_⟩)
      | ((with_reducible show And _ _); refine ⟨Own.cell hO 1 (by rfl) (by rfl), ?_⟩)
      | ((with_reducible show Exists _); refine ⟨_, _, _, Own.cell hO 0 (by rfl) (by rfl), ?_⟩)
      | ((with_reducible show Exists _); refine ⟨_, _, _, Own.cell hO 1 (by rfl) (by rfl), ?_⟩)
      | ((with_reducible show And _ _); refine And.intro (And.intro (Own.cell hO 0 (by rfl) (by rfl)) ?_) ?_)
      | ((with_reducible show And _ _); refine And.intro (And.intro (Own.cell hO 1 (by rfl) (by rfl)) ?_) ?_)
      | ((with_reducible show @Eq (Option Value) _ _); exact Own.cell hO 0 (by rfl) (by rfl))
      | ((with_reducible show @Eq (Option Value) _ _); exact Own.cell hO 1 (by rfl) (by rfl))
      | ((with_reducible show Exists _); refine ⟨_, Own.old hO (by assumption) id, ?_⟩)
      | ((with_reducible show Exists _); refine ⟨_, _, _, Own.old hO (by assumption) id, ?_⟩)
      | ((with_reducible show And _ _); refine ⟨Own.old hO (by assumption) id, ?_⟩)
      | ((with_reducible show Exists _); refine ⟨_, Own.old hO (by assumption) (by assumption), ?_⟩)
      | ((with_reducible show Exists _); refine ⟨_, _, _, Own.old hO (by assumption) (by assumption), ?_⟩)
      | ((with_reducible show And _ _); refine ⟨Own.old hO (by assumption) (by assumption), ?_⟩)
      | fail
    refine cond_split (fun hc => ?_) (fun hc => ?_)
    · clear hO k
      refine ⟨fun n hh i => ∃ (kk : Nat) (held' : List Int), i = (kk : Int) ∧ kk ≤ l ∧ n = l - kk ∧ PairE TR h hh [(b3, #[.int .i64 kind, .int .i64 which, .int .i64 A.c, .int .i64 A.s, .int .i64 A.lo, .int .i64 A.hi, .int .i64 B.c, .int .i64 B.s, .int .i64 B.lo, .int .i64 B.hi, .slice po l cp, .int .i64 fn], 41), (b1, #[.pointer (some ⟨c1, 0, none⟩), .pointer (some ⟨c2, 0, none⟩)], 32)] c1 c2 sz held' held',
        ⟨_, 0, held, rfl, by omega, rfl, pr⟩, ?_⟩
      clear pr
      rintro n hh _ i ⟨kk, held', rfl, hk, rfl, pr⟩
      have hO := pr.own
      repeat' first
        | ((with_reducible show VSome _ _); refine VSome.mk ?_)
        | ((with_reducible show Exists _); refine ⟨_, Own.cell hO 0 (by rfl) (by rfl), ?_⟩)
        | ((with_reducible show Exists _); refine ⟨_, Own.cell hO 1 (by rfl) (by rfl), ?_⟩)
        | ((with_reducible show And _ _); refine ⟨Own.cell hO 0 (by rfl) (by rfl), ?_⟩)
        | ((with_reducible show And _ _); refine ⟨Own.cell hO 1 (by rfl) (by rfl), ?_⟩)
        | ((with_reducible show Exists _); refine ⟨_, _, _, Own.cell hO 0 (by rfl) (by rfl), ?_⟩)
        | ((with_reducible show Exists _); refine ⟨_, _, _, Own.cell hO 1 (by rfl) (by rfl), ?_⟩)
        | ((with_reducible show And _ _); refine And.intro (And.intro (Own.cell hO 0 (by rfl) (by rfl)) ?_) ?_)
        | ((with_reducible show And _ _); refine And.intro (And.intro (Own.cell hO 1 (by rfl) (by rfl)) ?_) ?_)
        | ((with_reducible show @Eq (Option Value) _ _); exact Own.cell hO 0 (by rfl) (by rfl))
        | ((with_reducible show @Eq (Option Value) _ _); exact Own.cell hO 1 (by rfl) (by rfl))
        | ((with_reducible show Exists _); refine ⟨_, Own.old hO (by assumption) id, ?_⟩)
        | ((with_reducible show Exists _); refine ⟨_, _, _, Own.old hO (by assumption) id, ?_⟩)
        | ((with_reducible show And _ _); refine ⟨Own.old hO (by assumption) id, ?_⟩)
        | ((with_reducible show Exists _); refine ⟨_, Own.old hO (by assumption) (by assumption), ?_⟩)
        | ((with_reducible show Exists _); refine ⟨_, _, _, Own.old hO (by assumption) (by assumption), ?_⟩)
        | ((with_reducible show And _ _); refine ⟨Own.old hO (by assumption) (by assumption), ?_⟩)
        | fail
      have slAt : ∀ {hh : Heap} {L : List (Nat × Array Value × Nat)}, Own TR h hh L → Sl hh po (ints ns) := fun o => Sl.mod2 hs (Mod.after hx o.ext) fun hne z hz e => by
        have := hlt hne z hz
        have := hnew z (.inr e)
        omega
      refine cond_split (fun hd => ?_) (fun hd => ?_)
      · have hkl : kk < l := Int.ofNat_lt.1 (of_decide_eq_true hd)
        repeat' first
          | ((with_reducible show VSome _ _); refine VSome.mk ?_)
          | ((with_reducible show Exists _); refine ⟨_, Own.cell hO 0 (by rfl) (by rfl), ?_⟩)
          | ((with_reducible show Exists _); refine ⟨_, Own.cell hO 1 (by rfl) (by rfl), ?_⟩)
          | ((with_reducible show And _ _); refine ⟨Own.cell hO 0 (by rfl) (by rfl), ?_⟩)
          | ((with_reducible show And _ _); refine ⟨Own.cell hO 1 (by rfl) (by rfl), ?_⟩)
          | ((with_reducible show Exists _); refine ⟨_, _, _, Own.cell hO 0 (by rfl) (by rfl), ?_⟩)
          | ((with_reducible show Exists _); refine ⟨_, _, _, Own.cell hO 1 (by rfl) (by rfl), ?_⟩)
          | ((with_reducible show And _ _); refine And.intro (And.intro (Own.cell hO 0 (by rfl) (by rfl)) ?_) ?_)
          | ((with_reducible show And _ _); refine And.intro (And.intro (Own.cell hO 1 (by rfl) (by rfl)) ?_) ?_)
          | ((with_reducible show @Eq (Option Value) _ _); exact Own.cell hO 0 (by rfl) (by rfl))
          | ((with_reducible show @Eq (Option Value) _ _); exact Own.cell hO 1 (by rfl) (by rfl))
          | ((with_reducible show Exists _); refine ⟨_, Own.old hO (by assumption) id, ?_⟩)
          | ((with_reducible show Exists _); refine ⟨_, _, _, Own.old hO (by assumption) id, ?_⟩)
          | ((with_reducible show And _ _); refine ⟨Own.old hO (by assumption) id, ?_⟩)
          | ((with_reducible show Exists _); refine ⟨_, Own.old hO (by assumption) (by assumption), ?_⟩)
          | ((with_reducible show Exists _); refine ⟨_, _, _, Own.old hO (by assumption) (by assumption), ?_⟩)
          | ((with_reducible show And _ _); refine ⟨Own.old hO (by assumption) (by assumption), ?_⟩)
          | fail
        refine (slAt hO).int (.refl _ _) hl (by omega) (by omega) fun ad n hn hcell => ⟨_, hcell, ?_⟩
        clear hO hcell
        refine CallsH.mono (pr_push1 pr n) ?_
        rintro _ h5 ⟨rfl, pr⟩
        refine ⟨rfl, ?_⟩
        have hO := pr.own
        repeat' first
          | ((with_reducible show VSome _ _); refine VSome.mk ?_)
          | ((with_reducible show Exists _); refine ⟨_, Own.cell hO 0 (by rfl) (by rfl), ?_⟩)
          | ((with_reducible show Exists _); refine ⟨_, Own.cell hO 1 (by rfl) (by rfl), ?_⟩)
          | ((with_reducible show And _ _); refine ⟨Own.cell hO 0 (by rfl) (by rfl), ?_⟩)
          | ((with_reducible show And _ _); refine ⟨Own.cell hO 1 (by rfl) (by rfl), ?_⟩)
          | ((with_reducible show Exists _); refine ⟨_, _, _, Own.cell hO 0 (by rfl) (by rfl), ?_⟩)
          | ((with_reducible show Exists _); refine ⟨_, _, _, Own.cell hO 1 (by rfl) (by rfl), ?_⟩)
          | ((with_reducible show And _ _); refine And.intro (And.intro (Own.cell hO 0 (by rfl) (by rfl)) ?_) ?_)
          | ((with_reducible show And _ _); refine And.intro (And.intro (Own.cell hO 1 (by rfl) (by rfl)) ?_) ?_)
          | ((with_reducible show @Eq (Option Value) _ _); exact Own.cell hO 0 (by rfl) (by rfl))
          | ((with_reducible show @Eq (Option Value) _ _); exact Own.cell hO 1 (by rfl) (by rfl))
          | ((with_reducible show Exists _); refine ⟨_, Own.old hO (by assumption) id, ?_⟩)
          | ((with_reducible show Exists _); refine ⟨_, _, _, Own.old hO (by assumption) id, ?_⟩)
          | ((with_reducible show And _ _); refine ⟨Own.old hO (by assumption) id, ?_⟩)
          | ((with_reducible show Exists _); refine ⟨_, Own.old hO (by assumption) (by assumption), ?_⟩)
          | ((with_reducible show Exists _); refine ⟨_, _, _, Own.old hO (by assumption) (by assumption), ?_⟩)
          | ((with_reducible show And _ _); refine ⟨Own.old hO (by assumption) (by assumption), ?_⟩)
          | fail
        refine (slAt hO).int (.refl _ _) hl (by omega) (by omega) fun ad n' hn' hcell => ⟨_, hcell, ?_⟩
        clear hO hcell
        have e : n' = n := by rw [hn] at hn'; cases hn'; rfl
        subst e
        refine CallsH.mono (pr_push2 pr n') ?_
        rintro _ h6 ⟨rfl, pr⟩
        exact ⟨rfl, _, by omega, kk + 1, _, wrap_nat hkl (by omega), hkl, rfl, pr⟩
      · exact ⟨held', pr⟩
    refine cond_split (fun hc => ?_) (fun hc => ?_)
    · repeat' first
        | ((with_reducible show VSome _ _); refine VSome.mk ?_)
        | ((with_reducible show Exists _); refine ⟨_, Own.cell hO 0 (by rfl) (by rfl), ?_⟩)
        | ((with_reducible show Exists _); refine ⟨_, Own.cell hO 1 (by rfl) (by rfl), ?_⟩)
        | ((with_reducible show And _ _); refine ⟨Own.cell hO 0 (by rfl) (by rfl), ?_⟩)
        | ((with_reducible show And _ _); refine ⟨Own.cell hO 1 (by rfl) (by rfl), ?_⟩)
        | ((with_reducible show Exists _); refine ⟨_, _, _, Own.cell hO 0 (by rfl) (by rfl), ?_⟩)
        | ((with_reducible show Exists _); refine ⟨_, _, _, Own.cell hO 1 (by rfl) (by rfl), ?_⟩)
        | ((with_reducible show And _ _); refine And.intro (And.intro (Own.cell hO 0 (by rfl) (by rfl)) ?_) ?_)
        | ((with_reducible show And _ _); refine And.intro (And.intro (Own.cell hO 1 (by rfl) (by rfl)) ?_) ?_)
        | ((with_reducible show @Eq (Option Value) _ _); exact Own.cell hO 0 (by rfl) (by rfl))
        | ((with_reducible show @Eq (Option Value) _ _); exact Own.cell hO 1 (by rfl) (by rfl))
        | ((with_reducible show Exists _); refine ⟨_, Own.old hO (by assumption) id, ?_⟩)
        | ((with_reducible show Exists _); refine ⟨_, _, _, Own.old hO (by assumption) id, ?_⟩)
        | ((with_reducible show And _ _); refine ⟨Own.old hO (by assumption) id, ?_⟩)
        | ((with_reducible show Exists _); refine ⟨_, Own.old hO (by assumption) (by assumption), ?_⟩)
        | ((with_reducible show Exists _); refine ⟨_, _, _, Own.old hO (by assumption) (by assumption), ?_⟩)
        | ((with_reducible show And _ _); refine ⟨Own.old hO (by assumption) (by assumption), ?_⟩)
        | fail
      clear hO k
      refine CallsH.mono (pr_pop1 pr) ?_
      rintro _ h5 ⟨rfl, pr⟩
      refine ⟨_, rfl, ?_⟩
      have hO := pr.own
      repeat' first
        | ((with_reducible show VSome _ _); refine VSome.mk ?_)
        | ((with_reducible show Exists _); refine ⟨_, Own.cell hO 0 (by rfl) (by rfl), ?_⟩)
        | ((with_reducible show Exists _); refine ⟨_, Own.cell hO 1 (by rfl) (by rfl), ?_⟩)
        | ((with_reducible show And _ _); refine ⟨Own.cell hO 0 (by rfl) (by rfl), ?_⟩)
        | ((with_reducible show And _ _); refine ⟨Own.cell hO 1 (by rfl) (by rfl), ?_⟩)
        | ((with_reducible show Exists _); refine ⟨_, _, _, Own.cell hO 0 (by rfl) (by rfl), ?_⟩)
        | ((with_reducible show Exists _); refine ⟨_, _, _, Own.cell hO 1 (by rfl) (by rfl), ?_⟩)
        | ((with_reducible show And _ _); refine And.intro (And.intro (Own.cell hO 0 (by rfl) (by rfl)) ?_) ?_)
        | ((with_reducible show And _ _); refine And.intro (And.intro (Own.cell hO 1 (by rfl) (by rfl)) ?_) ?_)
        | ((with_reducible show @Eq (Option Value) _ _); exact Own.cell hO 0 (by rfl) (by rfl))
        | ((with_reducible show @Eq (Option Value) _ _); exact Own.cell hO 1 (by rfl) (by rfl))
        | ((with_reducible show Exists _); refine ⟨_, Own.old hO (by assumption) id, ?_⟩)
        | ((with_reducible show Exists _); refine ⟨_, _, _, Own.old hO (by assumption) id, ?_⟩)
        | ((with_reducible show And _ _); refine ⟨Own.old hO (by assumption) id, ?_⟩)
        | ((with_reducible show Exists _); refine ⟨_, Own.old hO (by assumption) (by assumption), ?_⟩)
        | ((with_reducible show Exists _); refine ⟨_, _, _, Own.old hO (by assumption) (by assumption), ?_⟩)
        | ((with_reducible show And _ _); refine ⟨Own.old hO (by assumption) (by assumption), ?_⟩)
        | fail
      clear hO
      refine CallsH.mono (pr_pop2 pr) ?_
      rintro _ h6 ⟨rfl, pr⟩
      exact ⟨_, rfl, by simp, pr.after kH dHR⟩
    refine cond_split (fun hc => ?_) (fun hc => ?_)
    · repeat' first
        | ((with_reducible show VSome _ _); refine VSome.mk ?_)
        | ((with_reducible show Exists _); refine ⟨_, Own.cell hO 0 (by rfl) (by rfl), ?_⟩)
        | ((with_reducible show Exists _); refine ⟨_, Own.cell hO 1 (by rfl) (by rfl), ?_⟩)
        | ((with_reducible show And _ _); refine ⟨Own.cell hO 0 (by rfl) (by rfl), ?_⟩)
        | ((with_reducible show And _ _); refine ⟨Own.cell hO 1 (by rfl) (by rfl), ?_⟩)
        | ((with_reducible show Exists _); refine ⟨_, _, _, Own.cell hO 0 (by rfl) (by rfl), ?_⟩)
        | ((with_reducible show Exists _); refine ⟨_, _, _, Own.cell hO 1 (by rfl) (by rfl), ?_⟩)
        | ((with_reducible show And _ _); refine And.intro (And.intro (Own.cell hO 0 (by rfl) (by rfl)) ?_) ?_)
        | ((with_reducible show And _ _); refine And.intro (And.intro (Own.cell hO 1 (by rfl) (by rfl)) ?_) ?_)
        | ((with_reducible show @Eq (Option Value) _ _); exact Own.cell hO 0 (by rfl) (by rfl))
        | ((with_reducible show @Eq (Option Value) _ _); exact Own.cell hO 1 (by rfl) (by rfl))
        | ((with_reducible show Exists _); refine ⟨_, Own.old hO (by assumption) id, ?_⟩)
        | ((with_reducible show Exists _); refine ⟨_, _, _, Own.old hO (by assumption) id, ?_⟩)
        | ((with_reducible show And _ _); refine ⟨Own.old hO (by assumption) id, ?_⟩)
        | ((with_reducible show Exists _); refine ⟨_, Own.old hO (by assumption) (by assumption), ?_⟩)
        | ((with_reducible show Exists _); refine ⟨_, _, _, Own.old hO (by assumption) (by assumption), ?_⟩)
        | ((with_reducible show And _ _); refine ⟨Own.old hO (by assumption) (by assumption), ?_⟩)
        | fail
      clear hO k
      refine CallsH.mono (pr_acc1 pr) ?_
      rintro _ h5 ⟨rfl, pr⟩
      refine ⟨_, _, _, _, rfl, ?_⟩
      have hO := pr.own
      repeat' first
        | ((with_reducible show VSome _ _); refine VSome.mk ?_)
        | ((with_reducible show Exists _); refine ⟨_, Own.cell hO 0 (by rfl) (by rfl), ?_⟩)
        | ((with_reducible show Exists _); refine ⟨_, Own.cell hO 1 (by rfl) (by rfl), ?_⟩)
        | ((with_reducible show And _ _); refine ⟨Own.cell hO 0 (by rfl) (by rfl), ?_⟩)
        | ((with_reducible show And _ _); refine ⟨Own.cell hO 1 (by rfl) (by rfl), ?_⟩)
        | ((with_reducible show Exists _); refine ⟨_, _, _, Own.cell hO 0 (by rfl) (by rfl), ?_⟩)
        | ((with_reducible show Exists _); refine ⟨_, _, _, Own.cell hO 1 (by rfl) (by rfl), ?_⟩)
        | ((with_reducible show And _ _); refine And.intro (And.intro (Own.cell hO 0 (by rfl) (by rfl)) ?_) ?_)
        | ((with_reducible show And _ _); refine And.intro (And.intro (Own.cell hO 1 (by rfl) (by rfl)) ?_) ?_)
        | ((with_reducible show @Eq (Option Value) _ _); exact Own.cell hO 0 (by rfl) (by rfl))
        | ((with_reducible show @Eq (Option Value) _ _); exact Own.cell hO 1 (by rfl) (by rfl))
        | ((with_reducible show Exists _); refine ⟨_, Own.old hO (by assumption) id, ?_⟩)
        | ((with_reducible show Exists _); refine ⟨_, _, _, Own.old hO (by assumption) id, ?_⟩)
        | ((with_reducible show And _ _); refine ⟨Own.old hO (by assumption) id, ?_⟩)
        | ((with_reducible show Exists _); refine ⟨_, Own.old hO (by assumption) (by assumption), ?_⟩)
        | ((with_reducible show Exists _); refine ⟨_, _, _, Own.old hO (by assumption) (by assumption), ?_⟩)
        | ((with_reducible show And _ _); refine ⟨Own.old hO (by assumption) (by assumption), ?_⟩)
        | fail
      clear hO
      refine CallsH.mono (pr_acc2 pr) ?_
      rintro _ h6 ⟨rfl, pr⟩
      refine ⟨_, _, _, _, rfl, ?_⟩
      refine acc_eql (a := plainA held) (b := plainA held) ⟨_, rfl, ?_⟩
      exact ⟨by rw [eqA_self], pr.after kH dHR⟩
    · exact ⟨held, pr⟩
  · rintro h9 _ y ⟨held', pr⟩
    exact ⟨rfl, pr.after kH dHR⟩
end Go.Proofs.Ytcncagllbkohfaa.F
