/- Package agg: the stacks: top, known, push, lay, pop. Conditions: none. -/
import Derived.Test.YtcncagllbkohfaaA2
namespace Go.Proofs.Ytcncagllbkohfaa.F
open Go Go.VC Go.Proofs
set_option linter.unusedSimpArgs false
set_option linter.unusedVariables false
set_option maxRecDepth 100000
attribute [local irreducible] CallsH RunsTo

abbrev Ent := Int × Acc
def eC (e : Ent) : List Value := [.int .i64 e.1, .int .i64 e.2.c, .int .i64 e.2.s, .int .i64 e.2.lo, .int .i64 e.2.hi]
def Ent.v (e : Ent) : Value := .agg #[.int .i64 e.1, .int .i64 e.2.c, .int .i64 e.2.s, .int .i64 e.2.lo, .int .i64 e.2.hi]
def eCs (es : List Ent) : List Value := es.flatMap eC
def topS (es : List Ent) : Ent × Bool := match es.getLast? with | none => ((0, .z), false) | some e => (e, true)
def knownS (es : List Ent) : Acc := (topS es).1.2
theorem eC_len (e : Ent) : (eC e).length = 5 := rfl
theorem eCs_len (es : List Ent) : (eCs es).length = es.length * 5 := flatMap_len eC_len es

/-- A stack: the cell that holds its slice, in its block; its entries. -/
structure Stk (h : Heap) (b : Nat) (cs : Array Value) (t i : Nat) (a : Option Addr) (l c : Nat) (es : List Ent) : Prop where
  blk : Blk h b cs t
  cell : cs[i]? = some (.slice a l c)
  vec : Vec h 71 5 a l c (eCs es)
  apart : ob a ≠ some b
  lt : ∀ x, ob a = some x → x < h.size
theorem Stk.len {h : Heap} {b : Nat} {cs : Array Value} {t i : Nat} {a : Option Addr} {l c : Nat} {es : List Ent} (k : Stk h b cs t i a l c es) : es.length = l := by
  have := k.vec.len
  rw [eCs_len] at this
  omega
theorem Stk.mod {S : Nat → Prop} {h h' : Heap} {b : Nat} {cs : Array Value} {t i : Nat} {a : Option Addr} {l c : Nat} {es : List Ent} (k : Stk h b cs t i a l c es) (m : Mod S h h') (h1 : ¬ S b) (h2 : ∀ x, ob a = some x → ¬ S x) : Stk h' b cs t i a l c es :=
  ⟨k.blk.mod m h1, k.cell, k.vec.mod m h2, k.apart, fun x hx => Nat.lt_of_lt_of_le (k.lt x hx) m.size⟩
theorem Stk.ext {h h' : Heap} {b : Nat} {cs : Array Value} {t i : Nat} {a : Option Addr} {l c : Nat} {es : List Ent} (k : Stk h b cs t i a l c es) (m : Ext h h') : Stk h' b cs t i a l c es := k.mod m id fun _ _ => id
theorem Stk.c0 {h : Heap} {b : Nat} {cs : Array Value} {t i : Nat} {a : Option Addr} {l c : Nat} {es : List Ent} (k : Stk h b cs t i a l c es) : cellH h ⟨b, i, none⟩ = some (.slice a l c) := by
  rw [k.blk.cell]; exact k.cell

theorem top_spec {h : Heap} {b : Nat} {cs : Array Value} {t i : Nat} {a : Option Addr} {l c : Nat} {es : List Ent} (k : Stk h b cs t i a l c es) (hl : l < 1099511627776) :
    CallsH Try.prog 33 #[.pointer (some ⟨b, i, none⟩)] h (fun v h' => v = .tuple #[(topS es).1.v, .bool (topS es).2] ∧ Ext h h') := by
  refine vf33 _ h _ ?_
  unfold F33
  have hL := Lcl.start h
  have h0 := k.c0
  have hlen := k.len
  repeat' first
    | ((with_reducible show VNew _ _ _); refine Own.vnew ‹Own _ _ _ _› fun _ _ _ _ => ?_)
    | ((with_reducible show VSome _ _); refine VSome.mk ?_)
    | ((with_reducible show Exists _); refine ⟨_, Own.cell ‹Own _ _ _ _› 0 (by rfl) (by rfl), ?_⟩)
    | ((with_reducible show storeL _ _ _ _ _); refine Own.vstoreAll ‹Own _ _ _ _› 0 (by rfl) (by rfl) (by rfl) fun _ _ => ?_)
    | ((with_reducible show VStore _ _ _ _); refine Own.vstore ‹Own _ _ _ _› 0 (by rfl) (by simp) fun _ _ => ?_)
    | ((with_reducible show And _ _); refine ⟨Own.cell ‹Own _ _ _ _› 0 (by rfl) (by rfl), ?_⟩)
    | ((with_reducible show Exists _); refine ⟨_, _, _, Own.cell ‹Own _ _ _ _› 0 (by rfl) (by rfl), ?_⟩)
    | ((with_reducible show And _ _); refine And.intro (And.intro (Own.cell ‹Own _ _ _ _› 0 (by rfl) (by rfl)) ?_) ?_)
    | ((with_reducible show @Eq (Option Value) _ _); exact Own.cell ‹Own _ _ _ _› 0 (by rfl) (by rfl))
    | ((with_reducible show Exists _); refine ⟨_, Own.old ‹Own _ _ _ _› (by assumption) id, ?_⟩)
    | ((with_reducible show Exists _); refine ⟨_, _, _, Own.old ‹Own _ _ _ _› (by assumption) id, ?_⟩)
    | ((with_reducible show And _ _); refine ⟨Own.old ‹Own _ _ _ _› (by assumption) id, ?_⟩)
    | ((with_reducible show Exists _); refine ⟨_, Own.old ‹Own _ _ _ _› (by assumption) (by assumption), ?_⟩)
    | ((with_reducible show Exists _); refine ⟨_, _, _, Own.old ‹Own _ _ _ _› (by assumption) (by assumption), ?_⟩)
    | ((with_reducible show And _ _); refine ⟨Own.old ‹Own _ _ _ _› (by assumption) (by assumption), ?_⟩)
    | fail
  refine cond_split (fun hc => ?_) (fun hc => ?_)
  · have hn : es = [] := List.eq_nil_of_length_eq_zero (by rw [hlen]; simpa using hc)
    subst hn
    repeat' first
      | ((with_reducible show VNew _ _ _); refine Own.vnew ‹Own _ _ _ _› fun _ _ _ _ => ?_)
      | ((with_reducible show VSome _ _); refine VSome.mk ?_)
      | ((with_reducible show Exists _); refine ⟨_, Own.cell ‹Own _ _ _ _› 0 (by rfl) (by rfl), ?_⟩)
      | ((with_reducible show Exists _); refine ⟨_, Own.cell ‹Own _ _ _ _› 1 (by rfl) (by rfl), ?_⟩)
      | ((with_reducible show storeL _ _ _ _ _); refine Own.vstoreAll ‹Own _ _ _ _› 0 (by rfl) (by rfl) (by rfl) fun _ _ => ?_)
      | ((with_reducible show storeL _ _ _ _ _); refine Own.vstoreAll ‹Own _ _ _ _› 1 (by rfl) (by rfl) (by rfl) fun _ _ => ?_)
      | ((with_reducible show VStore _ _ _ _); refine Own.vstore ‹Own _ _ _ _› 0 (by rfl) (by simp) fun _ _ => ?_)
      | ((with_reducible show VStore _ _ _ _); refine Own.vstore ‹Own _ _ _ _› 1 (by rfl) (by simp) fun _ _ => ?_)
      | ((with_reducible show And _ _); refine ⟨Own.cell ‹Own _ _ _ _› 0 (by rfl) (by rfl), ?_⟩)
      | ((with_reducible show And _ _); refine ⟨Own.cell ‹Own _ _ _ _› 1 (by rfl) (by rfl), ?_⟩)
      | ((with_reducible show Exists _); refine ⟨_, _, _, Own.cell ‹Own _ _ _ _› 0 (by rfl) (by rfl), ?_⟩)
      | ((with_reducible show Exists _); refine ⟨_, _, _, Own.cell ‹Own _ _ _ _› 1 (by rfl) (by rfl), ?_⟩)
      | ((with_reducible show And _ _); refine And.intro (And.intro (Own.cell ‹Own _ _ _ _› 0 (by rfl) (by rfl)) ?_) ?_)
      | ((with_reducible show And _ _); refine And.intro (And.intro (Own.cell ‹Own _ _ _ _› 1 (by rfl) (by rfl)) ?_) ?_)
      | ((with_reducible show @Eq (Option Value) _ _); exact Own.cell ‹Own _ _ _ _› 0 (by rfl) (by rfl))
      | ((with_reducible show @Eq (Option Value) _ _); exact Own.cell ‹Own _ _ _ _› 1 (by rfl) (by rfl))
      | ((with_reducible show Exists _); refine ⟨_, Own.old ‹Own _ _ _ _› (by assumption) id, ?_⟩)
      | ((with_reducible show Exists _); refine ⟨_, _, _, Own.old ‹Own _ _ _ _› (by assumption) id, ?_⟩)
      | ((with_reducible show And _ _); refine ⟨Own.old ‹Own _ _ _ _› (by assumption) id, ?_⟩)
      | ((with_reducible show Exists _); refine ⟨_, Own.old ‹Own _ _ _ _› (by assumption) (by assumption), ?_⟩)
      | ((with_reducible show Exists _); refine ⟨_, _, _, Own.old ‹Own _ _ _ _› (by assumption) (by assumption), ?_⟩)
      | ((with_reducible show And _ _); refine ⟨Own.old ‹Own _ _ _ _› (by assumption) (by assumption), ?_⟩)
      | fail
    exact ⟨rfl, (‹Own _ _ _ _›).ext⟩
  · have hl0 : l ≠ 0 := by intro e; simp [e] at hc
    repeat' first
      | ((with_reducible show VNew _ _ _); refine Own.vnew ‹Own _ _ _ _› fun _ _ _ _ => ?_)
      | ((with_reducible show VSome _ _); refine VSome.mk ?_)
      | ((with_reducible show Exists _); refine ⟨_, Own.cell ‹Own _ _ _ _› 0 (by rfl) (by rfl), ?_⟩)
      | ((with_reducible show Exists _); refine ⟨_, Own.cell ‹Own _ _ _ _› 1 (by rfl) (by rfl), ?_⟩)
      | ((with_reducible show storeL _ _ _ _ _); refine Own.vstoreAll ‹Own _ _ _ _› 0 (by rfl) (by rfl) (by rfl) fun _ _ => ?_)
      | ((with_reducible show storeL _ _ _ _ _); refine Own.vstoreAll ‹Own _ _ _ _› 1 (by rfl) (by rfl) (by rfl) fun _ _ => ?_)
      | ((with_reducible show VStore _ _ _ _); refine Own.vstore ‹Own _ _ _ _› 0 (by rfl) (by simp) fun _ _ => ?_)
      | ((with_reducible show VStore _ _ _ _); refine Own.vstore ‹Own _ _ _ _› 1 (by rfl) (by simp) fun _ _ => ?_)
      | ((with_reducible show And _ _); refine ⟨Own.cell ‹Own _ _ _ _› 0 (by rfl) (by rfl), ?_⟩)
      | ((with_reducible show And _ _); refine ⟨Own.cell ‹Own _ _ _ _› 1 (by rfl) (by rfl), ?_⟩)
      | ((with_reducible show Exists _); refine ⟨_, _, _, Own.cell ‹Own _ _ _ _› 0 (by rfl) (by rfl), ?_⟩)
      | ((with_reducible show Exists _); refine ⟨_, _, _, Own.cell ‹Own _ _ _ _› 1 (by rfl) (by rfl), ?_⟩)
      | ((with_reducible show And _ _); refine And.intro (And.intro (Own.cell ‹Own _ _ _ _› 0 (by rfl) (by rfl)) ?_) ?_)
      | ((with_reducible show And _ _); refine And.intro (And.intro (Own.cell ‹Own _ _ _ _› 1 (by rfl) (by rfl)) ?_) ?_)
      | ((with_reducible show @Eq (Option Value) _ _); exact Own.cell ‹Own _ _ _ _› 0 (by rfl) (by rfl))
      | ((with_reducible show @Eq (Option Value) _ _); exact Own.cell ‹Own _ _ _ _› 1 (by rfl) (by rfl))
      | ((with_reducible show Exists _); refine ⟨_, Own.old ‹Own _ _ _ _› (by assumption) id, ?_⟩)
      | ((with_reducible show Exists _); refine ⟨_, _, _, Own.old ‹Own _ _ _ _› (by assumption) id, ?_⟩)
      | ((with_reducible show And _ _); refine ⟨Own.old ‹Own _ _ _ _› (by assumption) id, ?_⟩)
      | ((with_reducible show Exists _); refine ⟨_, Own.old ‹Own _ _ _ _› (by assumption) (by assumption), ?_⟩)
      | ((with_reducible show Exists _); refine ⟨_, _, _, Own.old ‹Own _ _ _ _› (by assumption) (by assumption), ?_⟩)
      | ((with_reducible show And _ _); refine ⟨Own.old ‹Own _ _ _ _› (by assumption) (by assumption), ?_⟩)
      | fail
    rw [wrap_id (by omega) (by omega)]
    obtain ⟨e, he⟩ : ∃ e, es[l - 1]? = some e := ⟨_, List.getElem?_eq_getElem (by omega)⟩
    refine (Own.sl ‹Own _ _ _ _› k.vec.sl).elem k.vec.len (by omega) (by omega) (by omega) fun ad _ hcell => ?_
    have hi : ((l : Int) - 1).toNat = l - 1 := by omega
    rw [hi] at hcell
    have get : ∀ r v, (eC e)[r]? = some v → _ := fun r v hr => hcell r v (flatMap_at eC_len he hr)
    refine ⟨_, get 0 _ rfl, _, get 1 _ rfl, _, get 2 _ rfl, _, get 3 _ rfl, _, get 4 _ rfl, ?_⟩
    repeat' first
      | ((with_reducible show VNew _ _ _); refine Own.vnew ‹Own _ _ _ _› fun _ _ _ _ => ?_)
      | ((with_reducible show VSome _ _); refine VSome.mk ?_)
      | ((with_reducible show Exists _); refine ⟨_, Own.cell ‹Own _ _ _ _› 0 (by rfl) (by rfl), ?_⟩)
      | ((with_reducible show storeL _ _ _ _ _); refine Own.vstoreAll ‹Own _ _ _ _› 0 (by rfl) (by rfl) (by rfl) fun _ _ => ?_)
      | ((with_reducible show VStore _ _ _ _); refine Own.vstore ‹Own _ _ _ _› 0 (by rfl) (by simp) fun _ _ => ?_)
      | ((with_reducible show And _ _); refine ⟨Own.cell ‹Own _ _ _ _› 0 (by rfl) (by rfl), ?_⟩)
      | ((with_reducible show Exists _); refine ⟨_, _, _, Own.cell ‹Own _ _ _ _› 0 (by rfl) (by rfl), ?_⟩)
      | ((with_reducible show And _ _); refine And.intro (And.intro (Own.cell ‹Own _ _ _ _› 0 (by rfl) (by rfl)) ?_) ?_)
      | ((with_reducible show @Eq (Option Value) _ _); exact Own.cell ‹Own _ _ _ _› 0 (by rfl) (by rfl))
      | ((with_reducible show Exists _); refine ⟨_, Own.old ‹Own _ _ _ _› (by assumption) id, ?_⟩)
      | ((with_reducible show Exists _); refine ⟨_, _, _, Own.old ‹Own _ _ _ _› (by assumption) id, ?_⟩)
      | ((with_reducible show And _ _); refine ⟨Own.old ‹Own _ _ _ _› (by assumption) id, ?_⟩)
      | ((with_reducible show Exists _); refine ⟨_, Own.old ‹Own _ _ _ _› (by assumption) (by assumption), ?_⟩)
      | ((with_reducible show Exists _); refine ⟨_, _, _, Own.old ‹Own _ _ _ _› (by assumption) (by assumption), ?_⟩)
      | ((with_reducible show And _ _); refine ⟨Own.old ‹Own _ _ _ _› (by assumption) (by assumption), ?_⟩)
      | fail
    refine ⟨?_, (‹Own _ _ _ _›).ext⟩
    have : es.getLast? = some e := by rw [List.getLast?_eq_getElem?, hlen, he]
    simp only [topS, this]
    rfl
theorem known_spec {h : Heap} {b : Nat} {cs : Array Value} {t i : Nat} {a : Option Addr} {l c : Nat} {es : List Ent} (k : Stk h b cs t i a l c es) (hl : l < 1099511627776) :
    CallsH Try.prog 30 #[.pointer (some ⟨b, i, none⟩)] h (fun v h' => v = (knownS es).v ∧ Ext h h') := by
  refine vf30 _ h _ ?_
  unfold F30
  have hL := Lcl.start h
  repeat' first
    | ((with_reducible show VNew _ _ _); refine Own.vnew ‹Own _ _ _ _› fun _ _ _ _ => ?_)
    | ((with_reducible show VSome _ _); refine VSome.mk ?_)
    | ((with_reducible show Exists _); refine ⟨_, Own.cell ‹Own _ _ _ _› 0 (by rfl) (by rfl), ?_⟩)
    | ((with_reducible show Exists _); refine ⟨_, Own.cell ‹Own _ _ _ _› 1 (by rfl) (by rfl), ?_⟩)
    | ((with_reducible show storeL _ _ _ _ _); refine Own.vstoreAll ‹Own _ _ _ _› 0 (by rfl) (by rfl) (by rfl) fun _ _ => ?_)
    | ((with_reducible show storeL _ _ _ _ _); refine Own.vstoreAll ‹Own _ _ _ _› 1 (by rfl) (by rfl) (by rfl) fun _ _ => ?_)
    | ((with_reducible show VStore _ _ _ _); refine Own.vstore ‹Own _ _ _ _› 0 (by rfl) (by simp) fun _ _ => ?_)
    | ((with_reducible show VStore _ _ _ _); refine Own.vstore ‹Own _ _ _ _› 1 (by rfl) (by simp) fun _ _ => ?_)
    | ((with_reducible show And _ _); refine ⟨Own.cell ‹Own _ _ _ _› 0 (by rfl) (by rfl), ?_⟩)
    | ((with_reducible show And _ _); refine ⟨Own.cell ‹Own _ _ _ _› 1 (by rfl) (by rfl), ?_⟩)
    | ((with_reducible show Exists _); refine ⟨_, _, _, Own.cell ‹Own _ _ _ _› 0 (by rfl) (by rfl), ?_⟩)
    | ((with_reducible show Exists _); refine ⟨_, _, _, Own.cell ‹Own _ _ _ _› 1 (by rfl) (by rfl), ?_⟩)
    | ((with_reducible show And _ _); refine And.intro (And.intro (Own.cell ‹Own _ _ _ _› 0 (by rfl) (by rfl)) ?_) ?_)
    | ((with_reducible show And _ _); refine And.intro (And.intro (Own.cell ‹Own _ _ _ _› 1 (by rfl) (by rfl)) ?_) ?_)
    | ((with_reducible show @Eq (Option Value) _ _); exact Own.cell ‹Own _ _ _ _› 0 (by rfl) (by rfl))
    | ((with_reducible show @Eq (Option Value) _ _); exact Own.cell ‹Own _ _ _ _› 1 (by rfl) (by rfl))
    | ((with_reducible show Exists _); refine ⟨_, Own.old ‹Own _ _ _ _› (by assumption) id, ?_⟩)
    | ((with_reducible show Exists _); refine ⟨_, _, _, Own.old ‹Own _ _ _ _› (by assumption) id, ?_⟩)
    | ((with_reducible show And _ _); refine ⟨Own.old ‹Own _ _ _ _› (by assumption) id, ?_⟩)
    | ((with_reducible show Exists _); refine ⟨_, Own.old ‹Own _ _ _ _› (by assumption) (by assumption), ?_⟩)
    | ((with_reducible show Exists _); refine ⟨_, _, _, Own.old ‹Own _ _ _ _› (by assumption) (by assumption), ?_⟩)
    | ((with_reducible show And _ _); refine ⟨Own.old ‹Own _ _ _ _› (by assumption) (by assumption), ?_⟩)
    | ((with_reducible show CallsH _ _ _ _ _); refine CallsH.mono (top_spec (k.ext (‹Own _ _ _ _›).ext) hl) ?_; rintro _ _ ⟨rfl, hm⟩; (first | refine ⟨rfl, ?_⟩ | refine ⟨_, rfl, ?_⟩ | refine ⟨_, _, rfl, ?_⟩ | refine ⟨_, _, _, _, rfl, ?_⟩ | refine ⟨_, _, _, _, _, rfl, ?_⟩ | refine ⟨_, _, _, _, _, _, rfl, ?_⟩); have hnx := Own.next ‹Own _ _ _ _› hm; clear hm)
    | fail
  exact ⟨rfl, (‹Own _ _ _ _›).ext⟩
end Go.Proofs.Ytcncagllbkohfaa.F
