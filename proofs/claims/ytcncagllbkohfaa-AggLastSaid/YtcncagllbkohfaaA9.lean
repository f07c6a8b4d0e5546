/- Package agg: Push; the sliding row told by what it holds; plain; begun. Conditions: none. -/
import Derived.Test.YtcncagllbkohfaaA8
namespace Go.Proofs.Ytcncagllbkohfaa.F
open Go Go.VC Go.Proofs
set_option linter.unusedSimpArgs false
set_option linter.unusedVariables false
set_option maxRecDepth 100000
attribute [local irreducible] CallsH RunsTo PureTo

def pushS (sz : Int) (x y : List Ent) (n : Int) : List Ent × List Ent :=
  if ((x.length : Int) + y.length) = sz then (layS (atPop x y).1 n, (atPop x y).2.dropLast) else (layS x n, y)
theorem slpush_spec {S : Nat → Prop} {h : Heap} {b : Nat} {sz : Int} {x y : List Ent} (k : SldE h b sz x y S) (hl : x.length + y.length < 2147483648) (n : Int) :
    CallsH Try.prog 15 #[.pointer (some ⟨b, 0, none⟩), .int .i64 n] h fun v h' => v = .tuple #[] ∧ LeftS h b sz (pushS sz x y n).1 (pushS sz x y n).2 S h' := by
  refine vf15 _ _ h _ ?_
  unfold F15
  have hat : (atPop x y).1.length < 2147483648 := by
    unfold atPop; split
    · show 0 < _; omega
    · show x.length < _; omega
  refine ⟨fun h' => LeftS h b sz (if ((x.length : Int) + y.length) = sz then (atPop x y).1 else x) (if ((x.length : Int) + y.length) = sz then (atPop x y).2.dropLast else y) S h', VSome.mk ?_, ?_⟩
  · obtain ⟨a1, l1, c1, a2, l2, c2, k0⟩ := id k
    have e1 := k0.s1.len
    have e2 := k0.s2.len
    refine ⟨_, _, _, k0.s1.c0, VSome.mk ⟨_, _, _, k0.s2.c0, VSome.mk ⟨sz, ?_, ?_⟩⟩⟩
    · rw [k0.s1.blk.cell]; rfl
    rw [wrap_id (by omega) (by omega), ← e1, ← e2]
    refine cond_split (fun hc => ?_) (fun hc => ?_)
    · have hc' : (x.length : Int) + y.length = sz := by simpa using hc
      rw [if_pos hc', if_pos hc']
      refine CallsH.mono (slpop_spec k hl) ?_
      rintro _ h1 ⟨rfl, k1⟩
      exact ⟨_, rfl, k1⟩
    · have hc' : ¬ ((x.length : Int) + y.length = sz) := by simpa using hc
      rw [if_neg hc', if_neg hc']
      exact In.start.left k k.lt
  · rintro h1 _ ⟨k1, m1⟩
    refine VSome.mk ?_
    refine CallsH.mono (lay1 k1 (by split <;> omega) n) ?_
    rintro _ h2 ⟨rfl, k2, m2⟩
    refine ⟨rfl, rfl, ?_⟩
    have := (In.start.call m1).call m2 |>.left k2 k.lt
    unfold pushS
    split
    · rename_i hc; rw [if_pos hc, if_pos hc] at this; exact this
    · rename_i hc; rw [if_neg hc, if_neg hc] at this; exact this

/-- A sliding row that holds these numbers; its blocks are of S. -/
def SL (h : Heap) (b : Nat) (sz : Int) (held : List Int) (S : Nat → Prop) : Prop := ∃ x y, SldE h b sz x y S ∧ Win x y held ∧ newP sz ∧ (held.length : Int) ≤ sz
def SLeft (h : Heap) (b : Nat) (sz : Int) (held : List Int) (S : Nat → Prop) (h' : Heap) : Prop := SL h' b sz held (grow S h h') ∧ Mod S h h'
theorem SL.mod {S T : Nat → Prop} {h h' : Heap} {b : Nat} {sz : Int} {held : List Int} (k : SL h b sz held S) (m : Mod T h h') (hd : ∀ z, S z → ¬ T z) : SL h' b sz held S := by
  obtain ⟨x, y, k, w⟩ := k
  exact ⟨x, y, k.mod m hd, w⟩
theorem SL.ext {S : Nat → Prop} {h h' : Heap} {b : Nat} {sz : Int} {held : List Int} (k : SL h b sz held S) (m : Ext h h') : SL h' b sz held S := k.mod m fun _ _ => id
theorem SL.lt {S : Nat → Prop} {h : Heap} {b : Nat} {sz : Int} {held : List Int} (k : SL h b sz held S) : ∀ z, S z → z < h.size := by
  obtain ⟨x, y, k, w⟩ := k
  exact k.lt
def pushH (sz : Int) (held : List Int) (n : Int) : List Int := if (held.length : Int) = sz then held.tail ++ [n] else held ++ [n]
theorem sl_push {S : Nat → Prop} {h : Heap} {b : Nat} {sz : Int} {held : List Int} (k : SL h b sz held S) (n : Int) :
    CallsH Try.prog 15 #[.pointer (some ⟨b, 0, none⟩), .int .i64 n] h fun v h' => v = .tuple #[] ∧ SLeft h b sz (pushH sz held n) S h' := by
  obtain ⟨x, y, k, w, hn, hl⟩ := k
  have hlen := w.len
  have h4 := hn.2
  have hn1 := hn.1
  refine CallsH.mono (slpush_spec k (by omega) n) ?_
  rintro _ h1 ⟨rfl, k1, m1⟩
  refine ⟨rfl, ⟨_, _, k1, ?_, hn, ?_⟩, m1⟩
  · unfold pushS pushH
    by_cases hc : (x.length : Int) + y.length = sz
    · rw [if_pos hc, if_pos (by omega)]
      have := (w.pop (by omega)).1
      exact this.push (by have e0 := List.length_tail (l := held); omega) n
    · rw [if_neg hc, if_neg (by omega)]
      exact w.push (by omega) n
  · unfold pushH
    split
    · rw [List.length_append, List.length_tail]; simp only [List.length_cons, List.length_nil]; omega
    · rw [List.length_append]; simp only [List.length_cons, List.length_nil]; omega
theorem sl_pop {S : Nat → Prop} {h : Heap} {b : Nat} {sz : Int} {held : List Int} (k : SL h b sz held S) :
    CallsH Try.prog 16 #[.pointer (some ⟨b, 0, none⟩)] h fun v h' => v = .int .i64 (if held = [] then 3 else 0) ∧ SLeft h b sz held.tail S h' := by
  obtain ⟨x, y, k, w, hn, hl⟩ := k
  have hlen := w.len
  have h4 := hn.2
  refine CallsH.mono (slpop_spec k (by omega)) ?_
  rintro _ h1 ⟨rfl, k1, m1⟩
  have hp := w.pop (by omega)
  exact ⟨by rw [hp.2], ⟨_, _, k1, hp.1, hn, by rw [List.length_tail]; omega⟩, m1⟩
theorem sl_acc {S : Nat → Prop} {h : Heap} {b : Nat} {sz : Int} {held : List Int} (k : SL h b sz held S) :
    CallsH Try.prog 17 #[.pointer (some ⟨b, 0, none⟩)] h fun v h' => v = (plainA held).v ∧ Ext h h' := by
  obtain ⟨x, y, k, w, hn, hl⟩ := k
  have hlen := w.len
  have h4 := hn.2
  refine CallsH.mono (acc_spec k (by omega) (by omega)) ?_
  rintro _ h1 ⟨rfl, m1⟩
  exact ⟨by rw [w.acc (by omega)], m1⟩
theorem sl_new (sz : Int) (h : Heap) : CallsH Try.prog 14 #[.int .i64 sz] h fun v h' =>
    (¬ newP sz ∧ v = .tuple #[.pointer none, .int .i64 1] ∧ h' = h) ∨
    (newP sz ∧ ∃ b, v = .tuple #[.pointer (some ⟨b, 0, none⟩), .int .i64 0] ∧ SL h' b sz [] (fun z => z = b) ∧ Ext h h' ∧ h.size ≤ b) := by
  refine CallsH.mono (new_spec sz h) ?_
  rintro v h' (k | ⟨hn, b, e, k, m, hb⟩)
  · exact .inl k
  · exact .inr ⟨hn, b, e, ⟨[], [], k, .nil, hn, by have := hn.1; show (0 : Int) ≤ sz; omega⟩, m, hb⟩

theorem plainA_snoc (ns : List Int) (n : Int) (h : ns.length < 35184372088831) : plainA (ns ++ [n]) = ⟨w64 ((plainA ns).c + 1), w64 ((plainA ns).s + n), if ns = [] ∨ n < (plainA ns).lo then n else (plainA ns).lo, if ns = [] ∨ n > (plainA ns).hi then n else (plainA ns).hi⟩ := by
  rw [← plainA_join ns [n] (by simp only [List.length_cons, List.length_nil]; omega)]
  have e1 : plainA [n] = ⟨1, w64 n, n, n⟩ := by simp [plainA, minF, maxF, minI, maxI]
  cases ns with
  | nil =>
    rw [e1]
    simp [joinS, plainA, noneB, Acc.z]
    decide
  | cons m ms =>
    have h1 := plainA_some (ns := m :: ms) (by simp) (by omega)
    have h2 : noneB (plainA [n]) = false := plainA_some (by simp) (by simp)
    unfold joinS
    rw [h1, h2, e1]
    simp only [Bool.false_eq_true, if_false, w64_add', reduceCtorEq, false_or]
    rfl
theorem plain_spec (ns : List Int) (p : Option Addr) (l c : Nat) (h : Heap) (hs : Sl h p (ints ns)) (hl : ns.length = l) (hb : l < 35184372088832) :
    CallsH Try.prog 10 #[.slice p l c] h (fun v h' => v = (plainA ns).v ∧ Ext h h') := by
  refine vf10 _ _ _ h _ ?_
  unfold F10
  have hL := Lcl.start h
  refine hL.vnew fun b1 h1 _ hL1 => hL1.vnew fun b3 h2 _ hL2 => ?_
  clear hL hL1
  refine ⟨fun n hh i => ∃ k : Nat, i = k ∧ k ≤ l ∧ n = l - k ∧ Lcl h hh [(b3, #[.int .i64 (plainA (ns.take k)).c, .int .i64 (plainA (ns.take k)).s, .int .i64 (plainA (ns.take k)).lo, .int .i64 (plainA (ns.take k)).hi], 39), (b1, #[.int .i64 0, .int .i64 0, .int .i64 0, .int .i64 0], 39)],
    ⟨_, 0, rfl, by omega, rfl, hL2⟩, ?_⟩
  rintro n hh _ i ⟨k, rfl, hk, rfl, hL5⟩
  clear hL2
  refine cond_split (fun hc => ?_) (fun hc => ?_)
  · have hkl : k < l := by simpa using hc
    refine hs.int hL5.ext hl (by omega) (by omega) fun ad n hn hcell => ?_
    simp only [Int.toNat_natCast] at hn
    have hst : ns.take (k + 1) = ns.take k ++ [n] := by rw [List.take_add_one, hn]; rfl
    have e1 := plainA_snoc (ns.take k) n (by rw [List.length_take]; omega)
    rw [← hst] at e1
    have h0 : (ns.take k = []) ↔ k = 0 := by
      constructor
      · intro e
        have := congrArg List.length e
        rw [List.length_take] at this; simp only [List.length_nil] at this; omega
      · rintro rfl; rfl
    refine ⟨_, hcell, fun h' => Lcl h h' [(b3, #[.int .i64 (plainA (ns.take k)).c, .int .i64 (plainA (ns.take k)).s, .int .i64 (plainA (ns.take (k + 1))).lo, .int .i64 (plainA (ns.take k)).hi], 39), (b1, #[.int .i64 0, .int .i64 0, .int .i64 0, .int .i64 0], 39)], ?_, ?_⟩
    · rw [e1]
      refine cond_split (fun hc => ?_) (fun hc => ?_)
      · have hk0 : k = 0 := by simpa using hc
        show VStore _ _ _ _
        repeat' first
          | ((with_reducible show VNew _ _ _); refine Own.vnew ‹Own _ _ _ _› fun _ _ _ _ => ?_)
          | ((with_reducible show VSome _ _); refine VSome.mk ?_)
          | ((with_reducible show Exists _); refine ⟨_, Own.cell ‹Own _ _ _ _› 0 (by rfl) (by rfl), ?_⟩)
          | ((with_reducible show Exists _); refine ⟨_, Own.cell ‹Own _ _ _ _› 1 (by rfl) (by rfl), ?_⟩)
          | ((with_reducible show storeL _ _ _ _ _); refine Own.vstoreAll ‹Own _ _ _ _› 0 (by rfl) (by rfl) (by rfl) fun _ _ => ?_)
          | ((with_reducible show storeL _ _ _ _ _); refine Own.vstoreAll ‹Own _ _ _ _› 1 (by rfl) (by rfl) (by rfl) fun _ _ => ?_)
          | ((with_reducible show VStore _ _ _ _); refine Own.vstore ‹Own _ _ _ _› 0 (by rfl) (by simp) fun _ _ => ?_)
          | ((with_reducible show VStore _ _ _ _); refine Own.vstore ‹Own _ _ _ _› 1 (by rfl) (by simp) fun _ _ => ?_)
          | ((with_reducible show And _ _); refine ⟨Own.cell ‹Own _ _ _ _› 0 (by rfl) (by rfl), ?_⟩)
          | ((with_reducible show And _ _); refine ⟨Own.cell ‹Own _ _ _ _› 1 (by rfl) (by rfl), ?_⟩)
          | ((with_reducible show Exists _); refine ⟨_, _, _, Own.cell ‹Own _ _ _ _› 0 (by rfl) (by rfl), ?_⟩)
          | ((with_reducible show Exists _); refine ⟨_, _, _, Own.cell ‹Own _ _ _ _› 1 (by rfl) (by rfl), ?_⟩)
          | ((with_reducible show And _ _); refine And.intro (And.intro (Own.cell ‹Own _ _ _ _› 0 (by rfl) (by rfl)) ?_) ?_)
          | ((with_reducible show And _ _); refine And.intro (And.intro (Own.cell ‹Own _ _ _ _› 1 (by rfl) (by rfl)) ?_) ?_)
          | ((with_reducible show @Eq (Option Value) _ _); exact Own.cell ‹Own _ _ _ _› 0 (by rfl) (by rfl))
          | ((with_reducible show @Eq (Option Value) _ _); exact Own.cell ‹Own _ _ _ _› 1 (by rfl) (by rfl))
          | ((with_reducible show Exists _); refine ⟨_, Own.old ‹Own _ _ _ _› (by assumption) id, ?_⟩)
          | ((with_reducible show Exists _); refine ⟨_, _, _, Own.old ‹Own _ _ _ _› (by assumption) id, ?_⟩)
          | ((with_reducible show And _ _); refine ⟨Own.old ‹Own _ _ _ _› (by assumption) id, ?_⟩)
          | ((with_reducible show Exists _); refine ⟨_, Own.old ‹Own _ _ _ _› (by assumption) (by assumption), ?_⟩)
          | ((with_reducible show Exists _); refine ⟨_, _, _, Own.old ‹Own _ _ _ _› (by assumption) (by assumption), ?_⟩)
          | ((with_reducible show And _ _); refine ⟨Own.old ‹Own _ _ _ _› (by assumption) (by assumption), ?_⟩)
          | fail
        simp only [if_pos (Or.inl (h0.2 hk0) : ns.take k = [] ∨ _)]
        exact ‹Own _ _ _ _›
      · have hk0 : ¬ k = 0 := by simpa using hc
        repeat' first
          | ((with_reducible show VNew _ _ _); refine Own.vnew ‹Own _ _ _ _› fun _ _ _ _ => ?_)
          | ((with_reducible show VSome _ _); refine VSome.mk ?_)
          | ((with_reducible show Exists _); refine ⟨_, Own.cell ‹Own _ _ _ _› 0 (by rfl) (by rfl), ?_⟩)
          | ((with_reducible show Exists _); refine ⟨_, Own.cell ‹Own _ _ _ _› 1 (by rfl) (by rfl), ?_⟩)
          | ((with_reducible show storeL _ _ _ _ _); refine Own.vstoreAll ‹Own _ _ _ _› 0 (by rfl) (by rfl) (by rfl) fun _ _ => ?_)
          | ((with_reducible show storeL _ _ _ _ _); refine Own.vstoreAll ‹Own _ _ _ _› 1 (by rfl) (by rfl) (by rfl) fun _ _ => ?_)
          | ((with_reducible show VStore _ _ _ _); refine Own.vstore ‹Own _ _ _ _› 0 (by rfl) (by simp) fun _ _ => ?_)
          | ((with_reducible show VStore _ _ _ _); refine Own.vstore ‹Own _ _ _ _› 1 (by rfl) (by simp) fun _ _ => ?_)
          | ((with_reducible show And _ _); refine ⟨Own.cell ‹Own _ _ _ _› 0 (by rfl) (by rfl), ?_⟩)
          | ((with_reducible show And _ _); refine ⟨Own.cell ‹Own _ _ _ _› 1 (by rfl) (by rfl), ?_⟩)
          | ((with_reducible show Exists _); refine ⟨_, _, _, Own.cell ‹Own _ _ _ _› 0 (by rfl) (by rfl), ?_⟩)
          | ((with_reducible show Exists _); refine ⟨_, _, _, Own.cell ‹Own _ _ _ _› 1 (by rfl) (by rfl), ?_⟩)
          | ((with_reducible show And _ _); refine And.intro (And.intro (Own.cell ‹Own _ _ _ _› 0 (by rfl) (by rfl)) ?_) ?_)
          | ((with_reducible show And _ _); refine And.intro (And.intro (Own.cell ‹Own _ _ _ _› 1 (by rfl) (by rfl)) ?_) ?_)
          | ((with_reducible show @Eq (Option Value) _ _); exact Own.cell ‹Own _ _ _ _› 0 (by rfl) (by rfl))
          | ((with_reducible show @Eq (Option Value) _ _); exact Own.cell ‹Own _ _ _ _› 1 (by rfl) (by rfl))
          | ((with_reducible show Exists _); refine ⟨_, Own.old ‹Own _ _ _ _› (by assumption) id, ?_⟩)
          | ((with_reducible show Exists _); refine ⟨_, _, _, Own.old ‹Own _ _ _ _› (by assumption) id, ?_⟩)
          | ((with_reducible show And _ _); refine ⟨Own.old ‹Own _ _ _ _› (by assumption) id, ?_⟩)
          | ((with_reducible show Exists _); refine ⟨_, Own.old ‹Own _ _ _ _› (by assumption) (by assumption), ?_⟩)
          | ((with_reducible show Exists _); refine ⟨_, _, _, Own.old ‹Own _ _ _ _› (by assumption) (by assumption), ?_⟩)
          | ((with_reducible show And _ _); refine ⟨Own.old ‹Own _ _ _ _› (by assumption) (by assumption), ?_⟩)
          | fail
        refine cond_split (fun hd => ?_) (fun hd => ?_)
        · have hd' : n < (plainA (ns.take k)).lo := by simpa using hd
          repeat' first
            | ((with_reducible show VNew _ _ _); refine Own.vnew ‹Own _ _ _ _› fun _ _ _ _ => ?_)
            | ((with_reducible show VSome _ _); refine VSome.mk ?_)
            | ((with_reducible show Exists _); refine ⟨_, Own.cell ‹Own _ _ _ _› 0 (by rfl) (by rfl), ?_⟩)
            | ((with_reducible show Exists _); refine ⟨_, Own.cell ‹Own _ _ _ _› 1 (by rfl) (by rfl), ?_⟩)
            | ((with_reducible show storeL _ _ _ _ _); refine Own.vstoreAll ‹Own _ _ _ _› 0 (by rfl) (by rfl) (by rfl) fun _ _ => ?_)
            | ((with_reducible show storeL _ _ _ _ _); refine Own.vstoreAll ‹Own _ _ _ _› 1 (by rfl) (by rfl) (by rfl) fun _ _ => ?_)
            | ((with_reducible show VStore _ _ _ _); refine Own.vstore ‹Own _ _ _ _› 0 (by rfl) (by simp) fun _ _ => ?_)
            | ((with_reducible show VStore _ _ _ _); refine Own.vstore ‹Own _ _ _ _› 1 (by rfl) (by simp) fun _ _ => ?_)
            | ((with_reducible show And _ _); refine ⟨Own.cell ‹Own _ _ _ _› 0 (by rfl) (by rfl), ?_⟩)
            | ((with_reducible show And _ _); refine ⟨Own.cell ‹Own _ _ _ _› 1 (by rfl) (by rfl), ?_⟩)
            | ((with_reducible show Exists _); refine ⟨_, _, _, Own.cell ‹Own _ _ _ _› 0 (by rfl) (by rfl), ?_⟩)
            | ((with_reducible show Exists _); refine ⟨_, _, _, Own.cell ‹Own _ _ _ _› 1 (by rfl) (by rfl), ?_⟩)
            | ((with_reducible show And _ _); refine And.intro (And.intro (Own.cell ‹Own _ _ _ _› 0 (by rfl) (by rfl)) ?_) ?_)
            | ((with_reducible show And _ _); refine And.intro (And.intro (Own.cell ‹Own _ _ _ _› 1 (by rfl) (by rfl)) ?_) ?_)
            | ((with_reducible show @Eq (Option Value) _ _); exact Own.cell ‹Own _ _ _ _› 0 (by rfl) (by rfl))
            | ((with_reducible show @Eq (Option Value) _ _); exact Own.cell ‹Own _ _ _ _› 1 (by rfl) (by rfl))
            | ((with_reducible show Exists _); refine ⟨_, Own.old ‹Own _ _ _ _› (by assumption) id, ?_⟩)
            | ((with_reducible show Exists _); refine ⟨_, _, _, Own.old ‹Own _ _ _ _› (by assumption) id, ?_⟩)
            | ((with_reducible show And _ _); refine ⟨Own.old ‹Own _ _ _ _› (by assumption) id, ?_⟩)
            | ((with_reducible show Exists _); refine ⟨_, Own.old ‹Own _ _ _ _› (by assumption) (by assumption), ?_⟩)
            | ((with_reducible show Exists _); refine ⟨_, _, _, Own.old ‹Own _ _ _ _› (by assumption) (by assumption), ?_⟩)
            | ((with_reducible show And _ _); refine ⟨Own.old ‹Own _ _ _ _› (by assumption) (by assumption), ?_⟩)
            | fail
          simp only [if_pos (Or.inr hd' : ns.take k = [] ∨ _)]
          exact ‹Own _ _ _ _›
        · have hd' : ¬ n < (plainA (ns.take k)).lo := by simpa using hd
          simp only [if_neg (fun e => e.elim (fun e => hk0 (h0.1 e)) hd' : ¬ (ns.take k = [] ∨ _))]
          exact ‹Own _ _ _ _›
    · intro h6 _ hL6
      clear hL5
      refine ⟨fun h' => Lcl h h' [(b3, #[.int .i64 (plainA (ns.take k)).c, .int .i64 (plainA (ns.take k)).s, .int .i64 (plainA (ns.take (k + 1))).lo, .int .i64 (plainA (ns.take (k + 1))).hi], 39), (b1, #[.int .i64 0, .int .i64 0, .int .i64 0, .int .i64 0], 39)], ?_, ?_⟩
      · refine cond_split (fun hc => ?_) (fun hc => ?_)
        · have hk0 : k = 0 := by simpa using hc
          repeat' first
            | ((with_reducible show VNew _ _ _); refine Own.vnew ‹Own _ _ _ _› fun _ _ _ _ => ?_)
            | ((with_reducible show VSome _ _); refine VSome.mk ?_)
            | ((with_reducible show Exists _); refine ⟨_, Own.cell ‹Own _ _ _ _› 0 (by rfl) (by rfl), ?_⟩)
            | ((with_reducible show Exists _); refine ⟨_, Own.cell ‹Own _ _ _ _› 1 (by rfl) (by rfl), ?_⟩)
            | ((with_reducible show storeL _ _ _ _ _); refine Own.vstoreAll ‹Own _ _ _ _› 0 (by rfl) (by rfl) (by rfl) fun _ _ => ?_)
            | ((with_reducible show storeL _ _ _ _ _); refine Own.vstoreAll ‹Own _ _ _ _› 1 (by rfl) (by rfl) (by rfl) fun _ _ => ?_)
            | ((with_reducible show VStore _ _ _ _); refine Own.vstore ‹Own _ _ _ _› 0 (by rfl) (by simp) fun _ _ => ?_)
            | ((with_reducible show VStore _ _ _ _); refine Own.vstore ‹Own _ _ _ _› 1 (by rfl) (by simp) fun _ _ => ?_)
            | ((with_reducible show And _ _); refine ⟨Own.cell ‹Own _ _ _ _› 0 (by rfl) (by rfl), ?_⟩)
            | ((with_reducible show And _ _); refine ⟨Own.cell ‹Own _ _ _ _› 1 (by rfl) (by rfl), ?_⟩)
            | ((with_reducible show Exists _); refine ⟨_, _, _, Own.cell ‹Own _ _ _ _› 0 (by rfl) (by rfl), ?_⟩)
            | ((with_reducible show Exists _); refine ⟨_, _, _, Own.cell ‹Own _ _ _ _› 1 (by rfl) (by rfl), ?_⟩)
            | ((with_reducible show And _ _); refine And.intro (And.intro (Own.cell ‹Own _ _ _ _› 0 (by rfl) (by rfl)) ?_) ?_)
            | ((with_reducible show And _ _); refine And.intro (And.intro (Own.cell ‹Own _ _ _ _› 1 (by rfl) (by rfl)) ?_) ?_)
            | ((with_reducible show @Eq (Option Value) _ _); exact Own.cell ‹Own _ _ _ _› 0 (by rfl) (by rfl))
            | ((with_reducible show @Eq (Option Value) _ _); exact Own.cell ‹Own _ _ _ _› 1 (by rfl) (by rfl))
            | ((with_reducible show Exists _); refine ⟨_, Own.old ‹Own _ _ _ _› (by assumption) id, ?_⟩)
            | ((with_reducible show Exists _); refine ⟨_, _, _, Own.old ‹Own _ _ _ _› (by assumption) id, ?_⟩)
            | ((with_reducible show And _ _); refine ⟨Own.old ‹Own _ _ _ _› (by assumption) id, ?_⟩)
            | ((with_reducible show Exists _); refine ⟨_, Own.old ‹Own _ _ _ _› (by assumption) (by assumption), ?_⟩)
            | ((with_reducible show Exists _); refine ⟨_, _, _, Own.old ‹Own _ _ _ _› (by assumption) (by assumption), ?_⟩)
            | ((with_reducible show And _ _); refine ⟨Own.old ‹Own _ _ _ _› (by assumption) (by assumption), ?_⟩)
            | fail
          have : (plainA (ns.take (k + 1))).hi = n := by rw [e1]; simp only [if_pos (Or.inl (h0.2 hk0) : ns.take k = [] ∨ _)]
          rw [this]
          exact ‹Own _ _ _ _›
        · have hk0 : ¬ k = 0 := by simpa using hc
          repeat' first
            | ((with_reducible show VNew _ _ _); refine Own.vnew ‹Own _ _ _ _› fun _ _ _ _ => ?_)
            | ((with_reducible show VSome _ _); refine VSome.mk ?_)
            | ((with_reducible show Exists _); refine ⟨_, Own.cell ‹Own _ _ _ _› 0 (by rfl) (by rfl), ?_⟩)
            | ((with_reducible show Exists _); refine ⟨_, Own.cell ‹Own _ _ _ _› 1 (by rfl) (by rfl), ?_⟩)
            | ((with_reducible show storeL _ _ _ _ _); refine Own.vstoreAll ‹Own _ _ _ _› 0 (by rfl) (by rfl) (by rfl) fun _ _ => ?_)
            | ((with_reducible show storeL _ _ _ _ _); refine Own.vstoreAll ‹Own _ _ _ _› 1 (by rfl) (by rfl) (by rfl) fun _ _ => ?_)
            | ((with_reducible show VStore _ _ _ _); refine Own.vstore ‹Own _ _ _ _› 0 (by rfl) (by simp) fun _ _ => ?_)
            | ((with_reducible show VStore _ _ _ _); refine Own.vstore ‹Own _ _ _ _› 1 (by rfl) (by simp) fun _ _ => ?_)
            | ((with_reducible show And _ _); refine ⟨Own.cell ‹Own _ _ _ _› 0 (by rfl) (by rfl), ?_⟩)
            | ((with_reducible show And _ _); refine ⟨Own.cell ‹Own _ _ _ _› 1 (by rfl) (by rfl), ?_⟩)
            | ((with_reducible show Exists _); refine ⟨_, _, _, Own.cell ‹Own _ _ _ _› 0 (by rfl) (by rfl), ?_⟩)
            | ((with_reducible show Exists _); refine ⟨_, _, _, Own.cell ‹Own _ _ _ _› 1 (by rfl) (by rfl), ?_⟩)
            | ((with_reducible show And _ _); refine And.intro (And.intro (Own.cell ‹Own _ _ _ _› 0 (by rfl) (by rfl)) ?_) ?_)
            | ((with_reducible show And _ _); refine And.intro (And.intro (Own.cell ‹Own _ _ _ _› 1 (by rfl) (by rfl)) ?_) ?_)
            | ((with_reducible show @Eq (Option Value) _ _); exact Own.cell ‹Own _ _ _ _› 0 (by rfl) (by rfl))
            | ((with_reducible show @Eq (Option Value) _ _); exact Own.cell ‹Own _ _ _ _› 1 (by rfl) (by rfl))
            | ((with_reducible show Exists _); refine ⟨_, Own.old ‹Own _ _ _ _› (by assumption) id, ?_⟩)
            | ((with_reducible show Exists _); refine ⟨_, _, _, Own.old ‹Own _ _ _ _› (by assumption) id, ?_⟩)
            | ((with_reducible show And _ _); refine ⟨Own.old ‹Own _ _ _ _› (by assumption) id, ?_⟩)
            | ((with_reducible show Exists _); refine ⟨_, Own.old ‹Own _ _ _ _› (by assumption) (by assumption), ?_⟩)
            | ((with_reducible show Exists _); refine ⟨_, _, _, Own.old ‹Own _ _ _ _› (by assumption) (by assumption), ?_⟩)
            | ((with_reducible show And _ _); refine ⟨Own.old ‹Own _ _ _ _› (by assumption) (by assumption), ?_⟩)
            | fail
          refine cond_split (fun hd => ?_) (fun hd => ?_)
          · have hd' : n > (plainA (ns.take k)).hi := by simpa using hd
            repeat' first
              | ((with_reducible show VNew _ _ _); refine Own.vnew ‹Own _ _ _ _› fun _ _ _ _ => ?_)
              | ((with_reducible show VSome _ _); refine VSome.mk ?_)
              | ((with_reducible show Exists _); refine ⟨_, Own.cell ‹Own _ _ _ _› 0 (by rfl) (by rfl), ?_⟩)
              | ((with_reducible show Exists _); refine ⟨_, Own.cell ‹Own _ _ _ _› 1 (by rfl) (by rfl), ?_⟩)
              | ((with_reducible show storeL _ _ _ _ _); refine Own.vstoreAll ‹Own _ _ _ _› 0 (by rfl) (by rfl) (by rfl) fun _ _ => ?_)
              | ((with_reducible show storeL _ _ _ _ _); refine Own.vstoreAll ‹Own _ _ _ _› 1 (by rfl) (by rfl) (by rfl) fun _ _ => ?_)
              | ((with_reducible show VStore _ _ _ _); refine Own.vstore ‹Own _ _ _ _› 0 (by rfl) (by simp) fun _ _ => ?_)
              | ((with_reducible show VStore _ _ _ _); refine Own.vstore ‹Own _ _ _ _› 1 (by rfl) (by simp) fun _ _ => ?_)
              | ((with_reducible show And _ _); refine ⟨Own.cell ‹Own _ _ _ _› 0 (by rfl) (by rfl), ?_⟩)
              | ((with_reducible show And _ _); refine ⟨Own.cell ‹Own _ _ _ _› 1 (by rfl) (by rfl), ?_⟩)
              | ((with_reducible show Exists _); refine ⟨_, _, _, Own.cell ‹Own _ _ _ _› 0 (by rfl) (by rfl), ?_⟩)
              | ((with_reducible show Exists _); refine ⟨_, _, _, Own.cell ‹Own _ _ _ _› 1 (by rfl) (by rfl), ?_⟩)
              | ((with_reducible show And _ _); refine And.intro (And.intro (Own.cell ‹Own _ _ _ _› 0 (by rfl) (by rfl)) ?_) ?_)
              | ((with_reducible show And _ _); refine And.intro (And.intro (Own.cell ‹Own _ _ _ _› 1 (by rfl) (by rfl)) ?_) ?_)
              | ((with_reducible show @Eq (Option Value) _ _); exact Own.cell ‹Own _ _ _ _› 0 (by rfl) (by rfl))
              | ((with_reducible show @Eq (Option Value) _ _); exact Own.cell ‹Own _ _ _ _› 1 (by rfl) (by rfl))
              | ((with_reducible show Exists _); refine ⟨_, Own.old ‹Own _ _ _ _› (by assumption) id, ?_⟩)
              | ((with_reducible show Exists _); refine ⟨_, _, _, Own.old ‹Own _ _ _ _› (by assumption) id, ?_⟩)
              | ((with_reducible show And _ _); refine ⟨Own.old ‹Own _ _ _ _› (by assumption) id, ?_⟩)
              | ((with_reducible show Exists _); refine ⟨_, Own.old ‹Own _ _ _ _› (by assumption) (by assumption), ?_⟩)
              | ((with_reducible show Exists _); refine ⟨_, _, _, Own.old ‹Own _ _ _ _› (by assumption) (by assumption), ?_⟩)
              | ((with_reducible show And _ _); refine ⟨Own.old ‹Own _ _ _ _› (by assumption) (by assumption), ?_⟩)
              | fail
            have : (plainA (ns.take (k + 1))).hi = n := by rw [e1]; simp only [if_pos (Or.inr hd' : ns.take k = [] ∨ _)]
            rw [this]
            exact ‹Own _ _ _ _›
          · have hd' : ¬ n > (plainA (ns.take k)).hi := by simpa using hd
            have : (plainA (ns.take (k + 1))).hi = (plainA (ns.take k)).hi := by rw [e1]; simp only [if_neg (fun e => e.elim (fun e => hk0 (h0.1 e)) hd' : ¬ (ns.take k = [] ∨ _))]
            rw [this]
            exact ‹Own _ _ _ _›
      · intro h7 _ hL7
        clear hL6
        repeat' first
          | ((with_reducible show VNew _ _ _); refine Own.vnew ‹Own _ _ _ _› fun _ _ _ _ => ?_)
          | ((with_reducible show VSome _ _); refine VSome.mk ?_)
          | ((with_reducible show Exists _); refine ⟨_, Own.cell ‹Own _ _ _ _› 0 (by rfl) (by rfl), ?_⟩)
          | ((with_reducible show Exists _); refine ⟨_, Own.cell ‹Own _ _ _ _› 1 (by rfl) (by rfl), ?_⟩)
          | ((with_reducible show storeL _ _ _ _ _); refine Own.vstoreAll ‹Own _ _ _ _› 0 (by rfl) (by rfl) (by rfl) fun _ _ => ?_)
          | ((with_reducible show storeL _ _ _ _ _); refine Own.vstoreAll ‹Own _ _ _ _› 1 (by rfl) (by rfl) (by rfl) fun _ _ => ?_)
          | ((with_reducible show VStore _ _ _ _); refine Own.vstore ‹Own _ _ _ _› 0 (by rfl) (by simp) fun _ _ => ?_)
          | ((with_reducible show VStore _ _ _ _); refine Own.vstore ‹Own _ _ _ _› 1 (by rfl) (by simp) fun _ _ => ?_)
          | ((with_reducible show And _ _); refine ⟨Own.cell ‹Own _ _ _ _› 0 (by rfl) (by rfl), ?_⟩)
          | ((with_reducible show And _ _); refine ⟨Own.cell ‹Own _ _ _ _› 1 (by rfl) (by rfl), ?_⟩)
          | ((with_reducible show Exists _); refine ⟨_, _, _, Own.cell ‹Own _ _ _ _› 0 (by rfl) (by rfl), ?_⟩)
          | ((with_reducible show Exists _); refine ⟨_, _, _, Own.cell ‹Own _ _ _ _› 1 (by rfl) (by rfl), ?_⟩)
          | ((with_reducible show And _ _); refine And.intro (And.intro (Own.cell ‹Own _ _ _ _› 0 (by rfl) (by rfl)) ?_) ?_)
          | ((with_reducible show And _ _); refine And.intro (And.intro (Own.cell ‹Own _ _ _ _› 1 (by rfl) (by rfl)) ?_) ?_)
          | ((with_reducible show @Eq (Option Value) _ _); exact Own.cell ‹Own _ _ _ _› 0 (by rfl) (by rfl))
          | ((with_reducible show @Eq (Option Value) _ _); exact Own.cell ‹Own _ _ _ _› 1 (by rfl) (by rfl))
          | ((with_reducible show Exists _); refine ⟨_, Own.old ‹Own _ _ _ _› (by assumption) id, ?_⟩)
          | ((with_reducible show Exists _); refine ⟨_, _, _, Own.old ‹Own _ _ _ _› (by assumption) id, ?_⟩)
          | ((with_reducible show And _ _); refine ⟨Own.old ‹Own _ _ _ _› (by assumption) id, ?_⟩)
          | ((with_reducible show Exists _); refine ⟨_, Own.old ‹Own _ _ _ _› (by assumption) (by assumption), ?_⟩)
          | ((with_reducible show Exists _); refine ⟨_, _, _, Own.old ‹Own _ _ _ _› (by assumption) (by assumption), ?_⟩)
          | ((with_reducible show And _ _); refine ⟨Own.old ‹Own _ _ _ _› (by assumption) (by assumption), ?_⟩)
          | fail
        refine ⟨_, ?_, k + 1, wrap_nat hkl (by omega), hkl, rfl, ?_⟩
        · omega
        · have ec : (plainA (ns.take (k + 1))).c = w64 ((plainA (ns.take k)).c + 1) := by rw [e1]
          have es : (plainA (ns.take (k + 1))).s = w64 ((plainA (ns.take k)).s + n) := by rw [e1]
          rw [ec, es]
          exact ‹Own _ _ _ _›
  · have hkl : k = l := by
      have : ¬ k < l := by simpa using hc
      omega
    subst hkl
    have ht : ns.take k = ns := List.take_of_length_le (by omega)
    rw [ht] at hL5
    repeat' first
      | ((with_reducible show VNew _ _ _); refine Own.vnew ‹Own _ _ _ _› fun _ _ _ _ => ?_)
      | ((with_reducible show VSome _ _); refine VSome.mk ?_)
      | ((with_reducible show Exists _); refine ⟨_, Own.cell ‹Own _ _ _ _› 0 (by rfl) (by rfl), ?_⟩)
      | ((with_reducible show Exists _); refine ⟨_, Own.cell ‹Own _ _ _ _› 1 (by rfl) (by rfl), ?_⟩)
      | ((with_reducible show storeL _ _ _ _ _); refine Own.vstoreAll ‹Own _ _ _ _› 0 (by rfl) (by rfl) (by rfl) fun _ _ => ?_)
      | ((with_reducible show storeL _ _ _ _ _); refine Own.vstoreAll ‹Own _ _ _ _› 1 (by rfl) (by rfl) (by rfl) fun _ _ => ?_)
      | ((with_reducible show VStore _ _ _ _); refine Own.vstore ‹Own _ _ _ _› 0 (by rfl) (by simp) fun _ _ => ?_)
      | ((with_reducible show VStore _ _ _ _); refine Own.vstore ‹Own _ _ _ _› 1 (by rfl) (by simp) fun _ _ => ?_)
      | ((with_reducible show And _ _); refine ⟨Own.cell ‹Own _ _ _ _› 0 (by rfl) (by rfl), ?_⟩)
      | ((with_reducible show And _ _); refine ⟨Own.cell ‹Own _ _ _ _› 1 (by rfl) (by rfl), ?_⟩)
      | ((with_reducible show Exists _); refine ⟨_, _, _, Own.cell ‹Own _ _ _ _› 0 (by rfl) (by rfl), ?_⟩)
      | ((with_reducible show Exists _); refine ⟨_, _, _, Own.cell ‹Own _ _ _ _› 1 (by rfl) (by rfl), ?_⟩)
      | ((with_reducible show And _ _); refine And.intro (And.intro (Own.cell ‹Own _ _ _ _› 0 (by rfl) (by rfl)) ?_) ?_)
      | ((with_reducible show And _ _); refine And.intro (And.intro (Own.cell ‹Own _ _ _ _› 1 (by rfl) (by rfl)) ?_) ?_)
      | ((with_reducible show @Eq (Option Value) _ _); exact Own.cell ‹Own _ _ _ _› 0 (by rfl) (by rfl))
      | ((with_reducible show @Eq (Option Value) _ _); exact Own.cell ‹Own _ _ _ _› 1 (by rfl) (by rfl))
      | ((with_reducible show Exists _); refine ⟨_, Own.old ‹Own _ _ _ _› (by assumption) id, ?_⟩)
      | ((with_reducible show Exists _); refine ⟨_, _, _, Own.old ‹Own _ _ _ _› (by assumption) id, ?_⟩)
      | ((with_reducible show And _ _); refine ⟨Own.old ‹Own _ _ _ _› (by assumption) id, ?_⟩)
      | ((with_reducible show Exists _); refine ⟨_, Own.old ‹Own _ _ _ _› (by assumption) (by assumption), ?_⟩)
      | ((with_reducible show Exists _); refine ⟨_, _, _, Own.old ‹Own _ _ _ _› (by assumption) (by assumption), ?_⟩)
      | ((with_reducible show And _ _); refine ⟨Own.old ‹Own _ _ _ _› (by assumption) (by assumption), ?_⟩)
      | fail
    exact ⟨rfl, (‹Own _ _ _ _›).ext⟩
end Go.Proofs.Ytcncagllbkohfaa.F
