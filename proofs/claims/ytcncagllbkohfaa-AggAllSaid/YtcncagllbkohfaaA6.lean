/- Package agg: the sliding row: Pop, Push. Conditions: none. -/
import Derived.Test.YtcncagllbkohfaaA5
namespace Go.Proofs.Ytcncagllbkohfaa.F
open Go Go.VC Go.Proofs
set_option linter.unusedSimpArgs false
set_option linter.unusedVariables false
set_option maxRecDepth 100000
attribute [local irreducible] CallsH RunsTo

theorem SldE.lt {S : Nat → Prop} {h : Heap} {b : Nat} {sz : Int} {x y : List Ent} (k : SldE h b sz x y S) : ∀ z, S z → z < h.size := by
  obtain ⟨a1, l1, c1, a2, l2, c2, k⟩ := k
  exact k.lt
theorem SldE.in0 {S : Nat → Prop} {h : Heap} {b : Nat} {sz : Int} {x y : List Ent} (k : SldE h b sz x y S) : S b := by
  obtain ⟨a1, l1, c1, a2, l2, c2, k⟩ := k
  exact k.in0
/-- An object with the blocks T, in a call that may write S and what is new, beside own blocks L. -/
structure In (S : Nat → Prop) (h : Heap) (T : Nat → Prop) (hh : Heap) (L : List (Nat × Array Value × Nat)) : Prop where
  own : Own S h hh L
  sub : ∀ z, T z → S z ∨ h.size ≤ z
  dis : ∀ x ∈ L, ¬ T x.1
theorem In.call {S : Nat → Prop} {h : Heap} {T : Nat → Prop} {hh h' : Heap} {L : List (Nat × Array Value × Nat)} (k : In S h T hh L) (m : Mod T hh h') : In S h (grow T hh h') h' L := by
  refine ⟨k.own.other m k.sub k.dis, ?_, fun x hx hz => ?_⟩
  · rintro z (hz | hz)
    · exact k.sub z hz
    · have := k.own.ext.size; right; omega
  · rcases hz with hz | hz
    · exact k.dis x hx hz
    · have := (k.own.blk x hx).lt; omega
theorem In.ext {S : Nat → Prop} {h : Heap} {T : Nat → Prop} {hh h' : Heap} {L : List (Nat × Array Value × Nat)} (k : In S h T hh L) (m : Ext hh h') : In S h T h' L := ⟨k.own.next m, k.sub, k.dis⟩
theorem In.vnew {S : Nat → Prop} {h : Heap} {T : Nat → Prop} {hh : Heap} {L : List (Nat × Array Value × Nat)} {cs : Array Value} {t : Nat} {K : Nat → Heap → Prop} (k : In S h T hh L) (hlt : ∀ z, T z → z < hh.size)
    (c : ∀ b h1, In S h T h1 ((b, cs, t) :: L) → Ext hh h1 → K b h1) : VNew hh (.cells cs t) K :=
  VNew.mk fun b h1 hb hB m _ => c b h1 ⟨k.own.alloc hb hB m, k.sub, fun x hx hz => by
    rcases List.mem_cons.1 hx with rfl | hx
    · have := hlt _ hz; simp only at this; omega
    · exact k.dis x hx hz⟩ m
theorem In.store {S : Nat → Prop} {h : Heap} {T : Nat → Prop} {hh : Heap} {L : List (Nat × Array Value × Nat)} (k : In S h T hh L) (n : Nat) {b t : Nat} {cs : Array Value} {vs : List Value} {K : Heap → Prop} (hn : L[n]? = some (b, cs, t))
    (hl : vs.length = cs.size) (hv : vs.all oneC = true) (c : ∀ h1, In S h T h1 (L.set n (b, vs.toArray, t)) → Mod (· = b) hh h1 → (∀ z, T z → ¬ z = b) → K h1) : storeL ⟨b, 0, none⟩ 0 vs hh K :=
  storeL.all (k.own.get n hn) hl (List.all_eq_true.1 hv) fun h1 hB m _ => c h1 ⟨k.own.change n hn hB m, k.sub, fun x hx hz => by
    rcases List.mem_or_eq_of_mem_set hx with hx | rfl
    · exact k.dis x hx hz
    · exact k.dis _ (List.mem_of_getElem? hn) hz⟩ m fun z hz e => k.dis _ (List.mem_of_getElem? hn) (e ▸ hz)
theorem In.weak {S : Nat → Prop} {h : Heap} {T : Nat → Prop} {hh : Heap} {L : List (Nat × Array Value × Nat)} (k : In S h T hh L) : In S h T hh [] := ⟨k.own.drop, k.sub, by simp⟩
theorem In.start {S : Nat → Prop} {h : Heap} : In S h S h [] := ⟨.start S h, fun _ => .inl, by simp⟩
theorem SldE.wide {S T : Nat → Prop} {h : Heap} {b : Nat} {sz : Int} {x y : List Ent} (k : SldE h b sz x y S) (hs : ∀ z, S z → T z) (hl : ∀ z, T z → z < h.size) : SldE h b sz x y T := by
  obtain ⟨a1, l1, c1, a2, l2, c2, k⟩ := k
  exact ⟨a1, l1, c1, a2, l2, c2, k.s1, k.s2, k.ne, hs _ k.in0, fun z hz => hs z (k.in1 z hz), fun z hz => hs z (k.in2 z hz), hl⟩
theorem In.left {S T : Nat → Prop} {h hh : Heap} {L : List (Nat × Array Value × Nat)} (k : In S h T hh L) {b : Nat} {sz : Int} {x y : List Ent} (ks : SldE hh b sz x y T) (hS : ∀ z, S z → z < h.size) : LeftS h b sz x y S hh := by
  refine ⟨ks.wide (fun z hz => ?_) ?_, k.own.ext⟩
  · rcases k.sub z hz with h1 | h1
    · exact .inl h1
    · exact .inr ⟨h1, ks.lt z hz⟩
  · rintro z (hz | hz)
    · exact Nat.lt_of_lt_of_le (hS z hz) k.own.ext.size
    · exact hz.2

def movedS (x y : List Ent) : List Ent := x.reverse.foldl (fun y e => layS y e.1) y
def atPop (x y : List Ent) : List Ent × List Ent := if y = [] then ([], movedS x y) else (x, y)
def popC (x y : List Ent) : Int := if (atPop x y).2 = [] then 3 else 0
theorem layS_len (y : List Ent) (n : Int) : (layS y n).length = y.length + 1 := by simp [layS]
theorem movedS_len : ∀ (x y : List Ent), (movedS x y).length = x.length + y.length := by
  intro x
  unfold movedS
  have e0 : x.length = x.reverse.length := by simp
  rw [e0]
  generalize x.reverse = r
  induction r with
  | nil => intro y; simp
  | cons e r ih => intro y; rw [List.foldl_cons, ih, layS_len, List.length_cons]; omega
theorem moved_step (X Y : List Ent) (e : Ent) : movedS X (layS Y e.1) = movedS (X ++ [e]) Y := by simp [movedS]
theorem topS_snoc (X : List Ent) (e : Ent) : topS (X ++ [e]) = (e, true) := by simp [topS]
theorem topS_nil : topS [] = ((0, .z), false) := rfl
theorem topS_cases (X : List Ent) : (X = [] ∧ (topS X).2 = false) ∨ ∃ X' e, X = X' ++ [e] ∧ topS X = (e, true) := by
  rcases List.eq_nil_or_concat X with rfl | ⟨X', e, rfl⟩
  · exact .inl ⟨rfl, rfl⟩
  · exact .inr ⟨X', e, by simp, by rw [List.concat_eq_append, topS_snoc]⟩
def eA (e : Ent) : Array Value := #[.int .i64 e.1, .int .i64 e.2.c, .int .i64 e.2.s, .int .i64 e.2.lo, .int .i64 e.2.hi]

theorem slpop_spec {S : Nat → Prop} {h : Heap} {b : Nat} {sz : Int} {x y : List Ent} (k : SldE h b sz x y S) (hl : x.length + y.length < 2147483648) :
    CallsH Try.prog 16 #[.pointer (some ⟨b, 0, none⟩)] h fun v h' => v = .int .i64 (popC x y) ∧ LeftS h b sz (atPop x y).1 (atPop x y).2.dropLast S h' := by
  refine vf16 _ h _ ?_
  unfold F16
  refine ⟨fun h' => LeftS h b sz (atPop x y).1 (atPop x y).2 S h', VSome.mk ?_, ?_⟩
  · obtain ⟨a1, l1, c1, a2, l2, c2, k0⟩ := id k
    refine ⟨_, _, _, k0.s2.c0, ?_⟩
    have hl2 := k0.s2.len
    refine cond_split (fun hc => ?_) (fun hc => ?_)
    · have hy : y = [] := List.eq_nil_of_length_eq_zero (by rw [hl2]; simpa using hc)
      have hat : atPop x y = ([], movedS x y) := by simp [atPop, hy]
      rw [hat]
      clear k0 hl2 hc
      refine VSome.mk ?_
      refine CallsH.mono (pop1 k (by omega)) ?_
      rintro _ h1 ⟨rfl, k1, m1⟩
      refine ⟨_, _, _, _, _, _, rfl, ?_⟩
      have i1 := In.start.call m1
      refine i1.vnew k1.lt fun b1 h2 i2 m2 => ?_
      have k2 := k1.ext m2
      refine i2.store 0 rfl rfl rfl fun h3 i3 m3 d3 => ?_
      have k3 := k2.mod m3 d3
      clear i1 i2 k1 k2 m2 m3 d3 m1
      refine ⟨fun n hh p ok => ∃ X Y bb T, p = some ⟨bb, 0, none⟩ ∧ ok = (topS X).2 ∧ n = X.length ∧ movedS X Y = movedS x y ∧ X.length + Y.length = x.length + y.length ∧ SldE hh b sz X.dropLast Y T ∧ In S h T hh [(bb, eA (topS X).1, 71)],
        ⟨_, x, y, b1, _, rfl, rfl, rfl, rfl, rfl, k3, i3⟩, ?_⟩
      rintro n hh _ p ok ⟨X, Y, bb, T, rfl, rfl, rfl, hm, hlen, kX, iX⟩
      clear i3 k3
      refine cond_split (fun hc => ?_) (fun hc => ?_)
      · rcases topS_cases X with ⟨rfl, h0⟩ | ⟨X', e, rfl, he⟩
        · rw [h0] at hc; cases hc
        rw [he] at iX
        simp only [List.dropLast_concat, List.length_append, List.length_cons, List.length_nil] at kX hlen ⊢
        refine VSome.mk (VSome.mk ⟨_, iX.own.cell 0 rfl rfl, ?_⟩)
        refine CallsH.mono (lay2 kX (by omega) e.1) ?_
        rintro _ h4 ⟨rfl, k4, m4⟩
        have i4 := iX.call m4
        refine ⟨rfl, VSome.mk ⟨_, i4.own.cell 0 rfl rfl, _, i4.own.cell 0 rfl rfl, _, i4.own.cell 0 rfl rfl, _, i4.own.cell 0 rfl rfl, _, i4.own.cell 0 rfl rfl, ?_⟩⟩
        refine i4.vnew k4.lt fun b5 h5 i5 m5 => ?_
        have k5 := k4.ext m5
        refine i5.store 0 rfl rfl rfl fun h6 i6 m6 d6 => VSome.mk ?_
        have k6 := k5.mod m6 d6
        refine CallsH.mono (pop1 k6 (by omega)) ?_
        rintro _ h7 ⟨rfl, k7, m7⟩
        have i7 := i6.call m7
        refine ⟨_, _, _, _, _, _, rfl, ?_⟩
        refine i7.store 0 rfl rfl rfl fun h8 i8 m8 d8 => ?_
        have k8 := k7.mod m8 d8
        refine ⟨X'.length, by omega, X', layS Y e.1, b5, _, rfl, rfl, rfl, (moved_step X' Y e).trans hm, by rw [layS_len]; omega, k8, ⟨i8.own.drop.1, ?_, ?_, ?_⟩, i8.sub, ?_⟩
        · intro z hz
          have hz' := List.mem_singleton.1 hz
          subst hz'
          exact i8.own.get 0 rfl
        · intro z hz
          have hz' := List.mem_singleton.1 hz
          subst hz'
          exact i8.own.new _ (List.mem_cons_self)
        · simp
        · intro z hz
          have hz' := List.mem_singleton.1 hz
          subst hz'
          exact i8.dis _ (List.mem_cons_self)
      · rcases topS_cases X with ⟨rfl, h0⟩ | ⟨X', e, rfl, he⟩
        · have hY : Y = movedS x y := hm
          rw [← hY]
          exact iX.left kX k.lt
        · rw [he] at hc; cases hc
    · have hy : y ≠ [] := by
        rintro rfl
        simp at hl2; simp [← hl2] at hc
      have hat : atPop x y = (x, y) := by simp [atPop, hy]
      rw [hat]
      exact In.start.left k k.lt
  · rintro h1 _ ⟨k1, m1⟩
    have i1 := In.start.call m1
    have hlen : (atPop x y).2.length < 2147483648 := by
      unfold atPop; split
      · show (movedS x y).length < _; rw [movedS_len]; exact hl
      · show y.length < _; omega
    refine VSome.mk ?_
    refine CallsH.mono (pop2 k1 (by omega)) ?_
    rintro _ h2 ⟨rfl, k2, m2⟩
    have i2 := i1.call m2
    refine ⟨_, _, _, _, _, _, rfl, ?_⟩
    refine i2.vnew k2.lt fun b3 h3 i3 m3 => ?_
    have k3 := k2.ext m3
    refine i3.store 0 rfl rfl rfl fun h4 i4 m4 d4 => ?_
    have k4 := k3.mod m4 d4
    refine cond_split (fun hc => ?_) (fun hc => ?_)
    · refine ⟨?_, i4.left k4 k.lt⟩
      rcases topS_cases (atPop x y).2 with ⟨h0, _⟩ | ⟨X', e, h0, he⟩
      · simp [popC, h0]
      · rw [he] at hc; cases hc
    · refine ⟨?_, i4.left k4 k.lt⟩
      rcases topS_cases (atPop x y).2 with ⟨h0, h1⟩ | ⟨X', e, h0, he⟩
      · rw [h1] at hc; cases hc
      · simp [popC, h0]
end Go.Proofs.Ytcncagllbkohfaa.F
