/- Separation: slices that share their memory, all of one pattern. Conditions: none. -/
import Derived.Test.YtofaihacmoacjaaDoorS2
namespace Go.VC
open Go
set_option linter.unusedSimpArgs false
set_option linter.unusedVariables false

variable {S F G : Nat → Prop} {h0 h h1 : Heap} {L R L' : List A} {a : Option Addr} {vs : List Value} {e sz l c m : Nat}
/-- Memory that is filled by a pattern, so far. -/
structure Bf (τ : Type) where
  t : τ
  a : Option Addr
  m : Nat
  c : Nat
variable {τ : Type}
def patV (f : τ → Nat → Value) (t : τ) (m : Nat) : List Value := (List.range m).map (f t)
theorem patV_len (f : τ → Nat → Value) (t : τ) (m : Nat) : (patV f t m).length = m := by simp [patV]
theorem patV_get (f : τ → Nat → Value) (t : τ) {m i : Nat} (h : i < m) : (patV f t m)[i]? = some (f t i) := by simp [patV, h]
theorem patV_take (f : τ → Nat → Value) (t : τ) {m n : Nat} (h : n ≤ m) : (patV f t m).take n = patV f t n := by
  unfold patV
  rw [← List.map_take, List.take_range, Nat.min_eq_left h]
theorem patV_next (f : τ → Nat → Value) (t : τ) (m : Nat) : patV f t m ++ [f t m] = patV f t (m + 1) := by simp [patV, List.range_succ]
def bfA (e : Nat) (f : τ → Nat → Value) (x : Bf τ) : A := A.vec e 1 x.a x.m x.c (patV f x.t x.m)
def Bfs (e : Nat) (f : τ → Nat → Value) (xs : List (Bf τ)) : A := A.all (xs.map (bfA e f))
def Cov (xs ys : List (Bf τ)) : Prop := ∀ x ∈ xs, ∃ y ∈ ys, y.t = x.t ∧ y.a = x.a ∧ y.c = x.c ∧ x.m ≤ y.m
theorem Cov.refl (xs : List (Bf τ)) : Cov xs xs := fun x hx => ⟨x, hx, rfl, rfl, rfl, Nat.le_refl _⟩
theorem Cov.trans {xs ys zs : List (Bf τ)} (k : Cov xs ys) (q : Cov ys zs) : Cov xs zs := fun x hx => by
  obtain ⟨y, hy, e1, e2, e3, e4⟩ := k x hx
  obtain ⟨z, hz, f1, f2, f3, f4⟩ := q y hy
  exact ⟨z, hz, f1.trans e1, f2.trans e2, f3.trans e3, Nat.le_trans e4 f4⟩
theorem Cov.cons (x : Bf τ) (xs : List (Bf τ)) : Cov xs (x :: xs) := fun y hy => ⟨y, List.mem_cons_of_mem _ hy, rfl, rfl, rfl, Nat.le_refl _⟩
/-- A slice of such memory. -/
def On (xs : List (Bf τ)) (t : τ) (a : Option Addr) (l c : Nat) : Prop := ∃ x ∈ xs, x.t = t ∧ x.a = a ∧ x.c = c ∧ l ≤ x.m
theorem On.cov {xs ys : List (Bf τ)} {t : τ} (k : On xs t a l c) (q : Cov xs ys) : On ys t a l c := by
  obtain ⟨x, hx, rfl, rfl, rfl, h⟩ := k
  obtain ⟨y, hy, e1, e2, e3, e4⟩ := q x hx
  exact ⟨y, hy, e1, e2, e3, Nat.le_trans h e4⟩
theorem Bfs.sl {f : τ → Nat → Value} {xs : List (Bf τ)} {t : τ} (k : St S h0 h (Bfs e f xs :: R)) (on : On xs t a l c) : Sl h a (patV f t l) ∧ l ≤ c ∧ c < 9223372036854775808 := by
  obtain ⟨x, hx, rfl, rfl, rfl, hl⟩ := on
  obtain ⟨F, hh, hf⟩ := k.own
  obtain ⟨F1, F2, k1, _⟩ := hh
  obtain ⟨F', k', _⟩ := Holds.get (show Holds (xs.map (bfA e f)) F1 h from k1) (List.mem_map_of_mem hx)
  have hv : Vec h e 1 x.a x.m x.c (patV f x.t x.m) := k'.1
  refine ⟨?_, Nat.le_trans hl hv.le, k'.2.2.2⟩
  have := (hv.sl.ro.take l).sl
  rwa [patV_take f x.t hl] at this
/-- One more element behind a slice of memory that goes on with it, or ends there. -/
theorem St.bufApp {P : Program} {t tx ty bt : Nat} {z : Value} (T : SlTy P t e 1 bt z) {d : TypeDesc} (htx : P.underlying tx = some d) (hd : ∀ k, d ≠ .int k) {x : Value} {v : Value} (k : St S h0 h (A.vec e 1 a m c vs :: R)) (src : Src P 1 h x 1 [v]) (hone : oneC v = true)
    {ll : Nat} (hl : ll ≤ m) (hv : ll < m → vs[ll]? = some v) (hbytes : (ll + 1) * bt ≤ 140737488355328) {K : KV}
    (q1 : ∀ h', ll < c → St S h0 h' (A.vec e 1 a (max m (ll + 1)) c (if ll < m then vs else vs ++ [v]) :: R) → K (.slice a (ll + 1) c) h')
    (q2 : ∀ a' c' h', ll + 1 ≤ c' → St S h0 h' (A.vec e 1 a' (ll + 1) c' (vs.take ll ++ [v]) :: A.vec e 1 a m c vs :: R) → K (.slice a' (ll + 1) c') h') :
    RunsTo P (Builtin.append_ #[t, tx] ty #[.slice a ll c, x]) h K := by
  obtain ⟨F, G, k1, k2, dd, hf, back⟩ := k.frame1
  obtain ⟨kV, kF, hs, hc⟩ := k1
  cases hi' : P.info? e with
  | none => have := T.inf; rw [hi'] at this; cases this
  | some i =>
    have hi := T.inf
    rw [hi'] at hi
    simp only [Option.map_some, Option.some.injEq, Prod.mk.injEq] at hi
    obtain ⟨e1, e2, rfl⟩ := hi
    have hle := kV.le
    have hlen : vs.length = m := by have := kV.len; omega
    have src : Src P i.size h x 1 [v] := by rw [e2]; exact src
    refine append_runs T.ut htx hd hi' e1 T.b0 src (by simpa using hone) (a := a) (l := ll) (c := c) (olds := vs.take ll) (kV.sl.ro.take ll).sl (by rw [List.length_take, e2]; omega) (by omega) (.inl hbytes) ?_ ?_ ?_
    · intro hfit _
      rcases kV.room with h0 | ⟨g, o, cur, rfl, hB, hsz⟩
      · omega
      · refine ⟨g, o, cur, rfl, hB, by rw [e2]; omega, fun h' hB' mo s => ?_⟩
        rw [e2] at hB'
        refine q1 h' (by omega) (back (L' := [_]) ⟨mo.mono fun b hb => .inl (by subst hb; exact (kF _).2 ⟨by omega, rfl⟩), _, A.vec_mk (c := c) ⟨?_, by omega, hB'.sl o fun j w hj => ?_, .inr ⟨g, o, _, rfl, hB', by rw [putAt_size]; exact hsz⟩⟩ hs hc fun _ => Iff.rfl, ?_⟩)
        · split
          · rw [hlen]; omega
          · rw [List.length_append, hlen]; simp; omega
        · rw [putAt_get [v] cur (o + ll * 1) (o + j) (by simp; omega)]
          simp only [List.length_singleton]
          by_cases hjl : j = ll
          · subst hjl
            rw [if_pos (by omega), show o + j - (o + j * 1) = 0 by omega]
            have : some v = some w := by
              split at hj
              · rename_i h2
                rw [hv h2] at hj; exact hj
              · rw [List.getElem?_append_right (by omega), hlen, show j - m = 0 by omega] at hj
                exact hj
            rw [← this]; rfl
          · rw [if_neg (by omega)]
            have hj' : vs[j]? = some w := by
              split at hj
              · exact hj
              · by_cases h3 : j < vs.length
                · rwa [List.getElem?_append_left h3] at hj
                · rw [List.getElem?_append_right (by omega)] at hj
                  have := (List.getElem?_eq_some_iff.1 hj).1
                  simp at this; omega
            exact kV.at hB j w hj'
        · rintro b ⟨h1, h2⟩
          exact .inl ((kF b).2 ⟨h1, h2⟩)
    · intro _ hnil
      cases hnil
    · intro hg c' h' hc' hcb hB mo s
      refine q2 _ c' h' hc' (k.add (L' := [_]) ⟨mo, _, A.vec_mk (c := c') ⟨?_, hc', hB.sl 0 fun j w hj => ?_, .inr ⟨h.size, 0, _, rfl, hB, ?_⟩⟩ hs hcb fun _ => Iff.rfl, ?_⟩)
      · rw [List.length_append, List.length_take, hlen]; simp; omega
      · rw [Nat.zero_add]
        have hj1 := (List.getElem?_eq_some_iff.1 hj).1
        rw [Array.getElem?_append_left (by simpa using hj1)]
        simpa using hj
      · simp only [Array.size_append, List.size_toArray, List.length_take, hlen, List.length_singleton, Builtin.zeroCells, Array.size_map, Array.size_range, T.zs]
        omega
      · rintro b ⟨_, hb⟩
        simp [ob] at hb; subst hb; exact .inr (Nat.le_refl _)
theorem Bfs.app {P : Program} {t tx ty bt : Nat} {z : Value} (T : SlTy P t e 1 bt z) {d : TypeDesc} (htx : P.underlying tx = some d) (hd : ∀ k, d ≠ .int k) {x : Value} {f : τ → Nat → Value} {xs : List (Bf τ)} {tg : τ} {ll : Nat} (k : St S h0 h (Bfs e f xs :: R)) (on : On xs tg a ll c) (src : Src P 1 h x 1 [f tg ll]) (hone : oneC (f tg ll) = true)
    (hbytes : (ll + 1) * bt ≤ 140737488355328) {K : KV}
    (q : ∀ xs' a' c' h', Cov xs xs' → On xs' tg a' (ll + 1) c' → St S h0 h' (Bfs e f xs' :: R) → K (.slice a' (ll + 1) c') h') :
    RunsTo P (Builtin.append_ #[t, tx] ty #[.slice a ll c, x]) h K := by
  obtain ⟨y, hy, rfl, rfl, rfl, hl⟩ := on
  obtain ⟨s1, s2, rfl⟩ := List.append_of_mem hy
  have k : St S h0 h (A.vec e 1 y.a y.m y.c (patV f y.t y.m) :: A.all ((s1 ++ s2).map (bfA e f)) :: R) :=
    (St.allPerm k (L' := (y :: (s1 ++ s2)).map (bfA e f)) (List.perm_middle.map _)).allOut
  refine k.bufApp T htx hd src hone hl (fun h => patV_get f y.t h) hbytes (fun h' hc k => ?_) fun a' c' h' hc k => ?_
  · refine q ({ y with m := max y.m (ll + 1) } :: (s1 ++ s2)) _ _ h' (fun x hx => ?_) ⟨_, List.mem_cons_self, rfl, rfl, rfl, Nat.le_max_right _ _⟩ ?_
    · rcases List.mem_append.1 hx with h1 | h1
      · exact ⟨x, List.mem_cons_of_mem _ (List.mem_append_left _ h1), rfl, rfl, rfl, Nat.le_refl _⟩
      · rcases List.mem_cons.1 h1 with rfl | h1
        · exact ⟨_, List.mem_cons_self, rfl, rfl, rfl, Nat.le_max_left _ _⟩
        · exact ⟨x, List.mem_cons_of_mem _ (List.mem_append_right _ h1), rfl, rfl, rfl, Nat.le_refl _⟩
    · have e1 : (if ll < y.m then patV f y.t y.m else patV f y.t y.m ++ [f y.t ll]) = patV f y.t (max y.m (ll + 1)) := by
        split
        · rw [Nat.max_eq_left (by omega)]
        · have : ll = y.m := by omega
          subst this
          rw [patV_next, Nat.max_eq_right (by omega)]
      rw [e1] at k
      exact k.allIn
  · refine q (⟨y.t, a', ll + 1, c'⟩ :: y :: (s1 ++ s2)) _ _ h' (fun x hx => ?_) ⟨_, List.mem_cons_self, rfl, rfl, rfl, Nat.le_refl _⟩ ?_
    · refine ⟨x, ?_, rfl, rfl, rfl, Nat.le_refl _⟩
      rcases List.mem_append.1 hx with h1 | h1
      · exact List.mem_cons_of_mem _ (List.mem_cons_of_mem _ (List.mem_append_left _ h1))
      · rcases List.mem_cons.1 h1 with rfl | h1
        · exact List.mem_cons_of_mem _ List.mem_cons_self
        · exact List.mem_cons_of_mem _ (List.mem_cons_of_mem _ (List.mem_append_right _ h1))
    · rw [patV_take f y.t hl, patV_next] at k
      exact St.allIn (x := bfA e f ⟨y.t, a', ll + 1, c'⟩) (L := (y :: (s1 ++ s2)).map (bfA e f)) (St.allIn (x := bfA e f y) (L := (s1 ++ s2).map (bfA e f)) (k.pull1.pull2.pull1) |>.pull1)
end Go.VC
