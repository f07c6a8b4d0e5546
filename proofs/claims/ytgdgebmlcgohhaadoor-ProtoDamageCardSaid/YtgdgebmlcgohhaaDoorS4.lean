/- Separation: slices of rows that share their memory, all of one pattern. Conditions: none. -/
import Derived.Test.YtgdgebmlcgohhaaDoorS3
namespace Go.VC
open Go
set_option linter.unusedSimpArgs false
set_option linter.unusedVariables false

variable {S F G : Nat → Prop} {h0 h h1 : Heap} {L R L' : List A} {a : Option Addr} {vs : List Value} {e sz l c m : Nat}
/-- A kind of rows, and what fills them. -/
structure Kd where
  e : Nat
  sz : Nat
  f : Nat → Nat → List Value
  hf : ∀ t k, (f t k).length = sz
  ho : ∀ t k, ∀ v ∈ f t k, oneC v = true
  hs : 0 < sz
def patR (f : Nat → Nat → List Value) (t m : Nat) : List Value := (List.range m).flatMap (f t)
theorem patR_len (K : Kd) (t m : Nat) : (patR K.f t m).length = m * K.sz := by
  unfold patR
  rw [flatMap_len (f := K.f t) (sz := K.sz) (fun k => K.hf t k), List.length_range]
theorem patR_next (f : Nat → Nat → List Value) (t m : Nat) : patR f t m ++ f t m = patR f t (m + 1) := by
  unfold patR
  rw [List.range_succ, List.flatMap_append]; simp
theorem patR_take (K : Kd) (t : Nat) : ∀ {m n : Nat}, n ≤ m → (patR K.f t m).take (n * K.sz) = patR K.f t n := by
  intro m n h
  induction m with
  | zero =>
    have : n = 0 := by omega
    subst this; simp [patR]
  | succ m ih =>
    by_cases hn : n = m + 1
    · subst hn
      rw [List.take_of_length_le (by rw [patR_len]; exact Nat.le_refl _)]
    · rw [← patR_next, List.take_append, patR_len, ih (by omega)]
      have : n * K.sz ≤ m * K.sz := Nat.mul_le_mul_right _ (by omega)
      rw [show n * K.sz - m * K.sz = 0 by omega, List.take_zero, List.append_nil]
theorem patR_at (K : Kd) (t : Nat) {m i : Nat} (h : i < m) : ((patR K.f t m).drop (i * K.sz)).take K.sz = K.f t i := by
  have h1 := patR_take K t (m := m) (n := i + 1) (by omega)
  rw [← patR_next] at h1
  have h2 : (i + 1) * K.sz = i * K.sz + K.sz := Nat.succ_mul _ _
  have h3 : ((patR K.f t m).take ((i + 1) * K.sz)).drop (i * K.sz) = K.f t i := by
    rw [h1, List.drop_append, patR_len, Nat.sub_self, List.drop_of_length_le (by rw [patR_len]; exact Nat.le_refl _)]; rfl
  rw [← h3, List.drop_take, h2, Nat.add_sub_cancel_left]
def bfK (K : Kd) (x : Bf Nat) : A := A.vec K.e K.sz x.a x.m x.c (patR K.f x.t x.m)
def BfK (K : Kd) (xs : List (Bf Nat)) : A := A.all (xs.map (bfK K))
theorem BfK.sl {K : Kd} {xs : List (Bf Nat)} {t : Nat} (k : St S h0 h (BfK K xs :: R)) (on : On xs t a l c) : Sl h a (patR K.f t l) ∧ l ≤ c ∧ c < 9223372036854775808 := by
  obtain ⟨x, hx, rfl, rfl, rfl, hl⟩ := on
  obtain ⟨F, hh, hf⟩ := k.own
  obtain ⟨F1, F2, k1, _⟩ := hh
  obtain ⟨F', k', _⟩ := Holds.get (show Holds (xs.map (bfK K)) F1 h from k1) (List.mem_map_of_mem hx)
  have hv : Vec h K.e K.sz x.a x.m x.c (patR K.f x.t x.m) := k'.1
  refine ⟨?_, Nat.le_trans hl hv.le, k'.2.2.2⟩
  have := (hv.sl.ro.take (l * K.sz)).sl
  rwa [patR_take K x.t hl] at this
/-- One more row behind a slice of memory that goes on with it, or ends there. -/
theorem St.bufRow {P : Program} {t tx ty bt : Nat} {z : Value} (T : SlTy P t e sz bt z) {d : TypeDesc} (htx : P.underlying tx = some d) (hd : ∀ k, d ≠ .int k) {x : Value} {ws : List Value} (k : St S h0 h (A.vec e sz a m c vs :: R)) (src : Src P sz h x 1 ws) (hone : ∀ v ∈ ws, oneC v = true)
    {ll : Nat} (hl : ll ≤ m) (hv : ll < m → (vs.drop (ll * sz)).take sz = ws) (hbytes : (ll + 1) * bt ≤ 140737488355328) {K : KV}
    (q1 : ∀ h', ll < c → St S h0 h' (A.vec e sz a (max m (ll + 1)) c (if ll < m then vs else vs ++ ws) :: R) → K (.slice a (ll + 1) c) h')
    (q2 : ∀ a' c' h', ll + 1 ≤ c' → St S h0 h' (A.vec e sz a' (ll + 1) c' (vs.take (ll * sz) ++ ws) :: A.vec e sz a m c vs :: R) → K (.slice a' (ll + 1) c') h') :
    RunsTo P (Builtin.append_ #[t, tx] ty #[.slice a ll c, x]) h K := by
  obtain ⟨F, G, k1, k2, dd, hf, back⟩ := k.frame1
  obtain ⟨kV, kF, hs, hc⟩ := k1
  have hwl : ws.length = sz := by have := src.length; rw [Nat.one_mul] at this; exact this
  cases hi' : P.info? e with
  | none => have := T.inf; rw [hi'] at this; cases this
  | some i =>
    have hi := T.inf
    rw [hi'] at hi
    simp only [Option.map_some, Option.some.injEq, Prod.mk.injEq] at hi
    obtain ⟨e1, e2, rfl⟩ := hi
    have hle := kV.le
    have hlen : vs.length = m * sz := kV.len
    have hlm : ll * sz ≤ m * sz := Nat.mul_le_mul_right _ hl
    have hsucc : (ll + 1) * sz = ll * sz + sz := Nat.succ_mul _ _
    have src : Src P i.size h x 1 ws := by rw [e2]; exact src
    refine append_runs T.ut htx hd hi' e1 T.b0 src hone (a := a) (l := ll) (c := c) (olds := vs.take (ll * sz)) (kV.sl.ro.take _).sl (by rw [List.length_take, e2]; omega) (by omega) (.inl hbytes) ?_ ?_ ?_
    · intro hfit _
      rcases kV.room with h0 | ⟨g, o, cur, rfl, hB, hsz⟩
      · omega
      · have hcs : (ll + 1) * sz ≤ c * sz := Nat.mul_le_mul_right _ hfit
        refine ⟨g, o, cur, rfl, hB, by rw [e2]; exact Nat.le_trans (Nat.add_le_add_left hcs o) hsz, fun h' hB' mo s => ?_⟩
        rw [e2] at hB'
        refine q1 h' (by omega) (back (L' := [_]) ⟨mo.mono fun b hb => .inl (by subst hb; exact (kF _).2 ⟨by omega, rfl⟩), _, A.vec_mk (c := c) ⟨?_, by omega, hB'.sl o fun j w hj => ?_, .inr ⟨g, o, _, rfl, hB', by rw [putAt_size]; exact hsz⟩⟩ hs hc fun _ => Iff.rfl, ?_⟩)
        · split
          · rw [hlen, Nat.max_eq_left (by omega)]
          · have : ll = m := by omega
            subst this
            rw [List.length_append, hlen, hwl, Nat.max_eq_right (by omega), hsucc]
        · rw [putAt_get ws cur (o + ll * sz) (o + j) (by rw [hwl]; omega)]
          by_cases hjl : ll * sz ≤ j ∧ j < ll * sz + sz
          · rw [if_pos (by rw [hwl]; omega), show o + j - (o + ll * sz) = j - ll * sz by omega]
            split at hj
            · rename_i h2
              have h3 := congrArg (·[j - ll * sz]?) (hv h2)
              simp only [List.getElem?_take, List.getElem?_drop] at h3
              rw [if_pos (by omega), show ll * sz + (j - ll * sz) = j by omega] at h3
              rw [← h3]; exact hj
            · have : ll = m := by omega
              subst this
              rw [List.getElem?_append_right (by omega), hlen] at hj
              exact hj
          · rw [if_neg (by rw [hwl]; omega)]
            have hj' : vs[j]? = some w := by
              split at hj
              · exact hj
              · have : ll = m := by omega
                subst this
                by_cases h3 : j < vs.length
                · rwa [List.getElem?_append_left h3] at hj
                · rw [List.getElem?_append_right (by omega), hlen] at hj
                  have := (List.getElem?_eq_some_iff.1 hj).1
                  omega
            exact kV.at hB j w hj'
        · rintro b ⟨h1, h2⟩
          exact .inl ((kF b).2 ⟨h1, h2⟩)
    · intro _ hnil
      rw [hnil] at hwl
      have := T.s0
      simp at hwl
      omega
    · intro hg c' h' hc' hcb hB mo s
      refine q2 _ c' h' hc' (k.add (L' := [_]) ⟨mo, _, A.vec_mk (c := c') ⟨?_, hc', hB.sl 0 fun j w hj => ?_, .inr ⟨h.size, 0, _, rfl, hB, ?_⟩⟩ hs hcb fun _ => Iff.rfl, ?_⟩)
      · rw [List.length_append, List.length_take, hlen, hwl, hsucc, Nat.min_eq_left hlm]
      · rw [Nat.zero_add]
        have hj1 := (List.getElem?_eq_some_iff.1 hj).1
        rw [Array.getElem?_append_left (by simpa using hj1)]
        simpa using hj
      · have h5 : (ll + 1) * sz + (c' - (ll + 1)) * sz = c' * sz := by rw [← Nat.add_mul]; congr 1; omega
        simp only [Array.size_append, List.size_toArray, List.length_append, List.length_take, hlen, hwl, Builtin.zeroCells, Array.size_map, Array.size_range, T.zs]
        rw [Nat.min_eq_left hlm]
        omega
      · rintro b ⟨_, hb⟩
        simp [ob] at hb; subst hb; exact .inr (Nat.le_refl _)
theorem BfK.app {P : Program} {t tx ty bt : Nat} {z : Value} {K : Kd} (T : SlTy P t K.e K.sz bt z) {d : TypeDesc} (htx : P.underlying tx = some d) (hd : ∀ k, d ≠ .int k) {x : Value} {xs : List (Bf Nat)} {tg : Nat} {ll : Nat} (k : St S h0 h (BfK K xs :: R)) (on : On xs tg a ll c) (src : Src P K.sz h x 1 (K.f tg ll))
    (hbytes : (ll + 1) * bt ≤ 140737488355328) {Q : KV}
    (q : ∀ xs' a' c' h', Cov xs xs' → On xs' tg a' (ll + 1) c' → St S h0 h' (BfK K xs' :: R) → Q (.slice a' (ll + 1) c') h') :
    RunsTo P (Builtin.append_ #[t, tx] ty #[.slice a ll c, x]) h Q := by
  obtain ⟨y, hy, rfl, rfl, rfl, hl⟩ := on
  obtain ⟨s1, s2, rfl⟩ := List.append_of_mem hy
  have k : St S h0 h (A.vec K.e K.sz y.a y.m y.c (patR K.f y.t y.m) :: A.all ((s1 ++ s2).map (bfK K)) :: R) :=
    (St.allPerm k (L' := (y :: (s1 ++ s2)).map (bfK K)) (List.perm_middle.map _)).allOut
  refine k.bufRow T htx hd src (K.ho _ _) hl (fun h => patR_at K y.t h) hbytes (fun h' hc k => ?_) fun a' c' h' hc k => ?_
  · refine q ({ y with m := max y.m (ll + 1) } :: (s1 ++ s2)) _ _ h' (fun x hx => ?_) ⟨_, List.mem_cons_self, rfl, rfl, rfl, Nat.le_max_right _ _⟩ ?_
    · rcases List.mem_append.1 hx with h1 | h1
      · exact ⟨x, List.mem_cons_of_mem _ (List.mem_append_left _ h1), rfl, rfl, rfl, Nat.le_refl _⟩
      · rcases List.mem_cons.1 h1 with rfl | h1
        · exact ⟨_, List.mem_cons_self, rfl, rfl, rfl, Nat.le_max_left _ _⟩
        · exact ⟨x, List.mem_cons_of_mem _ (List.mem_append_right _ h1), rfl, rfl, rfl, Nat.le_refl _⟩
    · have e1 : (if ll < y.m then patR K.f y.t y.m else patR K.f y.t y.m ++ K.f y.t ll) = patR K.f y.t (max y.m (ll + 1)) := by
        split
        · rw [Nat.max_eq_left (by omega)]
        · have : ll = y.m := by omega
          subst this
          rw [patR_next, Nat.max_eq_right (by omega)]
      rw [e1] at k
      exact k.allIn
  · refine q (⟨y.t, a', ll + 1, c'⟩ :: y :: (s1 ++ s2)) _ _ h' (fun x hx => ?_) ⟨_, List.mem_cons_self, rfl, rfl, rfl, Nat.le_refl _⟩ ?_
    · refine ⟨x, ?_, rfl, rfl, rfl, Nat.le_refl _⟩
      rcases List.mem_append.1 hx with h1 | h1
      · exact List.mem_cons_of_mem _ (List.mem_cons_of_mem _ (List.mem_append_left _ h1))
      · rcases List.mem_cons.1 h1 with rfl | h1
        · exact List.mem_cons_of_mem _ List.mem_cons_self
        · exact List.mem_cons_of_mem _ (List.mem_cons_of_mem _ (List.mem_append_right _ h1))
    · rw [patR_take K y.t hl, patR_next] at k
      exact St.allIn (x := bfK K ⟨y.t, a', ll + 1, c'⟩) (L := (y :: (s1 ++ s2)).map (bfK K)) (St.allIn (x := bfK K y) (L := (s1 ++ s2).map (bfK K)) (k.pull1.pull2.pull1) |>.pull1)
end Go.VC
