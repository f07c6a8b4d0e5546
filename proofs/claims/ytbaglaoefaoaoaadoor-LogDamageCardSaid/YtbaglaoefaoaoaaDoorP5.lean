/- A log that is written to and cut off at any byte is opened again with the records of the last write that got down whole. Conditions: none. -/
import Derived.Test.YtbaglaoefaoaoaaDoorP4
namespace Go.Proofs.YtbaglaoefaoaoaaDoor.F
open Go Go.VC
set_option linter.unusedSimpArgs false
set_option linter.unusedVariables false

theorem w32_left {a : Bytes} (b : Bytes) {i : Nat} (h : i + 4 ≤ a.length) : w32 (a ++ b) i = w32 a i := by
  have := w32_take (b := a ++ b) (n := a.length) (i := i) h
  rw [List.take_left] at this; exact this.symm
theorem drop_cut {left y : Bytes} {k m : Nat} (h1 : m ≤ k) (h2 : k ≤ left.length) : (left.take k ++ y).drop m = (left.drop m).take (k - m) ++ y := by
  rw [List.drop_append_of_le_length (by rw [List.length_take]; omega), List.drop_take]
theorem take_cut {left y : Bytes} {k n m : Nat} (h1 : m + n ≤ k) (h2 : k ≤ left.length) : ((left.take k ++ y).drop m).take n = (left.drop m).take n := by
  rw [drop_cut (by omega) h2, List.take_append_of_le_length (by rw [List.length_take, List.length_drop]; omega), List.take_take, Nat.min_eq_left (by omega)]
/-- Where the reading stopped, anything else may lie. -/
theorem frames_stop {num : BitVec 32} (y : Bytes) : ∀ {f : Nat} {left : Bytes} {recs : List Bytes} {fin : Nat} {r : List Bytes} {e : Nat}, framesS num f left recs fin = some (r, e) → ∀ g, (left.take (e - fin) ++ y).length ≤ g →
    framesS num g (left.take (e - fin) ++ y) recs fin = framesS num y.length y r e := by
  have base : ∀ {left : Bytes} {recs : List Bytes} {fin g : Nat}, (left.take (fin - fin) ++ y).length ≤ g → framesS num g (left.take (fin - fin) ++ y) recs fin = framesS num y.length y recs fin := by
    intro left recs fin g hg
    rw [Nat.sub_self, List.take_zero, List.nil_append] at *
    exact frames_fuel _ _ _ _ _ hg (Nat.le_refl _)
  intro f
  induction f with
  | zero =>
    intro left recs fin r e h g hg
    simp only [framesS, Option.some.injEq, Prod.mk.injEq] at h
    obtain ⟨rfl, rfl⟩ := h
    exact base hg
  | succ f ih =>
    intro left recs fin r e h g hg
    unfold framesS at h
    split at h
    · simp only [Option.some.injEq, Prod.mk.injEq] at h
      obtain ⟨rfl, rfl⟩ := h
      exact base hg
    split at h
    · cases h
    split at h
    · simp only [Option.some.injEq, Prod.mk.injEq] at h
      obtain ⟨rfl, rfl⟩ := h
      exact base hg
    split at h
    · cases h
    rename_i h1 h2 h3 h4
    have hl := frames_len h
    rw [List.length_drop] at hl
    have hk : e - fin ≤ left.length := by omega
    have hkl : (left.take (e - fin) ++ y).length = e - fin + y.length := by rw [List.length_append, List.length_take]; omega
    obtain ⟨g, rfl⟩ : ∃ g', g = g' + 1 := ⟨g - 1, by omega⟩
    have w : ∀ i, i + 4 ≤ 12 → w32 (left.take (e - fin) ++ y) i = w32 left i := fun i hi => by
      rw [w32_left _ (by rw [List.length_take]; omega), w32_take (by omega)]
    have e1 : e - fin - (12 + (w32 left 0).toNat) = e - (fin + (12 + (w32 left 0).toNat)) := by omega
    rw [framesS, if_neg (by omega), w 0 (by omega), w 4 (by omega), w 8 (by omega), if_neg h2, if_neg (by omega), take_cut (by omega) hk, if_neg h4, drop_cut (by omega) hk, e1]
    exact ih h g (by rw [List.length_append, List.length_take, List.length_drop]; omega)
theorem read_stop {b : Bytes} {num : BitVec 32} {recs : List Bytes} {fin : Nat} (h : readS b = some ⟨false, num, recs, fin⟩) (y : Bytes) :
    readS (b.take fin ++ y) = (framesS num y.length y recs fin).map fun x => ⟨false, num, x.1, x.2⟩ := by
  unfold readS at h
  split at h
  · cases h
  split at h
  · cases h
  rename_i hl hm
  obtain ⟨⟨recs', fin'⟩, h1, h2⟩ := Option.map_eq_some_iff.1 h
  simp only [RdS.mk.injEq, true_and] at h2
  obtain ⟨rfl, rfl, rfl⟩ := h2
  have hf := frames_len h1
  rw [List.length_drop] at hf
  have hlen : (b.take fin' ++ y).length = fin' + y.length := by rw [List.length_append, List.length_take]; omega
  have w : ∀ i, i + 4 ≤ 12 → w32 (b.take fin' ++ y) i = w32 b i := fun i hi => by
    rw [w32_left _ (by rw [List.length_take]; omega), w32_take (by omega)]
  have t : ∀ i, i ≤ 12 → (b.take fin' ++ y).take i = b.take i := fun i hi => by
    rw [List.take_append_of_le_length (by rw [List.length_take]; omega), List.take_take, Nat.min_eq_left (by omega)]
  unfold readS
  rw [if_neg (by omega), t 4 (by omega), t 8 (by omega), w 4 (by omega), w 8 (by omega), if_neg hm, drop_cut (by omega) (by omega)]
  rw [frames_stop y h1 _ (by rw [List.length_append, List.length_take, List.length_drop]; omega)]

/-! ### Disks -/
def setD (x : List Bytes) (st : OpS) : OpS := ⟨{ st.s with segs := x }, st.recs, st.last⟩
theorem openStep_set (n i : Nat) (st : OpS) (b : Bytes) (x : List Bytes) : openStep n i (setD x st) b = (openStep n i st b).map (setD x) := by
  unfold openStep
  cases readS b with
  | none => rfl
  | some r =>
    by_cases h1 : (i + 1 < n ∧ r.recs = []) ∨ (r.short = false ∧ 0 < i ∧ r.num ≠ st.last + 1#32)
    · simp only
      rw [if_pos h1]
      exact if_pos h1
    · simp only
      rw [if_neg h1]
      refine (if_neg h1).trans ?_
      by_cases h2 : r.recs = []
      · rw [if_pos h2, if_pos h2]; rfl
      · rw [if_neg h2, if_neg h2]; rfl
theorem openL_set (n : Nat) (x : List Bytes) : ∀ (r : List Bytes) (i : Nat) (st : OpS), openL n r i (setD x st) = (openL n r i st).map (setD x)
  | [], _, _ => rfl
  | b :: r, i, st => by
    rw [openL, openL, openStep_set]
    cases openStep n i st b with
    | none => rfl
    | some st' => exact openL_set n x r (i + 1) st'
theorem openL_app (n : Nat) : ∀ (a b : List Bytes) (i : Nat) (st : OpS), openL n (a ++ b) i st = (openL n a i st).bind (openL n b (i + a.length))
  | [], b, i, st => rfl
  | x :: a, b, i, st => by
    rw [List.cons_append, openL, openL]
    cases openStep n i st x with
    | none => rfl
    | some st' =>
      show openL n (a ++ b) (i + 1) st' = (openL n a (i + 1) st').bind (openL n b (i + (x :: a).length))
      rw [openL_app n a b (i + 1) st', List.length_cons, show i + 1 + a.length = i + (a.length + 1) by omega]
theorem openL_n {n m : Nat} : ∀ (a : List Bytes) (i : Nat) (st : OpS), i + a.length < n → i + a.length < m → openL n a i st = openL m a i st
  | [], _, _, _, _ => rfl
  | x :: a, i, st, h1, h2 => by
    rw [List.length_cons] at h1 h2
    have e : openStep n i st x = openStep m i st x := by
      unfold openStep
      simp only [show i + 1 < n by omega, show i + 1 < m by omega]
    rw [openL, openL, e]
    congr 1
    funext st'
    exact openL_n a (i + 1) st' (by omega) (by omega)
theorem openL_keep {n : Nat} : ∀ (a : List Bytes) (i : Nat) (st st' : OpS), openL n a i st = some st' → st'.s.segs = st.s.segs ∧ st'.s.ws = st.s.ws
  | [], _, _, _, h => by cases h; exact ⟨rfl, rfl⟩
  | x :: a, i, st, st', h => by
    rw [openL] at h
    obtain ⟨st1, h1, h2⟩ := Option.bind_eq_some_iff.1 h
    obtain ⟨e1, e2⟩ := openL_keep a (i + 1) st1 st' h2
    have : st1.s.segs = st.s.segs ∧ st1.s.ws = st.s.ws := by
      unfold openStep at h1
      split at h1
      · cases h1
      split at h1
      · cases h1
      split at h1 <;> (cases h1; exact ⟨rfl, rfl⟩)
    exact ⟨e1.trans this.1, e2.trans this.2⟩
/-- Behind the current segment: nothing, or a torn beginning of the next one. -/
def Tail (num : BitVec 32) (tl : List Bytes) : Prop := tl = [] ∨ ∃ x rx, tl = [x] ∧ readS x = some rx ∧ rx.recs = [] ∧ (rx.short = false → rx.num = num + 1#32)
/-- The current segment of a disk. -/
def At (d : List Bytes) (c : Nat) (num : BitVec 32) (recs : List Bytes) (fin : Nat) : Prop :=
  ∃ pre b tl stp, d = pre ++ b :: tl ∧ pre.length = c ∧ openL (c + 1) pre 0 (open0 []) = some stp ∧ readS b = some ⟨false, num, recs, fin⟩ ∧ recs ≠ [] ∧ (0 < c → num = stp.last + 1#32) ∧ Tail num tl
theorem step_at {n c : Nat} {stp : OpS} {b : Bytes} {num : BitVec 32} {recs : List Bytes} {fin : Nat} (hr : readS b = some ⟨false, num, recs, fin⟩) (hne : recs ≠ []) (hn : 0 < c → num = stp.last + 1#32) :
    openStep n c stp b = some ⟨{ stp.s with cur := c, num := num, frames := BitVec.ofNat 32 recs.length, fin := fin }, recs, num⟩ := by
  unfold openStep
  rw [hr]
  simp only [hne, and_false, false_or, if_false]
  rw [if_neg]
  rintro ⟨_, h1, h2⟩
  exact h2 (hn h1)
theorem openS_set (d : List Bytes) : openS d = (openL d.length d 0 (open0 [])).map (setD d) := openL_set d.length d d 0 (open0 [])
theorem At.open {d : List Bytes} {c : Nat} {num : BitVec 32} {recs : List Bytes} {fin : Nat} (k : At d c num recs fin) : ∃ last, openS d = some ⟨⟨d, [], c, num, BitVec.ofNat 32 recs.length, fin⟩, recs, last⟩ := by
  obtain ⟨pre, b, tl, stp, rfl, hc, hp, hr, hne, hn, ht⟩ := k
  obtain ⟨e1, e2⟩ := openL_keep _ _ _ _ hp
  rw [openS_set, openL_app, openL_n (m := c + 1) pre 0 (open0 []) (by simp <;> omega) (by omega), hp, Option.bind_some, openL, Nat.zero_add, hc, step_at hr hne hn, Option.bind_some]
  have e3 : stp.s.ws = [] := e2
  rcases ht with rfl | ⟨x, rx, rfl, hx, hx0, hxn⟩
  · refine ⟨num, ?_⟩
    rw [openL, Option.map_some]
    unfold setD
    simp only [e3]
  · refine ⟨rx.num, ?_⟩
    rw [openL]
    unfold openStep
    rw [hx]
    simp only [hx0, and_true, if_true]
    rw [if_neg, Option.bind_some, openL, Option.map_some]
    · unfold setD
      simp only [e3]
    · simp only [List.length_append, List.length_cons, List.length_nil]
      rintro (h | ⟨h1, _, h2⟩)
      · omega
      · exact h2 (hxn h1)
theorem At.cut {d : List Bytes} {c : Nat} {num : BitVec 32} {recs : List Bytes} {fin : Nat} (k : At d c num recs fin) : ∃ b stp tl, d.take c = d.take c ∧ d.take (c + 1) = d.take c ++ [b] ∧ d.drop c = b :: tl ∧ d.getD c [] = b ∧ (d.take c).length = c ∧ c < d.length ∧
    openL (c + 1) (d.take c) 0 (open0 []) = some stp ∧ readS b = some ⟨false, num, recs, fin⟩ ∧ recs ≠ [] ∧ (0 < c → num = stp.last + 1#32) ∧ Tail num tl := by
  obtain ⟨pre, b, tl, stp, rfl, rfl, hp, hr, hne, hn, ht⟩ := k
  refine ⟨b, stp, tl, rfl, ?_, List.drop_left, ?_, by rw [List.take_left], by simp, by rw [List.take_left]; exact hp, hr, hne, hn, ht⟩
  · rw [List.take_left, List.take_append, List.take_of_length_le (by omega), show pre.length + 1 - pre.length = 1 by omega]; rfl
  · rw [List.getD_eq_getElem?_getD, List.getElem?_append_right (Nat.le_refl _), Nat.sub_self]; rfl
/-- More, or something torn, at the current end. -/
theorem At.add {d : List Bytes} {c : Nat} {num : BitVec 32} {recs recs' : List Bytes} {fin fin' : Nat} (k : At d c num recs fin) {y : Bytes} (hy : framesS num y.length y recs fin = some (recs', fin')) (hne : recs' ≠ []) :
    At (d.take c ++ [(d.getD c []).take fin ++ y]) c num recs' fin' := by
  obtain ⟨b, stp, tl, _, _, _, eb, hl, hlt, hp, hr, _, hn, _⟩ := k.cut
  refine ⟨d.take c, _, [], stp, rfl, hl, hp, ?_, hne, hn, .inl rfl⟩
  rw [eb, read_stop hr y, hy]; rfl
/-- A torn beginning of the next segment. -/
theorem At.torn {d : List Bytes} {c : Nat} {num : BitVec 32} {recs : List Bytes} {fin : Nat} (k : At d c num recs fin) {x : Bytes} {rx : RdS} (hx : readS x = some rx) (h0 : rx.recs = []) (hn : rx.short = false → rx.num = num + 1#32) :
    At (d.take (c + 1) ++ [x]) c num recs fin := by
  obtain ⟨b, stp, tl, _, e2, _, eb, hl, hlt, hp, hr, hne, hn', _⟩ := k.cut
  refine ⟨d.take c, b, [x], stp, by rw [e2, List.append_assoc]; rfl, hl, hp, hr, hne, hn', .inr ⟨x, rx, rfl, hx, h0, hn⟩⟩
/-- The next segment. -/
theorem At.roll {d : List Bytes} {c : Nat} {num : BitVec 32} {recs recs' : List Bytes} {fin fin' : Nat} (k : At d c num recs fin) {x : Bytes} (hx : readS x = some ⟨false, num + 1#32, recs', fin'⟩) (h0 : recs' ≠ []) :
    At (d.take (c + 1) ++ [x]) (c + 1) (num + 1#32) recs' fin' := by
  obtain ⟨b, stp, tl, _, e2, _, eb, hl, hlt, hp, hr, hne, hn', _⟩ := k.cut
  refine ⟨d.take (c + 1), x, [], ⟨{ stp.s with cur := c, num := num, frames := BitVec.ofNat 32 recs.length, fin := fin }, recs, num⟩, rfl, by rw [List.length_take]; omega, ?_, hx, h0, fun _ => rfl, .inl rfl⟩
  rw [e2, openL_app, openL_n (m := c + 1) (d.take c) 0 (open0 []) (by omega) (by omega), hp, Option.bind_some, openL, Nat.zero_add, hl, step_at hr hne hn']; rfl
theorem At.sync {d : List Bytes} {c : Nat} {num : BitVec 32} {recs : List Bytes} {fin : Nat} (k : At d c num recs fin) : At (d.drop c) 0 num recs fin := by
  obtain ⟨b, stp, tl, _, _, e3, eb, hl, hlt, hp, hr, hne, hn, ht⟩ := k.cut
  exact ⟨[], b, tl, open0 [], e3, rfl, rfl, hr, hne, fun h => by omega, ht⟩
theorem At.first {x : Bytes} {num : BitVec 32} {recs : List Bytes} {fin : Nat} (hx : readS x = some ⟨false, num, recs, fin⟩) (h0 : recs ≠ []) : At [x] 0 num recs fin :=
  ⟨[], x, [], open0 [], rfl, rfl, rfl, hx, h0, fun h => by omega, .inl rfl⟩
/-- A disk on which a log stands with these records. -/
def Good (d : List Bytes) (s : LogS) (recs : List Bytes) : Prop :=
  (s.cur = -1 ∧ recs = [] ∧ s.num = 0#32 ∧ s.frames = 0#32 ∧ s.fin = 0 ∧ (d = [] ∨ ∃ x rx, d = [x] ∧ readS x = some rx ∧ rx.recs = [])) ∨
  (∃ c : Nat, s.cur = c ∧ s.frames = BitVec.ofNat 32 recs.length ∧ At d c s.num recs s.fin)
def onto (s : LogS) (d : List Bytes) : LogS := { s with segs := d, ws := [] }
theorem Good.open {d : List Bytes} {s : LogS} {recs : List Bytes} (k : Good d s recs) : ∃ last, openS d = some ⟨onto s d, recs, last⟩ := by
  obtain ⟨sg, ws, cur, num, frames, fin⟩ := s
  rcases k with ⟨h1, rfl, h3, h4, h5, h6⟩ | ⟨c, h1, h2, h3⟩
  · simp only at h1 h3 h4 h5
    subst h1 h3 h4 h5
    rcases h6 with rfl | ⟨x, rx, rfl, h7, h8⟩
    · exact ⟨0#32, rfl⟩
    · refine ⟨rx.num, ?_⟩
      unfold openS
      rw [openL, openStep, h7]
      simp only [h8, List.length_singleton, and_true, if_true]
      rw [if_neg (by omega)]; rfl
  · simp only at h1 h2 h3
    subst h1 h2
    exact h3.open
def addW (s : LogS) (r : Bytes) : Wr := if s.cur < 0 then (0, 0, headB 0#32 ++ frameB 0#32 0#32 r) else (s.cur.toNat, s.fin, frameB s.num s.frames r)
def rollW (s : LogS) (r : Bytes) : Wr := if s.cur < 0 then (0, 0, headB 0#32 ++ frameB 0#32 0#32 r) else (s.cur.toNat + 1, 0, headB (s.num + 1#32) ++ frameB (s.num + 1#32) 0#32 r)
def putD (d : List Bytes) (w : Wr) (n : Nat) : List Bytes := getS d w.1 w.2.1 w.2.2 n
theorem putD_0 (d : List Bytes) (w : Wr) : putD d w 0 = d := by unfold putD getS; rw [if_pos rfl]
theorem add_ws (s : LogS) (r : Bytes) : (addS s r).segs = s.segs ∧ (addS s r).ws = s.ws ++ [addW s r] := by
  unfold addS addW
  split <;> exact ⟨rfl, rfl⟩
theorem roll_ws (s : LogS) (r : Bytes) : (rollS s r).segs = s.segs ∧ (rollS s r).ws = s.ws ++ [rollW s r] := by
  unfold rollS rollW
  split <;> exact ⟨rfl, rfl⟩
theorem first_len (num : BitVec 32) (r : Bytes) : (headB num ++ frameB num 0#32 r).length = 12 + (12 + r.length) := by rw [List.length_append, headB_len, frameB_len]
theorem Good.first_torn {d : List Bytes} {s : LogS} {recs : List Bytes} {r : Bytes} {n : Nat} (k : Good d s recs) (hc : s.cur < 0) (hr : r.length ≤ 1048576) (hn : n < 12 + (12 + r.length)) :
    Good (putD d (0, 0, headB 0#32 ++ frameB 0#32 0#32 r) n) s recs := by
  by_cases h0 : n = 0
  · subst h0; rw [putD_0]; exact k
  rcases k with ⟨h1, h2, h3, h4, h5, h6⟩ | ⟨c, h1, h2, h3⟩
  · refine .inl ⟨h1, h2, h3, h4, h5, .inr ?_⟩
    obtain ⟨rx, e1, e2, _⟩ := read_first_torn (num := 0#32) hr hn
    refine ⟨_, rx, ?_, e1, e2⟩
    unfold putD getS
    rw [if_neg h0]; rfl
  · omega
theorem Good.first {d : List Bytes} {s' : LogS} {r : Bytes} (hr : r.length ≤ 1048576) (h1 : s'.cur = 0) (h2 : s'.num = 0#32) (h3 : s'.frames = 1#32) (h4 : s'.fin = 0 + (headB 0#32 ++ frameB 0#32 0#32 r).length) :
    Good (putD d (0, 0, headB 0#32 ++ frameB 0#32 0#32 r) (headB 0#32 ++ frameB 0#32 0#32 r).length) s' [r] := by
  refine .inr ⟨0, h1, h3, ?_⟩
  rw [h2, h4, Nat.zero_add, first_len]
  have e : putD d (0, 0, headB 0#32 ++ frameB 0#32 0#32 r) (12 + (12 + r.length)) = [headB 0#32 ++ frameB 0#32 0#32 r] := by
    unfold putD getS
    rw [if_neg (by omega), ← first_len 0#32 r, List.take_length]; rfl
  rw [e]
  exact At.first (read_first hr) (by simp)
theorem Good.add_torn {d : List Bytes} {s : LogS} {recs : List Bytes} {r : Bytes} {n : Nat} (k : Good d s recs) (hr : r.length ≤ 1048576) (hn : n < (addW s r).2.2.length) : Good (putD d (addW s r) n) s recs := by
  unfold addW at *
  split
  · rename_i hc
    rw [if_pos hc] at hn
    exact k.first_torn hc hr (by rw [← first_len 0#32 r]; exact hn)
  · rename_i hc
    rw [if_neg hc] at hn
    by_cases h0 : n = 0
    · subst h0; rw [putD_0]; exact k
    rcases k with ⟨h1, _⟩ | ⟨c, h1, h2, h3⟩
    · omega
    · have hn : n < (frameB s.num s.frames r).length := hn
      rw [frameB_len] at hn
      refine .inr ⟨c, h1, h2, ?_⟩
      have hne : recs ≠ [] := by obtain ⟨_, _, _, _, _, _, _, _, h, _⟩ := h3; exact h
      have := h3.add (y := (frameB s.num s.frames r).take n) (recs' := recs) (fin' := s.fin) (frames_torn hr h2 hn) hne
      unfold putD getS
      rw [if_neg h0, h1]
      exact this
theorem Good.add {d : List Bytes} {s : LogS} {recs : List Bytes} {r : Bytes} (k : Good d s recs) (hr : r.length ≤ 1048576) (hl : recs.length < 4294967296) : Good (putD d (addW s r) (addW s r).2.2.length) (addS s r) (recs ++ [r]) := by
  unfold addW addS
  split
  · rename_i hc
    have e : recs = [] := by
      rcases k with ⟨_, h, _⟩ | ⟨c, h1, _⟩
      · exact h
      · omega
    subst e
    exact Good.first hr rfl rfl rfl rfl
  · rename_i hc
    rcases k with ⟨h1, _⟩ | ⟨c, h1, h2, h3⟩
    · omega
    · refine .inr ⟨c, ?_, ?_, ?_⟩
      · show ((s.cur.toNat : Nat) : Int) = c
        omega
      · show s.frames + 1#32 = _
        rw [h2, List.length_append, List.length_singleton]
        apply BitVec.eq_of_toNat_eq
        simp only [BitVec.toNat_add, BitVec.toNat_ofNat]
        omega
      · have hy : framesS s.num (frameB s.num s.frames r).length (frameB s.num s.frames r) recs s.fin = some (recs ++ [r], s.fin + (12 + r.length)) := by
          rw [h2]
          have h := frames_one (num := s.num) (r := r) (x := []) (recs := recs) (fin := s.fin) (f := (frameB s.num (BitVec.ofNat 32 recs.length) r).length) hr (by rw [List.append_nil]; exact Nat.le_refl _)
          rw [List.append_nil] at h
          rw [h, frames_nil]
        have := h3.add hy (by simp)
        show At (putD d (s.cur.toNat, s.fin, frameB s.num s.frames r) (frameB s.num s.frames r).length) c s.num (recs ++ [r]) (s.fin + (frameB s.num s.frames r).length)
        unfold putD getS
        rw [frameB_len, if_neg (by omega), h1, ← frameB_len s.num s.frames r, List.take_length, frameB_len]
        exact this
theorem Good.roll_torn {d : List Bytes} {s : LogS} {recs : List Bytes} {r : Bytes} {n : Nat} (k : Good d s recs) (hr : r.length ≤ 1048576) (hn : n < (rollW s r).2.2.length) : Good (putD d (rollW s r) n) s recs := by
  unfold rollW at *
  split
  · rename_i hc
    rw [if_pos hc] at hn
    exact k.first_torn hc hr (by rw [← first_len 0#32 r]; exact hn)
  · rename_i hc
    rw [if_neg hc] at hn
    by_cases h0 : n = 0
    · subst h0; rw [putD_0]; exact k
    rcases k with ⟨h1, _⟩ | ⟨c, h1, h2, h3⟩
    · omega
    · have hn : n < (headB (s.num + 1#32) ++ frameB (s.num + 1#32) 0#32 r).length := hn
      rw [first_len] at hn
      refine .inr ⟨c, h1, h2, ?_⟩
      obtain ⟨rx, e1, e2, e3⟩ := read_first_torn (num := s.num + 1#32) hr hn
      have := h3.torn e1 e2 e3
      unfold putD getS
      rw [if_neg h0, h1]
      exact this
theorem Good.roll {d : List Bytes} {s : LogS} {recs : List Bytes} {r : Bytes} (k : Good d s recs) (hr : r.length ≤ 1048576) : Good (putD d (rollW s r) (rollW s r).2.2.length) (rollS s r) [r] := by
  unfold rollW rollS
  split
  · rename_i hc
    exact Good.first hr rfl rfl rfl rfl
  · rename_i hc
    rcases k with ⟨h1, _⟩ | ⟨c, h1, h2, h3⟩
    · omega
    · refine .inr ⟨c + 1, ?_, rfl, ?_⟩
      · show (((s.cur.toNat + 1 : Nat)) : Int) = _
        omega
      · have := h3.roll (read_first hr) (by simp)
        show At (putD d (s.cur.toNat + 1, 0, headB (s.num + 1#32) ++ frameB (s.num + 1#32) 0#32 r) (headB (s.num + 1#32) ++ frameB (s.num + 1#32) 0#32 r).length) (c + 1) (s.num + 1#32) [r] (0 + (headB (s.num + 1#32) ++ frameB (s.num + 1#32) 0#32 r).length)
        unfold putD getS
        rw [first_len, if_neg (by omega), h1, Nat.zero_add, ← first_len (s.num + 1#32) r, List.take_length, first_len]
        exact this
theorem Good.sync {s : LogS} {recs : List Bytes} (k : Good s.full s recs) : Good (syncS s).full (syncS s) recs := by
  unfold syncS
  split
  · rename_i hc
    rcases k with ⟨h1, _⟩ | ⟨c, h1, h2, h3⟩
    · omega
    · refine .inr ⟨0, rfl, h2, ?_⟩
      show At (s.full.drop s.cur.toNat) 0 s.num recs s.fin
      rw [h1]
      exact h3.sync
  · exact k

/-! ### What got down -/
theorem steps_left : ∀ (ws : List Wr) (d : List Bytes) (n : Nat), (ws.foldl stepD (d, n)).2 = n - dirtyS ws
  | [], _, _ => rfl
  | w :: ws, d, n => by
    rw [List.foldl_cons]
    show (ws.foldl stepD (_, n - min n w.2.2.length)).2 = _
    rw [steps_left ws]
    have e : dirtyS (w :: ws) = w.2.2.length + dirtyS ws := rfl
    omega
theorem down_snoc (d : List Bytes) (ws : List Wr) (w : Wr) (n : Nat) : downS d (ws ++ [w]) n = if n ≤ dirtyS ws then downS d ws n else putD (fullD d ws) w (min (n - dirtyS ws) w.2.2.length) := by
  unfold downS
  rw [List.foldl_append, List.foldl_cons, List.foldl_nil]
  show (putD (ws.foldl stepD (d, n)).1 w (min (ws.foldl stepD (d, n)).2 w.2.2.length)) = if n ≤ dirtyS ws then (ws.foldl stepD (d, n)).1 else _
  rw [steps_left]
  split
  · rename_i h
    rw [show n - dirtyS ws = 0 by omega, Nat.zero_min]
    exact putD_0 _ w
  · rename_i h
    have := full_steps ws (d, n) (by rw [steps_left]; omega)
    rw [this]
def whenP (ms : List (Nat × List Bytes)) (keep : Int) : List Bytes := match ms with
  | [] => []
  | m :: r => r.foldl (fun l x => if (x.1 : Int) ≤ keep then x.2 else l) m.2
theorem when_snoc {ms : List (Nat × List Bytes)} (h : ms ≠ []) (m : Nat × List Bytes) (keep : Int) : whenP (ms ++ [m]) keep = if (m.1 : Int) ≤ keep then m.2 else whenP ms keep := by
  cases ms with
  | nil => exact absurd rfl h
  | cons x r =>
    show (r ++ [m]).foldl _ _ = _
    rw [List.foldl_append]; rfl
theorem when_last {init : List (Nat × List Bytes)} {n : Nat} {recs : List Bytes} {keep : Int} (h : init = [] ∨ (n : Int) ≤ keep) : whenP (init ++ [(n, recs)]) keep = recs := by
  by_cases hi : init = []
  · subst hi; rfl
  · rw [when_snoc hi, if_pos (by rcases h with h | h; (· exact absurd h hi); (· exact h))]
/-- A log and its story. -/
structure Inv (s : LogS) (init : List (Nat × List Bytes)) (recs : List Bytes) : Prop where
  ok : s.Ok
  good : Good s.full s recs
  len : recs.length < 4294967296
  first : init = [] → dirtyS s.ws = 0
  pos : ∀ m ∈ (init ++ [(dirtyS s.ws, recs)]).tail, 0 < m.1
  down : ∀ keep : Nat, ∃ s', Good (downS s.segs s.ws keep) s' (whenP (init ++ [(dirtyS s.ws, recs)]) keep)
theorem dirty_snoc (ws : List Wr) (w : Wr) : dirtyS (ws ++ [w]) = dirtyS ws + w.2.2.length := by simp [dirtyS]
theorem Inv.put {s s' : LogS} {init : List (Nat × List Bytes)} {recs recs' : List Bytes} {w : Wr} (k : Inv s init recs) (h1 : s'.segs = s.segs) (h2 : s'.ws = s.ws ++ [w]) (hw : 0 < w.2.2.length) (ok : s'.Ok) (hl : recs'.length < 4294967296)
    (torn : ∀ n, n < w.2.2.length → Good (putD s.full w n) s recs) (whole : Good (putD s.full w w.2.2.length) s' recs') : Inv s' (init ++ [(dirtyS s.ws, recs)]) recs' := by
  have hd : dirtyS s'.ws = dirtyS s.ws + w.2.2.length := by rw [h2, dirty_snoc]
  refine ⟨ok, ?_, hl, fun h => by simp at h, ?_, fun keep => ?_⟩
  · have e : s'.full = putD s.full w w.2.2.length := by unfold LogS.full; rw [h1, h2, full_snoc]; rfl
    rw [e]; exact whole
  · intro m hm
    rw [List.tail_append_of_ne_nil (by simp)] at hm
    rcases List.mem_append.1 hm with h | h
    · exact k.pos m h
    · simp only [List.mem_singleton] at h
      subst h
      show 0 < dirtyS s'.ws
      omega
  · rw [when_snoc (by simp), h1, h2, down_snoc, ← h2]
    by_cases hk : dirtyS s'.ws ≤ keep
    · rw [if_pos (show ((dirtyS s'.ws : Nat) : Int) ≤ keep by omega), if_neg (by omega), Nat.min_eq_right (by omega)]
      exact ⟨_, whole⟩
    · rw [if_neg (show ¬ ((dirtyS s'.ws : Nat) : Int) ≤ keep by omega)]
      split
      · exact k.down keep
      · rename_i hk2
        rw [when_last (.inr (by omega)), Nat.min_eq_left (by omega)]
        exact ⟨_, torn _ (by omega)⟩
theorem addW_pos (s : LogS) (r : Bytes) : 0 < (addW s r).2.2.length := by
  unfold addW
  split
  · show 0 < (headB 0#32 ++ frameB 0#32 0#32 r).length
    rw [first_len]; omega
  · show 0 < (frameB s.num s.frames r).length
    rw [frameB_len]; omega
theorem rollW_len (s : LogS) (r : Bytes) : (rollW s r).2.2.length = 24 + r.length := by
  unfold rollW
  split
  · show (headB 0#32 ++ frameB 0#32 0#32 r).length = _
    rw [first_len]; omega
  · show (headB (s.num + 1#32) ++ frameB (s.num + 1#32) 0#32 r).length = _
    rw [first_len]; omega
theorem addW_len (s : LogS) (r : Bytes) : (addW s r).2.2.length = 12 + r.length ∨ (addW s r).2.2.length = 24 + r.length := by
  unfold addW
  split
  · refine .inr ?_
    show (headB 0#32 ++ frameB 0#32 0#32 r).length = _
    rw [first_len]; omega
  · exact .inl (frameB_len _ _ _)
theorem Inv.add {s : LogS} {init : List (Nat × List Bytes)} {recs : List Bytes} {r : Bytes} (k : Inv s init recs) (hr : r.length ≤ 1048576) (hl : recs.length < 4294967295) : Inv (addS s r) (init ++ [(dirtyS s.ws, recs)]) (recs ++ [r]) := by
  obtain ⟨h1, h2⟩ := add_ws s r
  exact k.put h1 h2 (addW_pos s r) (addS_ok k.ok r) (by simp; omega) (fun n hn => k.good.add_torn hr hn) (k.good.add hr (by omega))
theorem Inv.roll {s : LogS} {init : List (Nat × List Bytes)} {recs : List Bytes} {r : Bytes} (k : Inv s init recs) (hr : r.length ≤ 1048576) : Inv (rollS s r) (init ++ [(dirtyS s.ws, recs)]) [r] := by
  obtain ⟨h1, h2⟩ := roll_ws s r
  exact k.put h1 h2 (by rw [rollW_len]; omega) (rollS_ok k.ok r) (by simp) (fun n hn => k.good.roll_torn hr hn) (k.good.roll hr)
theorem sync_ws (s : LogS) : (syncS s).ws = [] := by unfold syncS; split <;> rfl
theorem Inv.fresh {s : LogS} {recs : List Bytes} (ok : s.Ok) (hw : s.ws = []) (g : Good s.full s recs) (hl : recs.length < 4294967296) : Inv s [] recs := by
  refine ⟨ok, g, hl, fun _ => by rw [hw]; rfl, fun m hm => by simp at hm, fun keep => ⟨s, ?_⟩⟩
  rw [when_last (.inl rfl)]
  have e : downS s.segs s.ws keep = s.full := by unfold LogS.full; rw [hw]; rfl
  rw [e]; exact g
theorem Inv.sync {s : LogS} {init : List (Nat × List Bytes)} {recs : List Bytes} (k : Inv s init recs) : Inv (syncS s) [] recs :=
  .fresh (syncS_ok k.ok) (sync_ws s) k.good.sync k.len
theorem Inv.none : Inv (open0 []).s [] [] :=
  .fresh (openS_ok open_none).1 rfl (.inl ⟨rfl, rfl, rfl, rfl, rfl, .inl rfl⟩) (by simp)
/-- What is opened of what got down. -/
theorem Inv.opens {s : LogS} {init : List (Nat × List Bytes)} {recs : List Bytes} (k : Inv s init recs) (hb : s.big < 4294967296) (keep : Int) : ∃ st, openS (downS s.segs s.ws keep.toNat) = some st ∧ st.recs = whenP (init ++ [(dirtyS s.ws, recs)]) keep ∧ Inv st.s [] st.recs := by
  have e : whenP (init ++ [(dirtyS s.ws, recs)]) keep = whenP (init ++ [(dirtyS s.ws, recs)]) (keep.toNat : Int) := by
    have key : ∀ (r : List (Nat × List Bytes)) (l : List Bytes), (∀ m ∈ r, 0 < m.1) → r.foldl (fun l x => if (x.1 : Int) ≤ keep then x.2 else l) l = r.foldl (fun l x => if (x.1 : Int) ≤ (keep.toNat : Int) then x.2 else l) l := by
      intro r
      induction r with
      | nil => intro _ _; rfl
      | cons x r ih =>
        intro l h
        have hx := h x List.mem_cons_self
        rw [List.foldl_cons, List.foldl_cons, ih _ fun m hm => h m (List.mem_cons_of_mem _ hm)]
        congr 1
        by_cases h1 : (x.1 : Int) ≤ keep
        · rw [if_pos h1, if_pos (by omega)]
        · rw [if_neg h1, if_neg (by omega)]
    have hp := k.pos
    generalize init ++ [(dirtyS s.ws, recs)] = ms at hp
    cases ms with
    | nil => rfl
    | cons m r => exact key r m.2 hp
  obtain ⟨s', g⟩ := k.down keep.toNat
  obtain ⟨last, ho⟩ := g.open
  refine ⟨_, ho, e.symm, ?_⟩
  have hok := openS_ok ho
  refine .fresh hok.1 rfl ?_ ?_
  · exact g
  · have h1 := tot_len (whenP (init ++ [(dirtyS s.ws, recs)]) keep)
    rw [← e] at hok
    have h2 : tot (whenP (init ++ [(dirtyS s.ws, recs)]) keep) ≤ tot (downS s.segs s.ws keep.toNat) := hok.2.2.2.1
    have h3 : tot (downS s.segs s.ws keep.toNat) ≤ tot s.segs + wtot s.ws := tot_steps s.ws (s.segs, keep.toNat)
    have h4 : tot s.segs + wtot s.ws < 4294967296 := hb
    rw [← e]
    show (whenP (init ++ [(dirtyS s.ws, recs)]) keep).length < _
    omega
theorem Inv.tot {s : LogS} {init : List (Nat × List Bytes)} {recs : List Bytes} (k : Inv s init recs) : tot recs ≤ s.big := by
  obtain ⟨last, ho⟩ := k.good.open
  have h1 := (openS_ok ho).2.2.2.1
  have h2 : F.tot s.full ≤ F.tot s.segs + wtot s.ws := tot_full s.segs s.ws
  show _ ≤ F.tot s.segs + wtot s.ws
  exact Nat.le_trans h1 h2
end Go.Proofs.YtbaglaoefaoaoaaDoor.F
