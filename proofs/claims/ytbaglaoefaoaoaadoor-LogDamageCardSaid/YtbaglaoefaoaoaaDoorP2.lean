/- The log, in plain Lean: what lies down, what is written, the current segment. Conditions: none. -/
import Derived.Test.YtbaglaoefaoaoaaDoorL4
namespace Go.Proofs.YtbaglaoefaoaoaaDoor.F
open Go Go.VC
set_option linter.unusedSimpArgs false
set_option linter.unusedVariables false

abbrev Bytes := List UInt8
abbrev Wr := Nat × Nat × Bytes
structure LogS where
  segs : List Bytes
  ws : List Wr
  cur : Int
  num : BitVec 32
  frames : BitVec 32
  fin : Nat
def stepD (st : List Bytes × Nat) (w : Wr) : List Bytes × Nat := (getS st.1 w.1 w.2.1 w.2.2 (min st.2 w.2.2.length), st.2 - min st.2 w.2.2.length)
def downS (d : List Bytes) (ws : List Wr) (keep : Nat) : List Bytes := (ws.foldl stepD (d, keep)).1
def fullD (d : List Bytes) (ws : List Wr) : List Bytes := ws.foldl (fun d w => getS d w.1 w.2.1 w.2.2 w.2.2.length) d
def dirtyS (ws : List Wr) : Nat := (ws.map fun w => w.2.2.length).sum
def wtot (ws : List Wr) : Nat := (ws.map fun w => w.2.2.length + 1).sum
/-- Every write joins on where the one ahead of it ended. -/
def okD (d : List Bytes) (ws : List Wr) : Prop := ∀ j w, ws[j]? = some w → w.1 ≤ (fullD d (ws.take j)).length ∧ w.2.1 ≤ ((fullD d (ws.take j)).getD w.1 []).length ∧ w.2.2 ≠ []
theorem tot_getS (d : List Bytes) (s a : Nat) (b : Bytes) (n : Nat) : tot (getS d s a b n) ≤ tot d + n + 1 := by
  unfold getS
  split
  · omega
  · rw [tot_app]
    have h1 : tot [(d.getD s []).take a ++ b.take n] = min a (d.getD s []).length + min n b.length + 1 := by simp [tot]
    rw [h1]
    cases h : d[s]? with
    | none =>
      have : (d.getD s []).length = 0 := by rw [List.getD_eq_getElem?_getD, h]; rfl
      have := tot_take d s
      omega
    | some x =>
      have e : (d.getD s []) = x := by rw [List.getD_eq_getElem?_getD, h]; rfl
      rw [e]
      have h2 : tot (d.take s) + (x.length + 1) ≤ tot d := by
        have h3 := tot_app (d.take s) (d.drop s)
        rw [List.take_append_drop] at h3
        obtain ⟨hlt, hx⟩ := List.getElem?_eq_some_iff.1 h
        rw [List.drop_eq_getElem_cons hlt, hx, tot_cons] at h3
        omega
      omega
theorem wtot_app (x y : List Wr) : wtot (x ++ y) = wtot x + wtot y := by simp [wtot]
theorem wtot_le (ws : List Wr) (j : Nat) : wtot (ws.take j) ≤ wtot ws := by
  have := wtot_app (ws.take j) (ws.drop j)
  rw [List.take_append_drop] at this; omega
theorem wtot_mem {ws : List Wr} {w : Wr} (h : w ∈ ws) : w.2.2.length + 1 ≤ wtot ws := by
  induction ws with
  | nil => cases h
  | cons x ws ih =>
    show _ ≤ x.2.2.length + 1 + wtot ws
    rcases List.mem_cons.1 h with rfl | h
    · omega
    · have := ih h; omega
theorem wtot_len : ∀ ws : List Wr, ws.length ≤ wtot ws
  | [] => by simp
  | w :: ws => by
    have := wtot_len ws
    show ws.length + 1 ≤ w.2.2.length + 1 + wtot ws
    omega
theorem dirty_wtot : ∀ ws : List Wr, dirtyS ws + ws.length = wtot ws
  | [] => rfl
  | w :: ws => by
    have := dirty_wtot ws
    show w.2.2.length + dirtyS ws + (ws.length + 1) = w.2.2.length + 1 + wtot ws
    omega
theorem tot_steps : ∀ (ws : List Wr) (st : List Bytes × Nat), tot (ws.foldl stepD st).1 ≤ tot st.1 + wtot ws
  | [], st => by simp
  | w :: ws, st => by
    have h1 := tot_steps ws (stepD st w)
    have h2 := tot_getS st.1 w.1 w.2.1 w.2.2 (min st.2 w.2.2.length)
    have h3 : wtot (w :: ws) = w.2.2.length + 1 + wtot ws := rfl
    rw [List.foldl_cons, h3]
    have h4 : tot (stepD st w).1 = tot (getS st.1 w.1 w.2.1 w.2.2 (min st.2 w.2.2.length)) := rfl
    omega
theorem steps_mono : ∀ (ws : List Wr) (st : List Bytes × Nat), (ws.foldl stepD st).2 ≤ st.2
  | [], _ => Nat.le_refl _
  | w :: ws, st => by
    have h1 := steps_mono ws (stepD st w)
    have h2 : (stepD st w).2 = st.2 - min st.2 w.2.2.length := rfl
    rw [List.foldl_cons]; omega
theorem full_steps : ∀ (ws : List Wr) (st : List Bytes × Nat), 0 < (ws.foldl stepD st).2 → (ws.foldl stepD st).1 = fullD st.1 ws
  | [], _, _ => rfl
  | w :: ws, st, h => by
    rw [List.foldl_cons] at h ⊢
    have h1 := steps_mono ws (stepD st w)
    have h2 : (stepD st w).2 = st.2 - min st.2 w.2.2.length := rfl
    rw [full_steps ws _ h]
    unfold fullD
    rw [List.foldl_cons]
    show List.foldl _ (getS st.1 w.1 w.2.1 w.2.2 (min st.2 w.2.2.length)) ws = _
    rw [Nat.min_eq_right (by omega)]
theorem down_all (d : List Bytes) (ws : List Wr) : downS d ws (dirtyS ws) = fullD d ws := by
  unfold downS fullD
  have key : ∀ (ws : List Wr) (d : List Bytes) (n : Nat), (ws.foldl stepD (d, dirtyS ws + n)) = (ws.foldl (fun d w => getS d w.1 w.2.1 w.2.2 w.2.2.length) d, n) := by
    intro ws
    induction ws with
    | nil => intro d n; simp [dirtyS]
    | cons w ws ih =>
      intro d n
      rw [List.foldl_cons, List.foldl_cons]
      have e : dirtyS (w :: ws) = w.2.2.length + dirtyS ws := rfl
      have e2 : stepD (d, dirtyS (w :: ws) + n) w = (getS d w.1 w.2.1 w.2.2 w.2.2.length, dirtyS ws + n) := by
        unfold stepD
        rw [e]
        simp only
        rw [Nat.min_eq_right (by omega)]
        congr 1; omega
      rw [e2, ih]
  have := key ws d 0
  rw [Nat.add_zero] at this
  rw [this]
def LogS.full (s : LogS) : List Bytes := fullD s.segs s.ws
def LogS.big (s : LogS) : Nat := tot s.segs + wtot s.ws
/-- What holds of every log. -/
structure LogS.Ok (s : LogS) : Prop where
  ws : okD s.segs s.ws
  low : -1 ≤ s.cur
  cur : 0 ≤ s.cur → s.cur.toNat < s.full.length ∧ s.fin ≤ (s.full.getD s.cur.toNat []).length
theorem tot_full (d : List Bytes) (ws : List Wr) : tot (fullD d ws) ≤ tot d + wtot ws := by
  rw [← down_all]; exact tot_steps ws _
theorem LogS.Ok.fin_le {s : LogS} (k : s.Ok) (hc : 0 ≤ s.cur) : s.fin ≤ s.big := by
  obtain ⟨h1, h2⟩ := k.cur hc
  have h3 := getD_len_tot s.full s.cur.toNat
  have h4 : tot s.full ≤ tot s.segs + wtot s.ws := tot_full s.segs s.ws
  unfold LogS.big; omega
def putS (s : LogS) (seg at_ : Nat) (b : Bytes) (num frames : BitVec 32) : LogS := { s with ws := s.ws ++ [(seg, at_, b)], cur := seg, fin := at_ + b.length, num := num, frames := frames }
def beginS (s : LogS) (seg : Nat) (num : BitVec 32) (r : Bytes) : LogS := putS s seg 0 (headB num ++ frameB num 0#32 r) num 1#32
def addS (s : LogS) (r : Bytes) : LogS := if s.cur < 0 then beginS s 0 0#32 r else putS s s.cur.toNat s.fin (frameB s.num s.frames r) s.num (s.frames + 1#32)
def rollS (s : LogS) (r : Bytes) : LogS := if s.cur < 0 then beginS s 0 0#32 r else beginS s (s.cur.toNat + 1) (s.num + 1#32) r
def syncS (s : LogS) : LogS := if 0 < s.cur then { s with segs := s.full.drop s.cur.toNat, ws := [], cur := 0 } else { s with segs := s.full, ws := [] }
theorem full_snoc (d : List Bytes) (ws : List Wr) (w : Wr) : fullD d (ws ++ [w]) = getS (fullD d ws) w.1 w.2.1 w.2.2 w.2.2.length := by
  unfold fullD; rw [List.foldl_append]; rfl
theorem putS_ok {s : LogS} (k : s.Ok) {seg at_ : Nat} {b : Bytes} {num frames : BitVec 32} (hs : seg ≤ s.full.length) (ha : at_ ≤ (s.full.getD seg []).length) (hb : b ≠ []) : (putS s seg at_ b num frames).Ok := by
  have hb0 : b.length ≠ 0 := fun h => hb (List.eq_nil_of_length_eq_zero h)
  refine ⟨fun j w hj => ?_, by show -1 ≤ (seg : Int); omega, fun _ => ?_⟩
  · have hj : (s.ws ++ [(seg, at_, b)])[j]? = some w := hj
    show w.1 ≤ (fullD s.segs ((s.ws ++ [(seg, at_, b)]).take j)).length ∧ w.2.1 ≤ ((fullD s.segs ((s.ws ++ [(seg, at_, b)]).take j)).getD w.1 []).length ∧ w.2.2 ≠ []
    rw [List.getElem?_append] at hj
    split at hj
    · rename_i hlt
      rw [List.take_append_of_le_length (by omega)]
      exact k.ws j w hj
    · rename_i hge
      have hj0 : j = s.ws.length := by
        have := (List.getElem?_eq_some_iff.1 hj).1
        simp only [List.length_singleton] at this; omega
      subst hj0
      rw [Nat.sub_self] at hj
      cases hj
      rw [List.take_append_of_le_length (Nat.le_refl _), List.take_length]
      exact ⟨hs, ha, hb⟩
  · show ((seg : Int)).toNat < (fullD s.segs (s.ws ++ [(seg, at_, b)])).length ∧ at_ + b.length ≤ ((fullD s.segs (s.ws ++ [(seg, at_, b)])).getD ((seg : Int)).toNat []).length
    rw [full_snoc, Int.toNat_natCast]
    have e : fullD s.segs s.ws = s.full := rfl
    rw [e]
    simp only [getS, hb0, if_false]
    have hl : (s.full.take seg).length = seg := by rw [List.length_take]; omega
    refine ⟨by rw [List.length_append, hl]; simp, ?_⟩
    rw [List.getD_eq_getElem?_getD, List.getElem?_append_right (by omega), hl, Nat.sub_self]
    simp only [List.getElem?_cons_zero, Option.getD_some, List.length_append, List.length_take]
    omega
theorem beginS_ok {s : LogS} (k : s.Ok) {seg : Nat} {num : BitVec 32} {r : Bytes} (hs : seg ≤ s.full.length) : (beginS s seg num r).Ok :=
  putS_ok k hs (Nat.zero_le _) (by simp [headB, magicB])
theorem addS_ok {s : LogS} (k : s.Ok) (r : Bytes) : (addS s r).Ok := by
  unfold addS
  split
  · exact beginS_ok k (Nat.zero_le _)
  · obtain ⟨h1, h2⟩ := k.cur (by omega)
    exact putS_ok k (by omega) h2 (by simp [frameB, be32])
theorem rollS_ok {s : LogS} (k : s.Ok) (r : Bytes) : (rollS s r).Ok := by
  unfold rollS
  split
  · exact beginS_ok k (Nat.zero_le _)
  · obtain ⟨h1, h2⟩ := k.cur (by omega)
    exact beginS_ok k (by omega)
theorem syncS_ok {s : LogS} (k : s.Ok) : (syncS s).Ok := by
  unfold syncS
  split
  · rename_i hc
    obtain ⟨h1, h2⟩ := k.cur (by omega)
    refine ⟨fun j w hj => by simp at hj, by show (-1 : Int) ≤ 0; omega, fun _ => ?_⟩
    show (0 : Int).toNat < (fullD (s.full.drop s.cur.toNat) []).length ∧ s.fin ≤ ((fullD (s.full.drop s.cur.toNat) []).getD (0 : Int).toNat []).length
    have e : fullD (s.full.drop s.cur.toNat) [] = s.full.drop s.cur.toNat := rfl
    rw [e]
    refine ⟨by rw [List.length_drop]; show 0 < _; omega, ?_⟩
    show _ ≤ ((s.full.drop s.cur.toNat).getD 0 []).length
    rw [List.getD_eq_getElem?_getD, List.getElem?_drop, Nat.add_zero, ← List.getD_eq_getElem?_getD]
    exact h2
  · refine ⟨fun j w hj => by simp at hj, k.low, fun h => ?_⟩
    exact k.cur h
theorem putS_big (s : LogS) (seg at_ : Nat) (b : Bytes) (num frames : BitVec 32) : (putS s seg at_ b num frames).big = s.big + b.length + 1 := by
  show tot s.segs + wtot (s.ws ++ [(seg, at_, b)]) = tot s.segs + wtot s.ws + b.length + 1
  simp [wtot]; omega
theorem addS_big (s : LogS) (r : Bytes) : (addS s r).big ≤ s.big + r.length + 25 := by
  unfold addS beginS
  split <;> rw [putS_big] <;> simp only [List.length_append, headB_len, frameB_len] <;> omega
theorem rollS_big (s : LogS) (r : Bytes) : (rollS s r).big ≤ s.big + r.length + 25 := by
  unfold rollS beginS
  split <;> rw [putS_big] <;> simp only [List.length_append, headB_len, frameB_len] <;> omega
theorem syncS_big (s : LogS) : (syncS s).big ≤ s.big := by
  have h : tot s.full ≤ tot s.segs + wtot s.ws := tot_full s.segs s.ws
  unfold syncS
  split
  · show tot (s.full.drop s.cur.toNat) + 0 ≤ tot s.segs + wtot s.ws
    have := tot_drop s.full s.cur.toNat
    omega
  · show tot s.full + 0 ≤ tot s.segs + wtot s.ws
    omega
end Go.Proofs.YtbaglaoefaoaoaaDoor.F
