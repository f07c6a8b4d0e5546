/- What a segment's bytes tell, and what a disk holds, in plain Lean. Conditions: none. -/
import Derived.Test.YtbaglaoefaoaoaaDoorL6
namespace Go.Proofs.YtbaglaoefaoaoaaDoor.F
open Go Go.VC
set_option linter.unusedSimpArgs false
set_option linter.unusedVariables false

noncomputable def w32 (b : Bytes) (i : Nat) : BitVec 32 := un32 (b.getD i 0) (b.getD (i + 1) 0) (b.getD (i + 2) 0) (b.getD (i + 3) 0)
theorem drop_four {b : Bytes} {i : Nat} (h : i + 4 ≤ b.length) : b.drop i = b.getD i 0 :: b.getD (i + 1) 0 :: b.getD (i + 2) 0 :: b.getD (i + 3) 0 :: b.drop (i + 4) := by
  have e : ∀ j, j < b.length → b.drop j = b.getD j 0 :: b.drop (j + 1) := fun j hj => by
    rw [List.drop_eq_getElem_cons hj, List.getD_eq_getElem?_getD, List.getElem?_eq_getElem hj]; rfl
  rw [e i (by omega), e (i + 1) (by omega), e (i + 2) (by omega), e (i + 3) (by omega)]
theorem w32_cut {b : Bytes} {lo hi : Nat} (i : Nat) (h : lo + i + 4 ≤ hi) : w32 ((b.take hi).drop lo) i = w32 b (lo + i) := by
  have e : ∀ j, lo + j < hi → ((b.take hi).drop lo).getD j 0 = b.getD (lo + j) 0 := fun j hj => by
    rw [List.getD_eq_getElem?_getD, List.getElem?_drop, List.getElem?_take, if_pos hj, ← List.getD_eq_getElem?_getD]
  unfold w32
  rw [e i (by omega), e (i + 1) (by omega), e (i + 2) (by omega), e (i + 3) (by omega)]
  rfl
theorem w32_drop (b : Bytes) (lo i : Nat) : w32 (b.drop lo) i = w32 b (lo + i) := by
  have e : ∀ j, (b.drop lo).getD j 0 = b.getD (lo + j) 0 := fun j => by
    rw [List.getD_eq_getElem?_getD, List.getElem?_drop, ← List.getD_eq_getElem?_getD]
  unfold w32
  rw [e, e, e, e]; rfl
noncomputable def framesS (num : BitVec 32) : Nat → Bytes → List Bytes → Nat → Option (List Bytes × Nat)
  | 0, _, recs, fin => some (recs, fin)
  | f + 1, left, recs, fin =>
    if left.length < 12 then some (recs, fin)
    else if 1048576 < (w32 left 0).toNat ∨ w32 left 8 ≠ thirdB num (BitVec.ofNat 32 recs.length) (w32 left 0) (w32 left 4) then none
    else if left.length < 12 + (w32 left 0).toNat then some (recs, fin)
    else if crc ((left.drop 12).take (w32 left 0).toNat) ≠ w32 left 4 then none
    else framesS num f (left.drop (12 + (w32 left 0).toNat)) (recs ++ [(left.drop 12).take (w32 left 0).toNat]) (fin + (12 + (w32 left 0).toNat))
structure RdS where
  short : Bool
  num : BitVec 32
  recs : List Bytes
  fin : Nat
noncomputable def readS (b : Bytes) : Option RdS :=
  if b.length < 12 then some ⟨true, 0#32, [], 12⟩
  else if b.take 4 ≠ magicB ∨ w32 b 8 ≠ crc (b.take 8) then none
  else (framesS (w32 b 4) b.length (b.drop 12) [] 12).map fun x => ⟨false, w32 b 4, x.1, x.2⟩
structure OpS where
  s : LogS
  recs : List Bytes
  last : BitVec 32
noncomputable def openStep (n i : Nat) (st : OpS) (b : Bytes) : Option OpS :=
  match readS b with
  | none => none
  | some r =>
    if (i + 1 < n ∧ r.recs = []) ∨ (r.short = false ∧ 0 < i ∧ r.num ≠ st.last + 1#32) then none
    else if r.recs = [] then some { st with last := r.num }
    else some ⟨{ st.s with cur := i, num := r.num, frames := BitVec.ofNat 32 r.recs.length, fin := r.fin }, r.recs, r.num⟩
noncomputable def openL (n : Nat) : List Bytes → Nat → OpS → Option OpS
  | [], _, st => some st
  | b :: r, i, st => (openStep n i st b).bind (openL n r (i + 1))
def open0 (segs : List Bytes) : OpS := ⟨⟨segs, [], -1, 0#32, 0#32, 0⟩, [], 0#32⟩
noncomputable def openS (segs : List Bytes) : Option OpS := openL segs.length segs 0 (open0 segs)
/-- A place of the reading: how far it is, and what was read. -/
theorem frames_len {num : BitVec 32} : ∀ {f : Nat} {left : Bytes} {recs : List Bytes} {fin : Nat} {r : List Bytes} {e : Nat}, framesS num f left recs fin = some (r, e) → fin ≤ e ∧ e ≤ fin + left.length ∧ tot r + fin ≤ tot recs + e
  | 0, left, recs, fin, r, e, h => by
    simp only [framesS, Option.some.injEq, Prod.mk.injEq] at h
    obtain ⟨rfl, rfl⟩ := h
    omega
  | f + 1, left, recs, fin, r, e, h => by
    unfold framesS at h
    split at h
    · simp only [Option.some.injEq, Prod.mk.injEq] at h
      obtain ⟨rfl, rfl⟩ := h
      omega
    split at h
    · cases h
    split at h
    · simp only [Option.some.injEq, Prod.mk.injEq] at h
      obtain ⟨rfl, rfl⟩ := h
      omega
    split at h
    · cases h
    rename_i h1 h2 h3 h4
    have := frames_len h
    rw [List.length_drop, tot_app] at this
    have e1 : tot [(left.drop 12).take (w32 left 0).toNat] = min (w32 left 0).toNat (left.length - 12) + 1 := by simp [tot]
    rw [e1] at this
    omega
theorem readS_fin {b : Bytes} {r : RdS} (h : readS b = some r) (hr : r.recs ≠ []) : r.fin ≤ b.length ∧ r.short = false := by
  unfold readS at h
  split at h
  · cases h; exact absurd rfl hr
  split at h
  · cases h
  rename_i hl _
  obtain ⟨⟨recs, fin⟩, h1, rfl⟩ := Option.map_eq_some_iff.1 h
  have := frames_len h1
  rw [List.length_drop] at this
  exact ⟨by simp only; omega, rfl⟩
theorem readS_tot {b : Bytes} {r : RdS} (h : readS b = some r) : tot r.recs ≤ b.length ∧ r.recs.length ≤ b.length ∧ r.fin ≤ b.length + 12 := by
  unfold readS at h
  split at h
  · cases h; simp [tot]
  split at h
  · cases h
  rename_i hl _
  obtain ⟨⟨recs, fin⟩, h1, rfl⟩ := Option.map_eq_some_iff.1 h
  have := frames_len h1
  rw [List.length_drop] at this
  have h2 := tot_len recs
  have e1 : tot ([] : List Bytes) = 0 := rfl
  rw [e1] at this
  simp only
  omega
/-- What is opened is a log. -/
def OpS.Ok (segs : List Bytes) (i : Nat) (st : OpS) : Prop := st.s.segs = segs ∧ st.s.ws = [] ∧ -1 ≤ st.s.cur ∧ st.s.cur < i ∧ (0 ≤ st.s.cur → ∃ b, segs[st.s.cur.toNat]? = some b ∧ st.s.fin ≤ b.length) ∧ tot st.recs ≤ tot segs ∧ st.s.fin ≤ tot segs
theorem openStep_ok {segs : List Bytes} {n i : Nat} {st st' : OpS} {b : Bytes} (k : st.Ok segs i) (hb : segs[i]? = some b) (h : openStep n i st b = some st') : st'.Ok segs (i + 1) := by
  obtain ⟨k1, k2, k3, k4, k5, k6, k7⟩ := k
  unfold openStep at h
  split at h
  · cases h
  rename_i r hr
  split at h
  · cases h
  split at h
  · cases h
    exact ⟨k1, k2, k3, by simp only; omega, k5, k6, k7⟩
  · rename_i hne
    cases h
    have hf := readS_fin hr hne
    have ht := readS_tot hr
    have hbt := tot_get hb
    exact ⟨k1, k2, by simp only; omega, by simp only; omega, fun _ => ⟨b, by simpa using hb, hf.1⟩, by simp only; omega, by simp only; omega⟩
theorem openL_ok {segs : List Bytes} {n : Nat} : ∀ {r : List Bytes} {i : Nat} {st st' : OpS}, st.Ok segs i → segs.drop i = r → openL n r i st = some st' → st'.Ok segs segs.length
  | [], i, st, st', k, hd, h => by
    cases h
    obtain ⟨k1, k2, k3, k4, k5, k6, k7⟩ := k
    refine ⟨k1, k2, k3, ?_, k5, k6, k7⟩
    by_cases hc : 0 ≤ st.s.cur
    · obtain ⟨b, hb, _⟩ := k5 hc
      have := (List.getElem?_eq_some_iff.1 hb).1
      omega
    · omega
  | b :: r, i, st, st', k, hd, h => by
    unfold openL at h
    obtain ⟨st1, h1, h2⟩ := Option.bind_eq_some_iff.1 h
    have hb : segs[i]? = some b := by
      have : (segs.drop i)[0]? = some b := by rw [hd]; rfl
      rw [List.getElem?_drop, Nat.add_zero] at this; exact this
    have hd' : segs.drop (i + 1) = r := by
      rw [← List.drop_drop, hd]; rfl
    exact openL_ok (openStep_ok k hb h1) hd' h2
theorem openS_ok {segs : List Bytes} {st : OpS} (h : openS segs = some st) : st.s.Ok ∧ st.s.segs = segs ∧ st.s.ws = [] ∧ tot st.recs ≤ tot segs ∧ st.s.fin ≤ tot segs := by
  have k : (open0 segs).Ok segs 0 := ⟨rfl, rfl, Int.le_refl _, by show (-1 : Int) < 0; omega, fun h => absurd h (by show ¬ (0 : Int) ≤ -1; omega), Nat.zero_le _, Nat.zero_le _⟩
  obtain ⟨k1, k2, k3, k4, k5, k6, k7⟩ := openL_ok k rfl h
  have hful : st.s.full = segs := by
    unfold LogS.full; rw [k1, k2]; rfl
  refine ⟨⟨by rw [k2]; intro j w hj; simp at hj, k3, fun h0 => ?_⟩, k1, k2, k6, k7⟩
  obtain ⟨b, hb, hf⟩ := k5 h0
  rw [hful]
  exact ⟨(List.getElem?_eq_some_iff.1 hb).1, by rw [List.getD_eq_getElem?_getD, hb]; exact hf⟩
end Go.Proofs.YtbaglaoefaoaoaaDoor.F
