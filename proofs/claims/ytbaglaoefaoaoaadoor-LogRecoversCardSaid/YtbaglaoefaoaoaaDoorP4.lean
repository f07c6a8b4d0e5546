/- What is written as a segment is read back; torn frames are not read. Conditions: none. -/
import Derived.Test.YtbaglaoefaoaoaaDoorP3
namespace Go.Proofs.YtbaglaoefaoaoaaDoor.F
open Go Go.VC
set_option linter.unusedSimpArgs false
set_option linter.unusedVariables false

theorem w32_be (x : BitVec 32) (r : Bytes) : w32 (be32 x ++ r) 0 = x := by
  unfold w32
  exact un32_be x
theorem w32_app {a : Bytes} (b : Bytes) {n : Nat} (h : a.length = n) (i : Nat) : w32 (a ++ b) (n + i) = w32 b i := by
  rw [← w32_drop, ← h, List.drop_left]
/-- The words of a frame. -/
theorem frame_words (seg fr : BitVec 32) (r x : Bytes) : w32 (frameB seg fr r ++ x) 0 = BitVec.ofNat 32 r.length ∧ w32 (frameB seg fr r ++ x) 4 = crc r ∧ w32 (frameB seg fr r ++ x) 8 = thirdB seg fr (BitVec.ofNat 32 r.length) (crc r) := by
  unfold frameB
  simp only [List.append_assoc]
  refine ⟨w32_be _ _, ?_, ?_⟩
  · rw [show (4 : Nat) = 4 + 0 from rfl, w32_app _ (be32_len _), w32_be]
  · rw [show (8 : Nat) = 4 + 4 from rfl, w32_app _ (be32_len _), show (4 : Nat) = 4 + 0 from rfl, w32_app _ (be32_len _), w32_be]
theorem w32_take {b : Bytes} {n i : Nat} (h : i + 4 ≤ n) : w32 (b.take n) i = w32 b i := by
  have := w32_cut (b := b) (lo := 0) (hi := n) i (by omega)
  rw [List.drop_zero, Nat.zero_add] at this
  exact this
/-- More fuel changes nothing. -/
theorem frames_fuel {num : BitVec 32} : ∀ (f g : Nat) (left : Bytes) (recs : List Bytes) (fin : Nat), left.length ≤ f → left.length ≤ g → framesS num f left recs fin = framesS num g left recs fin
  | 0, 0, _, _, _, _, _ => rfl
  | 0, g + 1, left, recs, fin, h, _ => by
    have : left.length < 12 := by omega
    rw [framesS, framesS, if_pos this]
  | f + 1, 0, left, recs, fin, _, h => by
    have : left.length < 12 := by omega
    rw [framesS, framesS, if_pos this]
  | f + 1, g + 1, left, recs, fin, hf, hg => by
    rw [framesS, framesS]
    split
    · rfl
    split
    · rfl
    split
    · rfl
    split
    · rfl
    exact frames_fuel f g _ _ _ (by rw [List.length_drop]; omega) (by rw [List.length_drop]; omega)
/-- A whole frame is read. -/
theorem frames_one {num : BitVec 32} {r x : Bytes} {recs : List Bytes} {fin f : Nat} (hr : r.length ≤ 1048576) (hf : (frameB num (BitVec.ofNat 32 recs.length) r ++ x).length ≤ f) :
    framesS num f (frameB num (BitVec.ofNat 32 recs.length) r ++ x) recs fin = framesS num x.length x (recs ++ [r]) (fin + (12 + r.length)) := by
  obtain ⟨w0, w4, w8⟩ := frame_words num (BitVec.ofNat 32 recs.length) r x
  have hlen : (frameB num (BitVec.ofNat 32 recs.length) r ++ x).length = 12 + r.length + x.length := by rw [List.length_append, frameB_len]
  obtain ⟨g, rfl⟩ : ∃ g, f = g + 1 := ⟨f - 1, by omega⟩
  have hn : (BitVec.ofNat 32 r.length).toNat = r.length := by rw [BitVec.toNat_ofNat]; omega
  have h12 : (be32 (BitVec.ofNat 32 r.length) ++ be32 (crc r) ++ be32 (thirdB num (BitVec.ofNat 32 recs.length) (BitVec.ofNat 32 r.length) (crc r))).length = 12 := rfl
  have hd : (frameB num (BitVec.ofNat 32 recs.length) r ++ x).drop 12 = r ++ x := by
    unfold frameB
    rw [List.append_assoc]
    rw [← h12, List.drop_left]
  have ht : ((frameB num (BitVec.ofNat 32 recs.length) r ++ x).drop 12).take r.length = r := by rw [hd, List.take_left]
  have hd2 : (frameB num (BitVec.ofNat 32 recs.length) r ++ x).drop (12 + r.length) = x := by rw [← List.drop_drop, hd, List.drop_left]
  rw [framesS, if_neg (by omega), w0, w4, w8, hn, if_neg (by simp; omega), if_neg (by omega), ht, if_neg (by simp), hd2]
  exact frames_fuel _ _ _ _ _ (by omega) (Nat.le_refl _)
/-- A torn frame is not. -/
theorem frames_torn {num fr : BitVec 32} {r : Bytes} {recs : List Bytes} {fin f n : Nat} (hr : r.length ≤ 1048576) (hfr : fr = BitVec.ofNat 32 recs.length) (hn : n < 12 + r.length) :
    framesS num f ((frameB num fr r).take n) recs fin = some (recs, fin) := by
  subst hfr
  have hlen : ((frameB num (BitVec.ofNat 32 recs.length) r).take n).length = n := by rw [List.length_take, frameB_len]; omega
  cases f with
  | zero => rfl
  | succ f =>
    rw [framesS]
    by_cases h12 : n < 12
    · rw [if_pos (by omega)]
    · rw [if_neg (by omega)]
      obtain ⟨w0, w4, w8⟩ := frame_words num (BitVec.ofNat 32 recs.length) r []
      rw [List.append_nil] at w0 w4 w8
      have hn' : (BitVec.ofNat 32 r.length).toNat = r.length := by rw [BitVec.toNat_ofNat]; omega
      rw [w32_take (by omega), w32_take (by omega), w32_take (by omega), w0, w4, w8, hn', if_neg (by simp; omega), if_pos (by omega)]
theorem frames_nil {num : BitVec 32} {recs : List Bytes} {fin f : Nat} : framesS num f [] recs fin = some (recs, fin) := by
  cases f with
  | zero => rfl
  | succ f => rw [framesS, if_pos (by simp)]
/-- A head, and what comes behind it. -/
theorem read_head (num : BitVec 32) (x : Bytes) : readS (headB num ++ x) = (framesS num x.length x [] 12).map fun y => ⟨false, num, y.1, y.2⟩ := by
  have hlen : (headB num ++ x).length = 12 + x.length := by rw [List.length_append, headB_len]
  have hm : (headB num ++ x).take 4 = magicB := by
    unfold headB
    rw [List.append_assoc, List.append_assoc]; rfl
  have h8 : (headB num ++ x).take 8 = magicB ++ be32 num := by
    unfold headB
    rw [List.append_assoc]
    exact List.take_left (l₁ := magicB ++ be32 num)
  have w4 : w32 (headB num ++ x) 4 = num := by
    unfold headB
    rw [List.append_assoc, List.append_assoc, show (4 : Nat) = 4 + 0 from rfl, w32_app (a := magicB) (n := 4) _ rfl, w32_be]
  have w8 : w32 (headB num ++ x) 8 = crc (magicB ++ be32 num) := by
    unfold headB
    rw [List.append_assoc, show (8 : Nat) = 8 + 0 from rfl, w32_app (a := magicB ++ be32 num) (n := 8) _ rfl, w32_be]
  have hd : (headB num ++ x).drop 12 = x := by rw [← headB_len num, List.drop_left]
  unfold readS
  rw [if_neg (by omega), hm, h8, w4, w8, if_neg (by simp), hd]
  rw [frames_fuel _ x.length _ _ _ (by omega) (Nat.le_refl _)]
theorem read_short {b : Bytes} (h : b.length < 12) : readS b = some ⟨true, 0#32, [], 12⟩ := by
  unfold readS; rw [if_pos h]
/-- A new segment with its record: whole, and torn. -/
theorem read_first {num : BitVec 32} {r : Bytes} (hr : r.length ≤ 1048576) : readS (headB num ++ frameB num 0#32 r) = some ⟨false, num, [r], 12 + (12 + r.length)⟩ := by
  rw [read_head]
  have h := frames_one (num := num) (r := r) (x := []) (recs := []) (fin := 12) (f := (frameB num 0#32 r).length) hr (by rw [List.append_nil]; exact Nat.le_refl _)
  rw [List.append_nil] at h
  have e : (BitVec.ofNat 32 ([] : List Bytes).length) = 0#32 := rfl
  rw [e] at h
  rw [h, frames_nil]; rfl
theorem read_first_torn {num : BitVec 32} {r : Bytes} {n : Nat} (hr : r.length ≤ 1048576) (hn : n < 12 + (12 + r.length)) :
    ∃ rd, readS ((headB num ++ frameB num 0#32 r).take n) = some rd ∧ rd.recs = [] ∧ (rd.short = false → rd.num = num) := by
  by_cases h12 : n < 12
  · exact ⟨_, read_short (by rw [List.length_take]; omega), rfl, fun h => by cases h⟩
  · have e : (headB num ++ frameB num 0#32 r).take n = headB num ++ (frameB num 0#32 r).take (n - 12) := by
      rw [List.take_append, headB_len, List.take_of_length_le (by rw [headB_len]; omega)]
    rw [e, read_head, frames_torn (fr := 0#32) (n := n - 12) (recs := []) hr rfl (by omega)]
    exact ⟨_, rfl, rfl, fun _ => rfl⟩
/-! ### The first call -/
def ab : Bytes := [97, 98]
def seg0 : Bytes := headB 0#32 ++ frameB 0#32 0#32 ab
theorem seg0_len : seg0.length = 26 := rfl
theorem seg0_8 : seg0[8]? = some 21 := by decide +kernel
theorem seg0_20 : seg0[20]? = some 35 := by decide +kernel
theorem open_none : openS [] = some (open0 []) := rfl
theorem add_ab : addS (open0 []).s ab = beginS (open0 []).s 0 0#32 ab := rfl
theorem down_ab : downS (addS (open0 []).s ab).segs (addS (open0 []).s ab).ws 99 = [seg0] := by
  rw [add_ab]
  show downS [] [(0, 0, seg0)] 99 = [seg0]
  unfold downS
  simp only [List.foldl_cons, List.foldl_nil, stepD, seg0_len]
  have e : min 99 26 = 26 := rfl
  rw [e]
  unfold getS
  rw [if_neg (by omega)]
  simp only [List.take_nil, List.nil_append, List.getD_nil]
  rw [← seg0_len, List.take_length]
theorem dirty_ab : dirtyS (addS (open0 []).s ab).ws = 26 := rfl
theorem open_ab : ∃ st, openS [seg0] = some st ∧ st.recs = [ab] := by
  have h : readS seg0 = some ⟨false, 0#32, [ab], 12 + (12 + 2)⟩ := read_first (num := 0#32) (r := ab) (by decide)
  unfold openS
  simp only [openL, List.length_singleton]
  unfold openStep
  rw [h]
  exact ⟨_, rfl, rfl⟩
end Go.Proofs.YtbaglaoefaoaoaaDoor.F
