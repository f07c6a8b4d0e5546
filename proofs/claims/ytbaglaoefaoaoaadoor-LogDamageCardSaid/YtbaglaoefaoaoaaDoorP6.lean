/- A sum tells every byte that is another one; a segment with such a byte, or with a frame in a wrong place, is refused. Conditions: none. -/
import Derived.Test.YtbaglaoefaoaoaaDoorP5
namespace Go.Proofs.YtbaglaoefaoaoaaDoor.F
open Go Go.VC
set_option linter.unusedSimpArgs false
set_option linter.unusedVariables false

theorem stepC_inj {r r' : BitVec 32} (h : stepC r = stepC r') : r = r' := by
  rw [stepC_mask, stepC_mask] at h
  have top : ∀ x : BitVec 32, (x >>> 1 ^^^ maskC (x.getLsbD 0)).getLsbD 31 = x.getLsbD 0 := by
    intro x
    rw [BitVec.getLsbD_xor, BitVec.getLsbD_ushiftRight, BitVec.getLsbD_of_ge x (1 + 31) (by omega)]
    cases x.getLsbD 0
    · simp [maskC]
    · decide
  have b0 : r.getLsbD 0 = r'.getLsbD 0 := by rw [← top r, ← top r', h]
  rw [b0] at h
  have h2 : r >>> 1 = r' >>> 1 := by
    have := congrArg (· ^^^ maskC (r'.getLsbD 0)) h
    simpa only [BitVec.xor_assoc, BitVec.xor_self, BitVec.xor_zero] using this
  apply BitVec.eq_of_getLsbD_eq
  intro i hi
  cases i with
  | zero => exact b0
  | succ i =>
    have := congrArg (·.getLsbD i) h2
    simp only [BitVec.getLsbD_ushiftRight] at this
    rw [Nat.add_comm i 1]; exact this
theorem crcB_st {r r' : BitVec 32} {b : UInt8} (h : crcB r b = crcB r' b) : r = r' := by
  unfold crcB at h
  have h := stepC_inj (stepC_inj (stepC_inj (stepC_inj (stepC_inj (stepC_inj (stepC_inj (stepC_inj h)))))))
  have := congrArg (· ^^^ b.toBitVec.setWidth 32) h
  simpa only [BitVec.xor_assoc, BitVec.xor_self, BitVec.xor_zero] using this
theorem crcB_by {r : BitVec 32} {b c : UInt8} (h : crcB r b = crcB r c) : b = c := by
  unfold crcB at h
  have h := stepC_inj (stepC_inj (stepC_inj (stepC_inj (stepC_inj (stepC_inj (stepC_inj (stepC_inj h)))))))
  have := congrArg (r ^^^ ·) h
  simp only [← BitVec.xor_assoc, BitVec.xor_self, BitVec.zero_xor] at this
  have h2 := congrArg BitVec.toNat this
  rw [BitVec.toNat_setWidth, BitVec.toNat_setWidth] at h2
  have hb := b.toNat_lt
  have hc := c.toNat_lt
  have eb : b.toBitVec.toNat = b.toNat := rfl
  have ec : c.toBitVec.toNat = c.toNat := rfl
  rw [eb, ec] at h2
  exact UInt8.toNat_inj.1 (by omega)
theorem fold_st : ∀ (y : Bytes) {r r' : BitVec 32}, y.foldl crcB r = y.foldl crcB r' → r = r'
  | [], _, _, h => h
  | b :: y, _, _, h => crcB_st (fold_st y h)
theorem crc_one {x y : Bytes} {a b : UInt8} (h : crc (x ++ a :: y) = crc (x ++ b :: y)) : a = b := by
  unfold crc at h
  have := congrArg (· ^^^ 0xffffffff#32) h
  simp only [BitVec.xor_assoc, BitVec.xor_self, BitVec.xor_zero] at this
  rw [List.foldl_append, List.foldl_append, List.foldl_cons, List.foldl_cons] at this
  exact crcB_by (fold_st y this)
theorem set_at {l : Bytes} {t : Nat} (h : t < l.length) (v : UInt8) : l.set t v = l.take t ++ v :: l.drop (t + 1) := List.set_eq_take_append_cons_drop.trans (if_pos h)
theorem self_at {l : Bytes} {t : Nat} (h : t < l.length) : l = l.take t ++ l.getD t 0 :: l.drop (t + 1) := by
  have e := List.drop_eq_getElem_cons h
  have e2 : l.getD t 0 = l[t] := by rw [List.getD_eq_getElem?_getD, List.getElem?_eq_getElem h]; rfl
  rw [e2, ← e, List.take_append_drop]
theorem crc_set {p l : Bytes} {t : Nat} {v : UInt8} (h : t < l.length) (hv : l.getD t 0 ≠ v) : crc (p ++ l.set t v) ≠ crc (p ++ l) := by
  intro e
  rw [set_at h, ← List.append_assoc] at e
  conv at e => rhs; rw [self_at h, ← List.append_assoc]
  exact hv (crc_one e).symm
theorem getD_set_ne (l : Bytes) {t j : Nat} (v : UInt8) (h : j ≠ t) : (l.set t v).getD j 0 = l.getD j 0 := by
  rw [List.getD_eq_getElem?_getD, List.getElem?_set_ne (Ne.symm h), ← List.getD_eq_getElem?_getD]
theorem getD_set {l : Bytes} {t : Nat} (v : UInt8) (h : t < l.length) : (l.set t v).getD t 0 = v := by
  rw [List.getD_eq_getElem?_getD, List.getElem?_set_self h]; rfl
theorem w32_set {l : Bytes} {t i : Nat} (v : UInt8) (h : t < i ∨ i + 4 ≤ t) : w32 (l.set t v) i = w32 l i := by
  unfold w32
  rw [getD_set_ne l v (by omega), getD_set_ne l v (by omega), getD_set_ne l v (by omega), getD_set_ne l v (by omega)]
theorem w32_set_ne {l : Bytes} {t i : Nat} {v : UInt8} (h : t < l.length) (h1 : i ≤ t) (h2 : t < i + 4) (hv : l.getD t 0 ≠ v) : w32 (l.set t v) i ≠ w32 l i := by
  intro e
  have e := congrArg be32 e
  unfold w32 at e
  rw [be32_un, be32_un] at e
  simp only [List.cons.injEq, and_true] at e
  obtain ⟨e0, e1, e2, e3⟩ := e
  have : t = i ∨ t = i + 1 ∨ t = i + 2 ∨ t = i + 3 := by omega
  rcases this with rfl | rfl | rfl | rfl
  · rw [getD_set v h] at e0; exact hv e0.symm
  · rw [getD_set v h] at e1; exact hv e1.symm
  · rw [getD_set v h] at e2; exact hv e2.symm
  · rw [getD_set v h] at e3; exact hv e3.symm
theorem take_8 {l : Bytes} (h : 8 ≤ l.length) : l.take 8 = be32 (w32 l 0) ++ be32 (w32 l 4) := by
  have e := drop_four (b := l) (i := 0) (by omega)
  have e2 := drop_four (b := l) (i := 4) (by omega)
  rw [List.drop_zero] at e
  have e3 : l.take 8 = (l.getD 0 0 :: l.getD 1 0 :: l.getD 2 0 :: l.getD 3 0 :: l.getD 4 0 :: l.getD 5 0 :: l.getD 6 0 :: l.getD 7 0 :: l.drop 8).take 8 := by
    conv => lhs; rw [e]
    show (_ :: _ :: _ :: _ :: l.drop 4).take 8 = _
    rw [e2]
  rw [e3]
  unfold w32
  rw [be32_un, be32_un]; rfl

/-! ### Segments -/
def framesB (num : BitVec 32) : Nat → List Bytes → Bytes
  | _, [] => []
  | i, r :: rs => frameB num (BitVec.ofNat 32 i) r ++ framesB num (i + 1) rs
def flen (rs : List Bytes) : Nat := (rs.map fun r => 12 + r.length).sum
theorem flen_cons (r : Bytes) (rs : List Bytes) : flen (r :: rs) = 12 + r.length + flen rs := rfl
theorem flen_app (a b : List Bytes) : flen (a ++ b) = flen a + flen b := by simp [flen]
theorem framesB_len (num : BitVec 32) : ∀ (rs : List Bytes) (i : Nat), (framesB num i rs).length = flen rs
  | [], _ => rfl
  | r :: rs, i => by rw [framesB, List.length_append, frameB_len, framesB_len num rs (i + 1), flen_cons]
theorem framesB_app (num : BitVec 32) : ∀ (a b : List Bytes) (i : Nat), framesB num i (a ++ b) = framesB num i a ++ framesB num (i + a.length) b
  | [], b, i => rfl
  | r :: a, b, i => by
    rw [List.cons_append, framesB, framesB, framesB_app num a b (i + 1), List.append_assoc, List.length_cons, show i + 1 + a.length = i + (a.length + 1) by omega]
def segB (num : BitVec 32) (rs : List Bytes) : Bytes := headB num ++ framesB num 0 rs
theorem segB_len (num : BitVec 32) (rs : List Bytes) : (segB num rs).length = 12 + flen rs := by unfold segB; rw [List.length_append, headB_len, framesB_len]
theorem segB_snoc (num : BitVec 32) (rs : List Bytes) (r : Bytes) : segB num (rs ++ [r]) = segB num rs ++ frameB num (BitVec.ofNat 32 rs.length) r := by
  unfold segB
  rw [framesB_app, Nat.zero_add, ← List.append_assoc]
  show _ ++ (frameB _ _ _ ++ []) = _
  rw [List.append_nil]
/-- Whole frames are read. -/
theorem frames_pre {num : BitVec 32} {x : Bytes} : ∀ {rs recs : List Bytes} {fin f : Nat}, (∀ r ∈ rs, r.length ≤ 1048576) → (framesB num recs.length rs ++ x).length ≤ f →
    framesS num f (framesB num recs.length rs ++ x) recs fin = framesS num x.length x (recs ++ rs) (fin + flen rs)
  | [], recs, fin, f, _, hf => by
    rw [List.append_nil]
    exact frames_fuel _ _ _ _ _ hf (Nat.le_refl _)
  | r :: rs, recs, fin, f, hr, hf => by
    rw [framesB, List.append_assoc] at hf ⊢
    rw [frames_one (hr r List.mem_cons_self) hf]
    have e : recs.length + 1 = (recs ++ [r]).length := by simp
    rw [e, frames_pre (fun y hy => hr y (List.mem_cons_of_mem _ hy)) (Nat.le_refl _), List.append_assoc, flen_cons, Nat.add_assoc]; rfl
theorem be32_low {x : BitVec 32} (h : x.toNat < 256) : be32 x = [0, 0, 0, UInt8.ofNat x.toNat] := by
  unfold be32
  rw [Nat.div_eq_of_lt (by omega), Nat.div_eq_of_lt (by omega), Nat.div_eq_of_lt (by omega)]; rfl
theorem third_fr {num a b n s : BitVec 32} (ha : a.toNat < 256) (hb : b.toNat < 256) (h : thirdB num a n s = thirdB num b n s) : a = b := by
  unfold thirdB at h
  rw [be32_low ha, be32_low hb] at h
  simp only [List.append_assoc] at h
  have h : crc ((be32 num ++ [0, 0, 0]) ++ UInt8.ofNat a.toNat :: (be32 n ++ be32 s)) = crc ((be32 num ++ [0, 0, 0]) ++ UInt8.ofNat b.toNat :: (be32 n ++ be32 s)) := by
    simpa only [List.append_assoc, List.cons_append, List.nil_append] using h
  have := congrArg UInt8.toNat (crc_one h)
  rw [UInt8.toNat_ofNat', UInt8.toNat_ofNat'] at this
  exact BitVec.eq_of_toNat_eq (by omega)
/-- A frame in a wrong place is told. -/
theorem frames_wrong {num fr : BitVec 32} {r x : Bytes} {recs : List Bytes} {fin f : Nat} (hf : (frameB num fr r ++ x).length ≤ f) (h1 : fr.toNat < 256) (h2 : recs.length < 256) (hne : fr.toNat ≠ recs.length) :
    framesS num f (frameB num fr r ++ x) recs fin = none := by
  obtain ⟨w0, w4, w8⟩ := frame_words num fr r x
  have hlen : (frameB num fr r ++ x).length = 12 + r.length + x.length := by rw [List.length_append, frameB_len]
  obtain ⟨g, rfl⟩ : ∃ g, f = g + 1 := ⟨f - 1, by omega⟩
  rw [framesS, if_neg (by omega), if_pos]
  right
  rw [w0, w4, w8]
  have e : (BitVec.ofNat 32 recs.length).toNat = recs.length := by rw [BitVec.toNat_ofNat]; omega
  intro h
  have := third_fr h1 (by omega) h
  rw [this, e] at hne
  exact hne rfl
/-- A byte that is another one is told. -/
theorem frames_bad {num : BitVec 32} {v : UInt8} : ∀ {rs recs : List Bytes} {fin f t : Nat}, (∀ r ∈ rs, r.length ≤ 1048576) → (framesB num recs.length rs).length ≤ f → t < (framesB num recs.length rs).length → (framesB num recs.length rs).getD t 0 ≠ v →
    framesS num f ((framesB num recs.length rs).set t v) recs fin = none
  | [], recs, fin, f, t, _, _, ht, _ => by simp [framesB] at ht
  | r :: rs, recs, fin, f, t, hr, hf, ht, hv => by
    have hr1 := hr r List.mem_cons_self
    rw [framesB] at hf ht hv ⊢
    have hfl := frameB_len num (BitVec.ofNat 32 recs.length) r
    have hL : (frameB num (BitVec.ofNat 32 recs.length) r ++ framesB num (recs.length + 1) rs).length = 12 + r.length + (framesB num (recs.length + 1) rs).length := by rw [List.length_append, hfl]
    by_cases h1 : 12 + r.length ≤ t
    · have e : recs.length + 1 = (recs ++ [r]).length := by simp
      rw [List.set_append_right t v (by omega), hfl]
      have ht' : t - (12 + r.length) < (framesB num (recs.length + 1) rs).length := by omega
      have hv' : (framesB num (recs.length + 1) rs).getD (t - (12 + r.length)) 0 ≠ v := by
        rw [List.getD_eq_getElem?_getD, List.getElem?_append_right (by omega), hfl, ← List.getD_eq_getElem?_getD] at hv
        exact hv
      rw [frames_one hr1 (by rw [List.length_append, List.length_set, hfl]; omega)]
      rw [e] at ht' hv' ⊢
      refine frames_bad (fun y hy => hr y (List.mem_cons_of_mem _ hy)) (by rw [List.length_set]; exact Nat.le_refl _) ht' hv'
    · obtain ⟨w0, w4, w8⟩ := frame_words num (BitVec.ofNat 32 recs.length) r (framesB num (recs.length + 1) rs)
      generalize hl : frameB num (BitVec.ofNat 32 recs.length) r ++ framesB num (recs.length + 1) rs = l at *
      have hn : (BitVec.ofNat 32 r.length).toNat = r.length := by rw [BitVec.toNat_ofNat]; omega
      obtain ⟨g, rfl⟩ : ∃ g, f = g + 1 := ⟨f - 1, by omega⟩
      rw [framesS, if_neg (by rw [List.length_set]; omega)]
      by_cases h2 : t < 12
      · rw [if_pos]
        right
        by_cases h3 : t < 8
        · rw [w32_set v (by omega : t < 8 ∨ 8 + 4 ≤ t), w8, ← w0, ← w4]
          unfold thirdB
          rw [List.append_assoc, List.append_assoc, List.append_assoc, ← take_8 (by omega), List.append_assoc, ← take_8 (by rw [List.length_set]; omega), List.take_set]
          rw [← List.append_assoc, ← List.append_assoc]
          refine (crc_set (by rw [List.length_take]; omega) ?_).symm
          rwa [List.getD_eq_getElem?_getD, List.getElem?_take, if_pos h3, ← List.getD_eq_getElem?_getD]
        · rw [w32_set v (by omega : t < 0 ∨ 0 + 4 ≤ t), w32_set v (by omega : t < 4 ∨ 4 + 4 ≤ t), w0, w4, ← w8]
          exact w32_set_ne (by omega) (by omega) (by omega) hv
      · rw [w32_set v (by omega : t < 0 ∨ 0 + 4 ≤ t), w32_set v (by omega : t < 4 ∨ 4 + 4 ≤ t), w32_set v (by omega : t < 8 ∨ 8 + 4 ≤ t), w0, w4, w8, hn, if_neg (by simp; omega), if_neg (by rw [List.length_set]; omega), if_pos]
        have hd : l.drop 12 = r ++ framesB num (recs.length + 1) rs := by
          rw [← hl]
          unfold frameB
          rw [List.append_assoc]
          exact List.drop_left' rfl
        have hd2 : ((l.set t v).drop 12).take r.length = r.set (t - 12) v := by
          rw [List.drop_set, if_neg (by omega), hd, List.set_append_left _ _ (by omega), List.take_left' (by rw [List.length_set])]
        rw [hd2]
        have := crc_set (p := []) (l := r) (t := t - 12) (v := v) (by omega) (by
          have e : l.getD t 0 = r.getD (t - 12) 0 := by
            have e1 : l.getD t 0 = (l.drop 12).getD (t - 12) 0 := by
              rw [List.getD_eq_getElem?_getD, List.getD_eq_getElem?_getD, List.getElem?_drop, show 12 + (t - 12) = t by omega]
            rw [e1, hd, List.getD_eq_getElem?_getD, List.getElem?_append_left (by omega), ← List.getD_eq_getElem?_getD]
          rwa [← e])
        rwa [List.nil_append, List.nil_append] at this
theorem read_bad {num : BitVec 32} {rs : List Bytes} {m : Nat} {v : UInt8} (hr : ∀ r ∈ rs, r.length ≤ 1048576) (hm : m < (segB num rs).length) (hv : (segB num rs).getD m 0 ≠ v) : readS ((segB num rs).set m v) = none := by
  have hlen := segB_len num rs
  by_cases h12 : 12 ≤ m
  · unfold segB at hm hv ⊢
    have hh := headB_len num
    rw [List.set_append_right m v (by omega), hh, read_head]
    have := frames_bad (num := num) (rs := rs) (recs := []) (fin := 12) (f := ((framesB num 0 rs).set (m - 12) v).length) (t := m - 12) (v := v) hr (by rw [List.length_set]; exact Nat.le_refl _)
      (by rw [List.length_append] at hm; show m - 12 < (framesB num 0 rs).length; omega)
      (by
        rw [List.getD_eq_getElem?_getD, List.getElem?_append_right (by omega), hh, ← List.getD_eq_getElem?_getD] at hv
        exact hv)
    rw [show (framesB num ([] : List Bytes).length rs) = framesB num 0 rs from rfl] at this
    rw [this]; rfl
  · have h8 : (segB num rs).take 8 = magicB ++ be32 num := by
      unfold segB headB
      rw [List.append_assoc]
      exact List.take_left (l₁ := magicB ++ be32 num)
    have w8 : w32 (segB num rs) 8 = crc (magicB ++ be32 num) := by
      unfold segB headB
      rw [List.append_assoc, show (8 : Nat) = 8 + 0 from rfl, w32_app (a := magicB ++ be32 num) (n := 8) _ rfl, w32_be]
    unfold readS
    rw [if_neg (by rw [List.length_set]; omega), if_pos]
    right
    by_cases h : m < 8
    · rw [w32_set v (by omega), w8, List.take_set, h8]
      have := crc_set (p := []) (l := magicB ++ be32 num) (t := m) (v := v) (by show m < 8; exact h) (by
        rw [← h8, List.getD_eq_getElem?_getD, List.getElem?_take, if_pos h, ← List.getD_eq_getElem?_getD]; exact hv)
      rw [List.nil_append, List.nil_append] at this
      exact this.symm
    · have e : ((segB num rs).set m v).take 8 = (segB num rs).take 8 := by
        rw [List.take_set, List.set_eq_of_length_le (by rw [List.length_take]; omega)]
      rw [e, h8, ← w8]
      exact w32_set_ne hm (by omega) (by omega) hv
/-- Where each frame begins. -/
def fromB (rs : List Bytes) (k : Nat) : Nat := 12 + flen (rs.take k)
theorem seg_take (num : BitVec 32) (rs : List Bytes) (k : Nat) : (segB num rs).take (fromB rs k) = segB num (rs.take k) := by
  have e : segB num rs = segB num (rs.take k) ++ framesB num (rs.take k).length (rs.drop k) := by
    unfold segB
    rw [List.append_assoc]
    conv => lhs; rw [← List.take_append_drop k rs, framesB_app, Nat.zero_add]
  rw [e, fromB, ← segB_len num (rs.take k), List.take_left]
theorem seg_drop (num : BitVec 32) (rs : List Bytes) (k : Nat) (hk : k ≤ rs.length) : (segB num rs).drop (fromB rs k) = framesB num k (rs.drop k) := by
  have e : segB num rs = segB num (rs.take k) ++ framesB num (rs.take k).length (rs.drop k) := by
    unfold segB
    rw [List.append_assoc]
    conv => lhs; rw [← List.take_append_drop k rs, framesB_app, Nat.zero_add]
  rw [e, fromB, ← segB_len num (rs.take k), List.drop_left, List.length_take, Nat.min_eq_left hk]
theorem read_wrong {num : BitVec 32} {rs : List Bytes} {j : Nat} {r x : Bytes} (hr : ∀ y ∈ rs, y.length ≤ 1048576) (hl : rs.length < 256) (hj : j < 256) (hne : j ≠ rs.length) : readS (segB num rs ++ (frameB num (BitVec.ofNat 32 j) r ++ x)) = none := by
  unfold segB
  have hjj : (BitVec.ofNat 32 j).toNat = j := by rw [BitVec.toNat_ofNat]; omega
  have e := frames_pre (num := num) (x := frameB num (BitVec.ofNat 32 j) r ++ x) (rs := rs) (recs := []) (fin := 12) (f := (framesB num 0 rs ++ (frameB num (BitVec.ofNat 32 j) r ++ x)).length) hr (Nat.le_refl _)
  rw [show (framesB num ([] : List Bytes).length rs) = framesB num 0 rs from rfl] at e
  rw [List.append_assoc, read_head, e, frames_wrong (Nat.le_refl _) (by omega) (by simpa using hl) (by simpa [hjj] using hne)]; rfl
theorem read_gone {num : BitVec 32} {rs : List Bytes} {i : Nat} (hr : ∀ y ∈ rs, y.length ≤ 1048576) (hl : rs.length < 256) (hi : i + 1 < rs.length) : readS ((segB num rs).take (fromB rs i) ++ (segB num rs).drop (fromB rs (i + 1))) = none := by
  rw [seg_take, seg_drop _ _ _ (by omega), List.drop_eq_getElem_cons hi, framesB]
  exact read_wrong (fun y hy => hr y (List.mem_of_mem_take hy)) (by rw [List.length_take]; omega) (by omega) (by rw [List.length_take]; omega)
theorem read_swap {num : BitVec 32} {rs : List Bytes} {i j : Nat} (x : Bytes) (hr : ∀ y ∈ rs, y.length ≤ 1048576) (hl : rs.length < 256) (hi : i < j) (hj : j < rs.length) : readS ((segB num rs).take (fromB rs i) ++ (((segB num rs).take (fromB rs (j + 1))).drop (fromB rs j) ++ x)) = none := by
  have e : ((segB num rs).take (fromB rs (j + 1))).drop (fromB rs j) = frameB num (BitVec.ofNat 32 j) rs[j] := by
    have h1 : fromB rs j = fromB (rs.take (j + 1)) j := by
      unfold fromB
      rw [List.take_take, Nat.min_eq_left (by omega)]
    rw [seg_take, h1, seg_drop _ _ _ (by rw [List.length_take]; omega), List.drop_take, show j + 1 - j = 1 by omega, List.drop_eq_getElem_cons hj]
    show frameB _ _ _ ++ [] = _
    rw [List.append_nil]
  rw [e, seg_take]
  exact read_wrong (fun y hy => hr y (List.mem_of_mem_take hy)) (by rw [List.length_take]; omega) (by omega) (by rw [List.length_take]; omega)
theorem open_bad {b : Bytes} (h : readS b = none) : openS [b] = none := by
  unfold openS
  rw [openL, openStep, h]; rfl
end Go.Proofs.YtbaglaoefaoaoaaDoor.F
