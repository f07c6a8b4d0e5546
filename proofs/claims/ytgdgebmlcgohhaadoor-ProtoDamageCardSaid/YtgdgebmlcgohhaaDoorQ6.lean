/- Package proto: the program's reader: bytes, numbers, texts, truths. Conditions: none. -/
import Derived.Test.YtgdgebmlcgohhaaDoorQ5
namespace Go.Proofs.YtgdgebmlcgohhaaDoor.F
open Go Go.VC Go.Proofs
set_option linter.unusedSimpArgs false
set_option linter.unusedVariables false
set_option maxRecDepth 100000
attribute [local irreducible] CallsH RunsTo PureTo

section
variable {α β : Type}
/-- What a step of a reader does: after a fault nothing that counts, else what the plain reader says. -/
def StepO (f : Po α) (bs : Bytes) (bad : Bool) (x : α) (bs' : Bytes) (bad' : Bool) : Prop :=
  (bad = true ∧ bad' = true) ∨ (bad = false ∧ bad' = false ∧ f bs = some (x, bs')) ∨ (bad = false ∧ bad' = true ∧ f bs = none)
variable {f : Po α} {g : α → Po β} {bs bs1 bs2 : Bytes} {bad bad1 bad2 : Bool} {x x' : α} {y : β}
theorem StepO.bind (h1 : StepO f bs bad x bs1 bad1) (h2 : StepO (g x) bs1 bad1 y bs2 bad2) : StepO (bindO f g) bs bad y bs2 bad2 := by
  rcases h1 with ⟨a1, a2⟩ | ⟨a1, a2, a3⟩ | ⟨a1, a2, a3⟩
  · rcases h2 with ⟨b1, b2⟩ | ⟨b1, _⟩ | ⟨b1, _⟩
    · exact .inl ⟨a1, b2⟩
    · rw [a2] at b1; cases b1
    · rw [a2] at b1; cases b1
  · rcases h2 with ⟨b1, b2⟩ | ⟨b1, b2, b3⟩ | ⟨b1, b2, b3⟩
    · rw [a2] at b1; cases b1
    · exact .inr (.inl ⟨a1, b2, bindO_some.2 ⟨x, bs1, a3, b3⟩⟩)
    · exact .inr (.inr ⟨a1, b2, by unfold bindO; rw [a3]; exact b3⟩)
  · rcases h2 with ⟨b1, b2⟩ | ⟨b1, _⟩ | ⟨b1, _⟩
    · exact .inr (.inr ⟨a1, b2, by unfold bindO; rw [a3]⟩)
    · rw [a2] at b1; cases b1
    · rw [a2] at b1; cases b1
theorem StepO.ret (x : α) : StepO (retO x) bs bad x bs bad := by
  cases bad
  · exact .inr (.inl ⟨rfl, rfl, rfl⟩)
  · exact .inl ⟨rfl, rfl⟩
theorem StepO.fail (h : bad = false → f bs = none) : StepO f bs bad x bs1 true := by
  cases bad
  · exact .inr (.inr ⟨rfl, rfl, h rfl⟩)
  · exact .inl ⟨rfl, rfl⟩
theorem StepO.spoilt : StepO f bs true x bs1 true := .inl ⟨rfl, rfl⟩
theorem StepO.ok (h : f bs = some (x, bs1)) : StepO f bs false x bs1 false := .inr (.inl ⟨rfl, rfl, h⟩)
theorem StepO.junk (h : StepO f bs bad x bs1 true) : StepO f bs bad x' bs2 true := by
  rcases h with h | ⟨_, h, _⟩ | ⟨h1, _, h2⟩
  · exact .inl h
  · cases h
  · exact .inr (.inr ⟨h1, rfl, h2⟩)
theorem StepO.snoc {j : Nat} {xs : List α} (h1 : StepO (repO f j) bs bad xs bs1 bad1) (h2 : StepO f bs1 bad1 x bs2 bad2) : StepO (repO f (j + 1)) bs bad (xs ++ [x]) bs2 bad2 := by
  rw [repO_snoc]
  exact h1.bind (h2.bind (StepO.ret _))
theorem repO_none {n : Nat} : ∀ {j : Nat}, j ≤ n → repO f j bs = none → repO f n bs = none := by
  intro j hj h
  induction n with
  | zero =>
    have : j = 0 := by omega
    subst this; exact h
  | succ n ih =>
    by_cases hjn : j = n + 1
    · subst hjn; exact h
    · rw [repO_snoc]
      unfold bindO
      rw [ih (by omega)]
theorem many_fin {n : Int} {xs : List α} (hb2 : bad1 = (bad || decide (n < 0) || decide (n > (bs.length : Int)))) (hs : StepO (repO f xs.length) bs bad1 xs bs2 bad2) (hx : bad1 = false → xs.length ≤ n.toNat) (hend : bad2 = true ∨ n ≤ xs.length) : StepO (manyO f n) bs bad xs bs2 bad2 := by
  cases bad
  rotate_left
  · simp at hb2
    rcases hs with ⟨_, h⟩ | ⟨h, _⟩ | ⟨h, _⟩
    · exact .inl ⟨rfl, h⟩
    · rw [hb2] at h; cases h
    · rw [hb2] at h; cases h
  cases hb1 : bad1
  · rw [hb1] at hb2 hs
    simp only [Bool.false_or, Bool.false_eq, Bool.or_eq_false_iff, decide_eq_false_iff_not] at hb2
    have hx := hx hb1
    have e : manyO f n bs = repO f n.toNat bs := if_pos (by omega)
    rcases hs with ⟨h, _⟩ | ⟨_, h2, h3⟩ | ⟨_, h2, h3⟩
    · cases h
    · rw [h2] at hend
      have : xs.length = n.toNat := by
        rcases hend with h | h
        · cases h
        · omega
      exact .inr (.inl ⟨rfl, h2, by rw [e, ← this]; exact h3⟩)
    · exact .inr (.inr ⟨rfl, h2, by rw [e]; exact repO_none hx h3⟩)
  · rw [hb1] at hb2 hs
    have e : manyO f n bs = none := by
      refine if_neg fun h => ?_
      simp only [Bool.false_or, Bool.true_eq, Bool.or_eq_true, decide_eq_true_eq] at hb2
      omega
    rcases hs with ⟨_, h⟩ | ⟨h, _⟩ | ⟨h, _⟩
    · exact .inr (.inr ⟨rfl, h, e⟩)
    · cases h
    · cases h
end
/-! ### The reader in memory -/
variable {S F G : Nat → Prop} {h0 h h1 : Heap} {L R L' : List A} {a b a1 a2 : Option Addr} {l c l1 c1 l2 c2 p t : Nat} {bs cs bs1 bs2 : List UInt8} {bad bad1 bad2 : Bool} {v : Val}
abbrev RP (t p : Nat) (a : Option Addr) (l c : Nat) (bad : Bool) : A := A.blk p #[.slice a l c, .bool bad] t
/-- What every call of a reader asks. -/
structure RdP (F : Nat → Prop) (h : Heap) (a : Option Addr) (l c : Nat) (bs : Bytes) : Prop where
  ro : Ro F h a (bytesV bs)
  len : bs.length = l
  lc : l ≤ c
  big : l ≤ 1099511627776
/-- Bytes of which others are the end. -/
structure Nxt (a : Option Addr) (l c : Nat) (bs : Bytes) (a1 : Option Addr) (l1 c1 : Nat) (bs1 : Bytes) : Prop where
  ro : ∀ F h, Ro F h a (bytesV bs) → Ro F h a1 (bytesV bs1)
  len : bs.length = l → bs1.length = l1
  lc : l ≤ c → l1 ≤ c1
  le : l1 ≤ l
theorem Nxt.refl : Nxt a l c bs a l c bs := ⟨fun _ _ k => k, id, id, Nat.le_refl _⟩
theorem Nxt.trans (k : Nxt a l c bs a1 l1 c1 bs1) (q : Nxt a1 l1 c1 bs1 a2 l2 c2 bs2) : Nxt a l c bs a2 l2 c2 bs2 := ⟨fun F h r => q.ro F h (k.ro F h r), fun e => q.len (k.len e), fun e => q.lc (k.lc e), Nat.le_trans q.le k.le⟩
theorem RdP.nxt (r : RdP F h a l c bs) (k : Nxt a l c bs a1 l1 c1 bs1) : RdP F h a1 l1 c1 bs1 := ⟨k.ro _ _ r.ro, k.len r.len, k.lc r.lc, Nat.le_trans k.le r.big⟩
theorem RdP.at (k : RdP S h0 a l c bs) (m : Mod S h0 h) (hf : ∀ b, F b → S b ∨ h0.size ≤ b) : RdP F h a l c bs := ⟨k.ro.at m hf, k.len, k.lc, k.big⟩
theorem RdP.in (k : RdP S h0 a l c bs) (s : St S h0 h L) : RdP none_ h a l c bs := ⟨k.ro.in s, k.len, k.lc, k.big⟩
/-- A part of bytes that others hold, wherever. -/
theorem cutA (hl : bs.length = l) {lo hi mx : Nat} {x y z : Int} (hx : x = lo) (hy : y = hi) (hz : z = mx) (h1 : lo ≤ hi) (h2 : hi ≤ l) (h3 : hi ≤ mx) (h4 : mx ≤ c) {K : Option Addr → Nat → Nat → Prop}
    (q : ∀ a', (∀ F h, Ro F h a (bytesV bs) → Ro F h a' (bytesV ((bs.take hi).drop lo))) → ((bs.take hi).drop lo).length = hi - lo → K a' (hi - lo) (mx - lo)) : VSlice 1 a c x y z K := by
  have hlen : ((bs.take hi).drop lo).length = hi - lo := by rw [List.length_drop, List.length_take]; omega
  refine ⟨lo, hi, mx, hx, hy, hz, h1, h3, h4, q _ (fun F h k => ?_) hlen⟩
  by_cases he : mx = lo
  · rw [if_pos he]
    have : (bs.take hi).drop lo = [] := List.eq_nil_of_length_eq_zero (by rw [hlen]; omega)
    rw [this]; exact .nil _ _ _
  · rw [if_neg he, Nat.mul_one]
    have := (k.take hi).drop lo
    have e : ((bytesV bs).take hi).drop lo = bytesV ((bs.take hi).drop lo) := by simp [bytesV, List.map_take, List.map_drop]
    rw [e] at this
    exact this
/-- Off the front of what waits. -/
theorem cutFront (hl : bs.length = l) {n : Nat} {x y z : Int} (hx : x = n) (hy : y = l) (hz : z = c) (h1 : n ≤ l) (hlc : l ≤ c) {K : Option Addr → Nat → Nat → Prop}
    (q : ∀ a', Nxt a l c bs a' (l - n) (c - n) (bs.drop n) → K a' (l - n) (c - n)) : VSlice 1 a c x y z K :=
  cutA hl hx hy hz h1 (Nat.le_refl _) hlc (Nat.le_refl _) fun a' r hlen => q a' (by
    rw [List.take_of_length_le (by omega)] at r
    exact ⟨r, fun _ => by rw [List.length_drop]; omega, fun _ => by omega, by omega⟩)
theorem bytesP_step {n : Int} (k0 : Holds [RP t p a l c bad] F h) (r : RdP F h a l c bs) : CallsH Tryd.prog 77 #[.pointer (some ⟨p, 0, none⟩), .int .i64 n] h
    (fun v h' => ∃ (x : Bytes) (b : Option Addr) (c2 : Nat) (a1 : Option Addr) (l1 c1 : Nat) (bs1 : Bytes) (bad1 : Bool), v = .slice b x.length c2 ∧ Nxt a l c bs a1 l1 c1 bs1 ∧ StepO (takeO n) bs bad x bs1 bad1 ∧ (∀ F h, Ro F h a (bytesV bs) → Ro F h b (bytesV x)) ∧ (bad1 = true → x = []) ∧ x.length ≤ c2 ∧ St F h h' [RP t p a1 l1 c1 bad1]) := by
  refine vf77 _ _ h _ ?_
  unfold F77
  have k := St.start k0
  have hlen := r.len
  have hlc := r.lc
  have hbig := r.big
  have bad0 : ∀ {h' : Heap}, (bad = false → takeO n bs = none) → St F h h' [RP t p a l c true] → ∃ (x : Bytes) (b : Option Addr) (c2 : Nat) (a1 : Option Addr) (l1 c1 : Nat) (bs1 : Bytes) (bad1 : Bool), (Value.slice none 0 0) = .slice b x.length c2 ∧ Nxt a l c bs a1 l1 c1 bs1 ∧ StepO (takeO n) bs bad x bs1 bad1 ∧ (∀ F h, Ro F h a (bytesV bs) → Ro F h b (bytesV x)) ∧ (bad1 = true → x = []) ∧ x.length ≤ c2 ∧ St F h h' [RP t p a1 l1 c1 bad1] :=
    fun hb k => ⟨[], none, 0, a, l, c, bs, true, rfl, .refl, .fail hb, fun _ _ _ => .nil _ _ _, fun _ => rfl, Nat.le_refl _, k⟩
  refine VSome.mk ⟨_, k.rd (by rfl), ?_⟩
  cases bad
  rotate_left
  · exact cond_true rfl (VSome.mk (k.vst (Nat.le_of_ble_eq_true (by rfl)) fun _ k => bad0 (fun h => by cases h) k))
  refine cond_false rfl (cond_split (fun hc => ?_) (fun hc => ?_))
  · have hn : n < 0 := of_decide_eq_true hc
    exact VSome.mk (k.vst (Nat.le_of_ble_eq_true (by rfl)) fun _ k => bad0 (fun _ => if_neg (by omega)) k)
  have hn : ¬ n < 0 := of_decide_eq_false hc
  refine VSome.mk ⟨_, _, _, k.rd (by rfl), cond_split (fun hc => ?_) (fun hc => ?_)⟩
  · have hn2 : n > (l : Int) := of_decide_eq_true hc
    exact VSome.mk (k.vst (Nat.le_of_ble_eq_true (by rfl)) fun _ k => bad0 (fun _ => if_neg (by omega)) k)
  have hn2 : ¬ n > (l : Int) := of_decide_eq_false hc
  obtain ⟨m, rfl⟩ : ∃ m : Nat, n = m := ⟨n.toNat, by omega⟩
  refine VSome.mk ⟨_, _, _, k.rd (by rfl), ?_⟩
  refine cutA hlen (lo := 0) (hi := m) (mx := c) rfl rfl rfl (by omega) (by omega) (by omega) (Nat.le_refl _) fun b rb hb => ?_
  refine VSome.mk ⟨_, _, _, k.rd (by rfl), ?_⟩
  refine cutFront hlen (n := m) rfl rfl rfl (by omega) hlc fun a1 nx => VSome.mk (k.vst (Nat.le_of_ble_eq_true (by rfl)) fun h18 k => ?_)
  rw [List.drop_zero] at rb hb
  refine ⟨bs.take m, b, c - 0, a1, l - m, c - m, bs.drop m, false, by rw [hb], nx, .ok ?_, rb, (fun h => by cases h), by omega, k⟩
  show (if 0 ≤ (m : Int) ∧ (m : Int) ≤ bs.length then _ else _) = _
  rw [if_pos (by omega), Int.toNat_natCast]
theorem oneP_step (k0 : Holds [RP t p a l c bad] F h) (r : RdP F h a l c bs) : CallsH Tryd.prog 29 #[.pointer (some ⟨p, 0, none⟩)] h
    (fun v h' => ∃ (x : UInt8) (a1 : Option Addr) (l1 c1 : Nat) (bs1 : Bytes) (bad1 : Bool), v = .int .u8 (x.toNat : Int) ∧ Nxt a l c bs a1 l1 c1 bs1 ∧ StepO oneO bs bad x bs1 bad1 ∧ (bad1 = true → x = 0) ∧ St F h h' [RP t p a1 l1 c1 bad1]) := by
  refine vf29 _ h _ ?_
  unfold F29
  refine CallsH.mono (bytesP_step (n := 1) k0 r) ?_
  rintro _ h2 ⟨x, b, c2, a1, l1, c1, bs1, bad1, rfl, nx, st, rb, hz, _, k⟩
  refine ⟨_, _, _, rfl, ?_⟩
  cases bad1
  · have hbad : bad = false := by
      rcases st with ⟨_, h⟩ | ⟨h, _⟩ | ⟨h, _⟩
      · cases h
      · exact h
      · exact h
    have ht : takeO 1 bs = some (x, bs1) := by
      rcases st with ⟨_, h⟩ | ⟨_, _, h⟩ | ⟨_, h, _⟩
      · cases h
      · exact h
      · cases h
    cases bs with
    | nil => cases ht
    | cons y bs0 =>
      have h1 : takeO 1 (y :: bs0) = some ([y], bs0) := by
        show (if 0 ≤ (1 : Int) ∧ (1 : Int) ≤ ((y :: bs0).length : Nat) then _ else _) = _
        rw [if_pos (by rw [List.length_cons]; omega)]; rfl
      rw [h1] at ht
      cases ht
      refine cond_true (by rfl) ?_
      have hs : Sl h2 b (bytesV [y]) := ((rb _ _ r.ro).mod k.ext).sl
      refine hs.one (f := byteV) (xs := [y]) rfl (by omega) (by simp) fun ad z hz hcz => ⟨_, hcz, ?_⟩
      cases hz
      subst hbad
      exact ⟨y, a1, l1, c1, bs1, false, rfl, nx, .ok rfl, (fun h => by cases h), k⟩
  · have hx := hz rfl
    subst hx
    refine cond_false (by rfl) ⟨0, a1, l1, c1, bs1, true, rfl, nx, .fail fun hb => ?_, fun _ => rfl, k⟩
    rcases st with ⟨h, _⟩ | ⟨_, h, _⟩ | ⟨_, _, h⟩
    · rw [hb] at h; cases h
    · cases h
    · cases bs with
      | nil => rfl
      | cons y bs0 =>
        exfalso
        have h1 : takeO 1 (y :: bs0) = some ([y], bs0) := by
          show (if 0 ≤ (1 : Int) ∧ (1 : Int) ≤ ((y :: bs0).length : Nat) then _ else _) = _
          rw [if_pos (by rw [List.length_cons]; omega)]; rfl
        rw [h1] at h; cases h
theorem idP_step (k0 : Holds [RP t p a l c bad] F h) (r : RdP F h a l c bs) : CallsH Tryd.prog 30 #[.pointer (some ⟨p, 0, none⟩)] h
    (fun v h' => ∃ (x : Nat) (a1 : Option Addr) (l1 c1 : Nat) (bs1 : Bytes) (bad1 : Bool), v = .int .u32 (x : Int) ∧ Nxt a l c bs a1 l1 c1 bs1 ∧ StepO idO bs bad x bs1 bad1 ∧ x < 4294967296 ∧ St F h h' [RP t p a1 l1 c1 bad1]) := by
  refine vf30 _ h _ ?_
  unfold F30
  refine CallsH.mono (bytesP_step (n := 4) k0 r) ?_
  rintro _ h2 ⟨x, b, c2, a1, l1, c1, bs1, bad1, rfl, nx, st, rb, hz, _, k⟩
  refine ⟨_, _, _, rfl, ?_⟩
  have t4 : ∀ (y0 y1 y2 y3 : UInt8) (s : Bytes), takeO 4 (y0 :: y1 :: y2 :: y3 :: s) = some ([y0, y1, y2, y3], s) := fun y0 y1 y2 y3 s => by
    show (if 0 ≤ (4 : Int) ∧ (4 : Int) ≤ ((y0 :: y1 :: y2 :: y3 :: s).length : Nat) then _ else _) = _
    rw [if_pos (by simp only [List.length_cons]; omega)]; rfl
  have t0 : ∀ (s : Bytes), s.length < 4 → takeO 4 s = none ∧ idO s = none := fun s hs => by
    refine ⟨if_neg (by omega), ?_⟩
    match s, hs with
    | [], _ => rfl
    | [_], _ => rfl
    | [_, _], _ => rfl
    | [_, _, _], _ => rfl
    | _ :: _ :: _ :: _ :: _, hs => simp only [List.length_cons] at hs; omega
  have hsplit : bs.length < 4 ∨ ∃ y0 y1 y2 y3 s, bs = y0 :: y1 :: y2 :: y3 :: s := by
    match bs with
    | [] => exact .inl (by simp)
    | [_] => exact .inl (by simp)
    | [_, _] => exact .inl (by simp)
    | [_, _, _] => exact .inl (by simp)
    | y0 :: y1 :: y2 :: y3 :: s => exact .inr ⟨y0, y1, y2, y3, s, rfl⟩
  cases bad1
  · have hbad : bad = false := by
      rcases st with ⟨_, h⟩ | ⟨h, _⟩ | ⟨h, _⟩
      · cases h
      · exact h
      · exact h
    have ht : takeO 4 bs = some (x, bs1) := by
      rcases st with ⟨_, h⟩ | ⟨_, _, h⟩ | ⟨_, h, _⟩
      · cases h
      · exact h
      · cases h
    rcases hsplit with hs | ⟨y0, y1, y2, y3, s, rfl⟩
    · rw [(t0 _ hs).1] at ht; cases ht
    · rw [t4] at ht
      cases ht
      have hs : Sl h2 b (bytesV [y0, y1, y2, y3]) := ((rb _ _ r.ro).mod k.ext).sl
      refine cond_true (by rfl) (CallsH.mono (fourth_spec (r := []) hs rfl (by simp)) ?_)
      rintro _ _ ⟨rfl, rfl⟩
      subst hbad
      exact ⟨_, rfl, un4 y0 y1 y2 y3, a1, l1, c1, bs1, false, rfl, nx, .ok rfl, un4_lt _ _ _ _, k⟩
  · have hx := hz rfl
    subst hx
    refine cond_false (by rfl) ⟨0, a1, l1, c1, bs1, true, rfl, nx, .fail fun hb => ?_, by omega, k⟩
    rcases st with ⟨h, _⟩ | ⟨_, h, _⟩ | ⟨_, _, h⟩
    · rw [hb] at h; cases h
    · cases h
    · rcases hsplit with hs | ⟨y0, y1, y2, y3, s, rfl⟩
      · exact (t0 _ hs).2
      · rw [t4] at h; cases h
theorem numP_step (k0 : Holds [RP t p a l c bad] F h) (r : RdP F h a l c bs) : CallsH Tryd.prog 44 #[.pointer (some ⟨p, 0, none⟩)] h
    (fun v h' => ∃ (x : Int) (a1 : Option Addr) (l1 c1 : Nat) (bs1 : Bytes) (bad1 : Bool), v = .int .i64 x ∧ Nxt a l c bs a1 l1 c1 bs1 ∧ StepO numO bs bad x bs1 bad1 ∧ rng64 x ∧ (bad1 = true → x = 0) ∧ St F h h' [RP t p a1 l1 c1 bad1]) := by
  refine vf44 _ h _ ?_
  unfold F44
  have k := St.start k0
  have hlen := r.len
  have hlc := r.lc
  have hbig := r.big
  have z64 : rng64 0 := ⟨by omega, by omega⟩
  refine VSome.mk ⟨_, k.rd (by rfl), ?_⟩
  cases bad
  rotate_left
  · exact cond_true rfl ⟨0, a, l, c, bs, true, rfl, .refl, StepO.spoilt, z64, fun _ => rfl, k⟩
  refine cond_false rfl <| VSome.mk ⟨_, _, _, k.rd (by rfl), ?_⟩
  refine CallsH.mono (int_spec r.ro.sl hlen (by omega)) ?_
  rintro _ _ ⟨rfl, rfl⟩
  cases hg : getN bs with
  | err e2 =>
    have he2 : e2 ≠ 0 := by have := getN_bad hg; omega
    refine ⟨_, _, _, rfl, cond_true (by simpa using he2) (VSome.mk (k.vst (Nat.le_of_ble_eq_true (by rfl)) fun h3 k => ⟨0, a, l, c, bs, true, rfl, .refl, .fail fun _ => ?_, z64, fun _ => rfl, k⟩))⟩
    unfold numO ofR
    rw [hg]
  | ok x n =>
    have hle := Form.num.le hg
    refine ⟨_, _, _, rfl, cond_false rfl (VSome.mk ⟨_, _, _, k.rd (by rfl), ?_⟩)⟩
    refine cutFront hlen (n := n) rfl rfl rfl (by omega) hlc fun a1 nx => VSome.mk (k.vst (Nat.le_of_ble_eq_true (by rfl)) fun h16 k => ⟨x, a1, _, _, _, false, rfl, nx, .ok ?_, (Form.num.pg _ _ _ hg).1, (fun h => by cases h), k⟩)
    unfold numO ofR
    rw [hg]
theorem texP_step (k0 : Holds [RP t p a l c bad] F h) (r : RdP F h a l c bs) : CallsH Tryd.prog 50 #[.pointer (some ⟨p, 0, none⟩)] h
    (fun v h' => ∃ (x : Bytes) (a1 : Option Addr) (l1 c1 : Nat) (bs1 : Bytes) (bad1 : Bool), v = .string (bA x) ∧ Nxt a l c bs a1 l1 c1 bs1 ∧ StepO texO bs bad x bs1 bad1 ∧ St F h h' [RP t p a1 l1 c1 bad1]) := by
  refine vf50 _ h _ ?_
  unfold F50
  refine CallsH.mono (numP_step k0 r) ?_
  rintro _ h2 ⟨n, a1, l1, c1, bs1, bad1, rfl, nx1, s1, _, _, k⟩
  refine ⟨_, rfl, ?_⟩
  obtain ⟨F', G, k1, kG, d, hF, back⟩ := k.frameA
  have r1 := (r.nxt nx1).at k.ext hF
  refine CallsH.mono (bytesP_step k1 r1) ?_
  rintro _ h5 ⟨x, b, c2, a2, l2, c2', bs2, bad2, rfl, nx2, s2, rb, hz, _, k2⟩
  have hs : Sl h5 b (bytesV x) := (rb _ _ (r1.ro.mod k2.ext)).sl
  have k := back k2
  refine ⟨_, _, _, rfl, bytes_text und30 (by kernel_rfl) und9 hs rfl ⟨_, rfl, x, a2, l2, c2', bs2, bad2, rfl, nx1.trans nx2, s1.bind s2, k⟩⟩
theorem truP_step (k0 : Holds [RP t p a l c bad] F h) (r : RdP F h a l c bs) : CallsH Tryd.prog 43 #[.pointer (some ⟨p, 0, none⟩)] h
    (fun v h' => ∃ (x : Bool) (a1 : Option Addr) (l1 c1 : Nat) (bs1 : Bytes) (bad1 : Bool), v = .bool x ∧ Nxt a l c bs a1 l1 c1 bs1 ∧ StepO truO bs bad x bs1 bad1 ∧ St F h h' [RP t p a1 l1 c1 bad1]) := by
  refine vf43 _ h _ ?_
  unfold F43
  refine CallsH.mono (oneP_step k0 r) ?_
  rintro _ h2 ⟨x, a1, l1, c1, bs1, bad1, rfl, nx1, s1, _, k⟩
  refine ⟨_, rfl, VSome.mk ⟨_, k.rd (by rfl), ?_⟩⟩
  have eb : ((x.toNat : Int) == 1) = decide (x.toNat = 1) := by rw [Bool.eq_iff_iff]; simp; omega
  rw [eb]
  cases bad1
  · refine cond_false rfl <| VSome.mk (k.vst (Nat.le_of_ble_eq_true (by rfl)) fun h9 k => ?_)
    by_cases hx : 1 < x.toNat
    · have e : decide ((x.toNat : Int) > 1) = true := decide_eq_true (by omega)
      rw [e] at k
      exact ⟨_, a1, l1, c1, bs1, true, rfl, nx1, s1.bind (.fail fun _ => by rw [if_pos hx]; rfl), k⟩
    · have e : decide ((x.toNat : Int) > 1) = false := decide_eq_false (by omega)
      rw [e] at k
      exact ⟨_, a1, l1, c1, bs1, false, rfl, nx1, s1.bind (.ok (by rw [if_neg hx]; rfl)), k⟩
  · exact cond_true rfl <| VSome.mk (k.vst (Nat.le_of_ble_eq_true (by rfl)) fun h7 k => ⟨_, a1, l1, c1, bs1, true, rfl, nx1, s1.bind .spoilt, k⟩)
end Go.Proofs.YtgdgebmlcgohhaaDoor.F
