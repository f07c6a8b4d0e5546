/- The document's reader of layer 30: bytes, numbers, texts, truths, values. Conditions: none. -/
import Derived.Test.YtgdgebmlcgohhaaGreatDoorZ3
namespace Go.Proofs.YtgdgebmlcgohhaaGreatDoor.F
open Go Go.VC Go.Proofs
set_option linter.unusedSimpArgs false
set_option linter.unusedVariables false
set_option maxRecDepth 100000
attribute [local irreducible] CallsH RunsTo PureTo

variable {S F G : Nat → Prop} {h0 h h1 : Heap} {L R L' : List A} {a b a1 a2 : Option Addr} {l c l1 c1 l2 c2 p t : Nat} {bs cs bs1 bs2 : List UInt8} {bad bad1 bad2 : Bool} {v : Val}
theorem offD_step {n : Int} (k0 : Holds [RP t p a l c bad] F h) (r : RdP F h a l c bs) : CallsH Tryz.prog 84 #[.pointer (some ⟨p, 0, none⟩), .int .i64 n] h
    (fun v h' => ∃ (x : Bytes) (b : Option Addr) (c2 : Nat) (a1 : Option Addr) (l1 c1 : Nat) (bs1 : Bytes) (bad1 : Bool), v = .slice b x.length c2 ∧ Nxt a l c bs a1 l1 c1 bs1 ∧ StepO (takeO n) bs bad x bs1 bad1 ∧ (∀ F h, Ro F h a (bytesV bs) → Ro F h b (bytesV x)) ∧ (bad1 = true → x = []) ∧ x.length ≤ c2 ∧ St F h h' [RP t p a1 l1 c1 bad1]) := by
  refine vf84 _ _ h _ ?_
  unfold F84
  have k := St.start k0
  have hlen := r.len
  have hlc := r.lc
  have hbig := r.big
  have bad0 : ∀ {h' : Heap}, (bad = false → takeO n bs = none) → St F h h' [RP t p a l c true] → ∃ (x : Bytes) (b : Option Addr) (c2 : Nat) (a1 : Option Addr) (l1 c1 : Nat) (bs1 : Bytes) (bad1 : Bool), (Value.slice none 0 0) = .slice b x.length c2 ∧ Nxt a l c bs a1 l1 c1 bs1 ∧ StepO (takeO n) bs bad x bs1 bad1 ∧ (∀ F h, Ro F h a (bytesV bs) → Ro F h b (bytesV x)) ∧ (bad1 = true → x = []) ∧ x.length ≤ c2 ∧ St F h h' [RP t p a1 l1 c1 bad1] :=
    fun hb k => ⟨[], none, 0, a, l, c, bs, true, rfl, .refl, .fail hb, fun _ _ _ => .nil _ _ _, fun _ => rfl, Nat.le_refl _, k⟩
  refine VSome.mk ⟨_, k.rd (by rfl), ?_⟩
  cases bad
  rotate_left
  · exact cond_true rfl (VSome.mk (k.vst (Nat.le_of_ble_eq_true (by rfl)) fun _ k => bad0 (fun h => by cases h) k))
  refine cond_false rfl (cond_split (fun hc => ?_) (fun hc => ?_))
  · have hn : n < 0 := of_decide_eq_true hc
    exact VSome.mk (k.vst (Nat.le_of_ble_eq_true (by rfl)) fun _ k => bad0 (fun _ => if_neg (by omega)) k)
  have hn : ¬ n < 0 := of_decide_eq_false hc
  refine VSome.mk ⟨_, _, _, k.rd (by rfl), cond_split (fun hc => ?_) (fun hc => ?_)⟩
  · have hn2 : n > (l : Int) := of_decide_eq_true hc
    exact VSome.mk (k.vst (Nat.le_of_ble_eq_true (by rfl)) fun _ k => bad0 (fun _ => if_neg (by omega)) k)
  have hn2 : ¬ n > (l : Int) := of_decide_eq_false hc
  obtain ⟨m, rfl⟩ : ∃ m : Nat, n = m := ⟨n.toNat, by omega⟩
  refine VSome.mk ⟨_, _, _, k.rd (by rfl), ?_⟩
  refine cutA hlen (lo := 0) (hi := m) (mx := c) rfl rfl rfl (by omega) (by omega) (by omega) (Nat.le_refl _) fun b rb hb => ?_
  refine VSome.mk ⟨_, _, _, k.rd (by rfl), ?_⟩
  refine cutFront hlen (n := m) rfl rfl rfl (by omega) hlc fun a1 nx => VSome.mk (k.vst (Nat.le_of_ble_eq_true (by rfl)) fun h18 k => ?_)
  rw [List.drop_zero] at rb hb
  refine ⟨bs.take m, b, c - 0, a1, l - m, c - m, bs.drop m, false, by rw [hb], nx, .ok ?_, rb, (fun h => by cases h), by omega, k⟩
  show (if 0 ≤ (m : Int) ∧ (m : Int) ≤ bs.length then _ else _) = _
  rw [if_pos (by omega), Int.toNat_natCast]
/-- One byte off the front. -/
theorem take1 {x : Bytes} (s : StepO (takeO 1) bs bad x bs1 bad1) (hz : bad1 = true → x = []) : (bad1 = true ∧ x = [] ∧ (bad = false → oneO bs = none)) ∨ (bad1 = false ∧ bad = false ∧ ∃ y, x = [y] ∧ bs = y :: bs1) := by
  have t1 : ∀ (y : UInt8) (r : Bytes), takeO 1 (y :: r) = some ([y], r) := fun y r => by
    show (if 0 ≤ (1 : Int) ∧ (1 : Int) ≤ ((y :: r).length : Nat) then _ else _) = _
    rw [if_pos (by rw [List.length_cons]; omega)]; rfl
  rcases s with ⟨b1, b2⟩ | ⟨b1, b2, b3⟩ | ⟨b1, b2, b3⟩
  · exact .inl ⟨b2, hz b2, fun h => by rw [b1] at h; cases h⟩
  · refine .inr ⟨b2, b1, ?_⟩
    cases bs with
    | nil => cases b3
    | cons y r => rw [t1] at b3; cases b3; exact ⟨y, rfl, rfl⟩
  · refine .inl ⟨b2, hz b2, fun _ => ?_⟩
    cases bs with
    | nil => rfl
    | cons y r => rw [t1] at b3; cases b3
/-- Four. -/
theorem take4 {x : Bytes} (s : StepO (takeO 4) bs bad x bs1 bad1) (hz : bad1 = true → x = []) : (bad1 = true ∧ x = [] ∧ (bad = false → idO bs = none)) ∨ (bad1 = false ∧ bad = false ∧ ∃ y0 y1 y2 y3, x = [y0, y1, y2, y3] ∧ bs = y0 :: y1 :: y2 :: y3 :: bs1) := by
  have t4 : ∀ (y0 y1 y2 y3 : UInt8) (s : Bytes), takeO 4 (y0 :: y1 :: y2 :: y3 :: s) = some ([y0, y1, y2, y3], s) := fun y0 y1 y2 y3 s => by
    show (if 0 ≤ (4 : Int) ∧ (4 : Int) ≤ ((y0 :: y1 :: y2 :: y3 :: s).length : Nat) then _ else _) = _
    rw [if_pos (by simp only [List.length_cons]; omega)]; rfl
  have t0 : ∀ (s : Bytes), s.length < 4 → takeO 4 s = none ∧ idO s = none := fun s hs => by
    refine ⟨if_neg (by omega), ?_⟩
    match s, hs with
    | [], _ => rfl
    | [_], _ => rfl
    | [_, _], _ => rfl
    | [_, _, _], _ => rfl
    | _ :: _ :: _ :: _ :: _, hs => simp only [List.length_cons] at hs; omega
  have hsplit : bs.length < 4 ∨ ∃ y0 y1 y2 y3 s, bs = y0 :: y1 :: y2 :: y3 :: s := by
    match bs with
    | [] => exact .inl (by simp)
    | [_] => exact .inl (by simp)
    | [_, _] => exact .inl (by simp)
    | [_, _, _] => exact .inl (by simp)
    | y0 :: y1 :: y2 :: y3 :: s => exact .inr ⟨y0, y1, y2, y3, s, rfl⟩
  rcases s with ⟨b1, b2⟩ | ⟨b1, b2, b3⟩ | ⟨b1, b2, b3⟩
  · exact .inl ⟨b2, hz b2, fun h => by rw [b1] at h; cases h⟩
  · refine .inr ⟨b2, b1, ?_⟩
    rcases hsplit with hs | ⟨y0, y1, y2, y3, s, rfl⟩
    · rw [(t0 _ hs).1] at b3; cases b3
    · rw [t4] at b3; cases b3; exact ⟨y0, y1, y2, y3, rfl, rfl⟩
  · refine .inl ⟨b2, hz b2, fun _ => ?_⟩
    rcases hsplit with hs | ⟨y0, y1, y2, y3, s, rfl⟩
    · exact (t0 _ hs).2
    · rw [t4] at b3; cases b3
theorem idD_step (k0 : Holds [RP t p a l c bad] F h) (r : RdP F h a l c bs) : CallsH Tryz.prog 85 #[.pointer (some ⟨p, 0, none⟩)] h
    (fun v h' => ∃ (x : Nat) (a1 : Option Addr) (l1 c1 : Nat) (bs1 : Bytes) (bad1 : Bool), v = .int .u32 (x : Int) ∧ Nxt a l c bs a1 l1 c1 bs1 ∧ StepO idO bs bad x bs1 bad1 ∧ x < 4294967296 ∧ St F h h' [RP t p a1 l1 c1 bad1]) := by
  refine vf85 _ h _ ?_
  unfold F85
  refine CallsH.mono (offD_step (n := 4) k0 r) ?_
  rintro _ h2 ⟨x, b, c2, a1, l1, c1, bs1, bad1, rfl, nx, st, rb, hz, _, k⟩
  refine ⟨_, _, _, rfl, VSome.mk ⟨_, k.rd (by rfl), ?_⟩⟩
  rcases take4 st hz with ⟨rfl, rfl, hn⟩ | ⟨rfl, rfl, y0, y1, y2, y3, rfl, rfl⟩
  · exact cond_true rfl ⟨0, a1, l1, c1, bs1, true, rfl, nx, .fail hn, by omega, k⟩
  · have hs : Sl h2 b (bytesV [y0, y1, y2, y3]) := ((rb _ _ r.ro).mod k.ext).sl
    refine cond_false rfl (CallsH.mono (dof_spec hs rfl (Nat.le_refl 4) (show 4 < 9223372036854775807 by omega)) ?_)
    rintro _ _ ⟨rfl, rfl⟩
    have hlt := un4_lt y0 y1 y2 y3
    have e : num4 [y0, y1, y2, y3] = un4 y0 y1 y2 y3 := rfl
    rw [e]
    refine ⟨_, rfl, un4 y0 y1 y2 y3, a1, l1, c1, bs1, false, ?_, nx, .ok rfl, hlt, k⟩
    have ew : IntKind.u32.wrap ((un4 y0 y1 y2 y3 : Nat) : Int) = ((un4 y0 y1 y2 y3 : Nat) : Int) := by
      generalize un4 y0 y1 y2 y3 = n at hlt
      simp [IntKind.wrap, IntKind.signed, IntKind.bits]
      omega
    rw [ew]
theorem numD_step (k0 : Holds [RP t p a l c bad] F h) (r : RdP F h a l c bs) : CallsH Tryz.prog 94 #[.pointer (some ⟨p, 0, none⟩)] h
    (fun v h' => ∃ (x : Int) (a1 : Option Addr) (l1 c1 : Nat) (bs1 : Bytes) (bad1 : Bool), v = .int .i64 x ∧ Nxt a l c bs a1 l1 c1 bs1 ∧ StepO numO bs bad x bs1 bad1 ∧ rng64 x ∧ (bad1 = true → x = 0) ∧ St F h h' [RP t p a1 l1 c1 bad1]) := by
  refine vf94 _ h _ ?_
  unfold F94
  have k := St.start k0
  have hlen := r.len
  have hlc := r.lc
  have hbig := r.big
  have z64 : rng64 0 := ⟨by omega, by omega⟩
  refine VSome.mk ⟨_, k.rd (by rfl), ?_⟩
  cases bad
  rotate_left
  · exact cond_true rfl ⟨0, a, l, c, bs, true, rfl, .refl, StepO.spoilt, z64, fun _ => rfl, k⟩
  refine cond_false rfl <| VSome.mk ⟨_, _, _, k.rd (by rfl), ?_⟩
  refine CallsH.mono (rint_spec r.ro.sl hlen hlc (by omega)) ?_
  rintro _ h6 ⟨rfl, m⟩
  have k := k.next m
  cases hg : getN bs with
  | err e2 =>
    have he2 : e2 ≠ 0 := by have := getN_bad hg; omega
    refine ⟨_, _, _, rfl, cond_true (by simpa using he2) (VSome.mk (k.vst (Nat.le_of_ble_eq_true (by rfl)) fun h3 k => ⟨0, a, l, c, bs, true, rfl, .refl, .fail fun _ => ?_, z64, fun _ => rfl, k⟩))⟩
    unfold numO ofR
    rw [hg]
  | ok x n =>
    have hle := Form.num.le hg
    refine ⟨_, _, _, rfl, cond_false rfl ?_⟩
    obtain ⟨F', G, kF, kG, d, hF, back⟩ := k.frameA
    refine CallsH.mono (offD_step (n := (n : Int)) kF (r.at k.ext hF)) ?_
    rintro _ h13 ⟨y, b, c2, a1, l1, c1, bs1, bad1, rfl, nx, st, rb, hz, _, k2⟩
    have k := back k2
    have ht : takeO (n : Int) bs = some (bs.take n, bs.drop n) := by
      show (if 0 ≤ (n : Int) ∧ (n : Int) ≤ bs.length then _ else _) = _
      rw [if_pos (by omega), Int.toNat_natCast]
    rcases st with ⟨h, _⟩ | ⟨_, rfl, h3⟩ | ⟨_, _, h3⟩
    · cases h
    · rw [ht] at h3
      cases h3
      refine ⟨_, _, _, rfl, x, a1, l1, c1, _, false, rfl, nx, .ok ?_, (Form.num.pg _ _ _ hg).1, (fun h => by cases h), k⟩
      unfold numO ofR
      rw [hg]
    · rw [ht] at h3; cases h3
theorem manyD_step (k0 : Holds [RP t p a l c bad] F h) (r : RdP F h a l c bs) : CallsH Tryz.prog 95 #[.pointer (some ⟨p, 0, none⟩)] h
    (fun v h' => ∃ (n x : Int) (a1 : Option Addr) (l1 c1 : Nat) (bs1 : Bytes) (bad1 bad2 : Bool), v = .int .i64 x ∧ Nxt a l c bs a1 l1 c1 bs1 ∧ StepO numO bs bad n bs1 bad1 ∧ bad2 = (bad1 || decide (n < 0) || decide (n > (bs1.length : Int))) ∧ (bad2 = false → x = n) ∧ (bad2 = true → x = 0) ∧ 0 ≤ x ∧ x ≤ l1 ∧ St F h h' [RP t p a1 l1 c1 bad2]) := by
  refine vf95 _ h _ ?_
  unfold F95
  refine CallsH.mono (numD_step k0 r) ?_
  rintro _ h2 ⟨n, a1, l1, c1, bs1, bad1, rfl, nx1, s1, _, hz, k⟩
  have hl1 := (r.nxt nx1).len
  refine ⟨_, rfl, cond_split (fun hc => ?_) (fun hc => ?_)⟩
  · have hn : n < 0 := of_decide_eq_true hc
    refine VSome.mk (k.vst (Nat.le_of_ble_eq_true (by rfl)) fun h5 k => ⟨n, 0, a1, l1, c1, bs1, bad1, true, rfl, nx1, s1, ?_, (fun h => by cases h), fun _ => rfl, by omega, by omega, k⟩)
    rw [hc, Bool.or_true, Bool.true_or]
  have hn : ¬ n < 0 := of_decide_eq_false hc
  refine VSome.mk ⟨_, _, _, k.rd (by rfl), cond_split (fun hc2 => ?_) (fun hc2 => ?_)⟩
  · refine VSome.mk (k.vst (Nat.le_of_ble_eq_true (by rfl)) fun h5 k => ⟨n, 0, a1, l1, c1, bs1, bad1, true, rfl, nx1, s1, ?_, (fun h => by cases h), fun _ => rfl, by omega, by omega, k⟩)
    rw [hl1, hc2, Bool.or_true]
  · have hn2 : ¬ n > (l1 : Int) := of_decide_eq_false hc2
    refine ⟨n, n, a1, l1, c1, bs1, bad1, bad1, rfl, nx1, s1, ?_, fun _ => rfl, hz, by omega, by omega, k⟩
    rw [hl1, hc, hc2, Bool.or_false, Bool.or_false]
theorem texD_step (k0 : Holds [RP t p a l c bad] F h) (r : RdP F h a l c bs) : CallsH Tryz.prog 86 #[.pointer (some ⟨p, 0, none⟩)] h
    (fun v h' => ∃ (x : Bytes) (a1 : Option Addr) (l1 c1 : Nat) (bs1 : Bytes) (bad1 : Bool), v = .string (bA x) ∧ Nxt a l c bs a1 l1 c1 bs1 ∧ StepO texO bs bad x bs1 bad1 ∧ St F h h' [RP t p a1 l1 c1 bad1]) := by
  refine vf86 _ h _ ?_
  unfold F86
  refine CallsH.mono (manyD_step k0 r) ?_
  rintro _ h2 ⟨n, x, a1, l1, c1, bs1, bad1, bad2, rfl, nx1, s1, hb2, q1, q2, _, _, k⟩
  refine ⟨_, rfl, ?_⟩
  obtain ⟨F', G, k1, kG, d, hF, back⟩ := k.frameA
  have r1 := (r.nxt nx1).at k.ext hF
  refine CallsH.mono (offD_step k1 r1) ?_
  rintro _ h5 ⟨y, b, c2, a2, l2, c2', bs2, bad3, rfl, nx2, s2, rb, hz, _, k2⟩
  have hs : Sl h5 b (bytesV y) := (rb _ _ (r1.ro.mod k2.ext)).sl
  have k := back k2
  have s3 : StepO (takeO n) bs1 bad1 y bs2 bad3 := by
    cases bad2
    · rw [q1 rfl] at s2
      cases bad1
      · exact s2
      · cases hb2
    · rcases s2 with ⟨_, h⟩ | ⟨h, _⟩ | ⟨h, _⟩
      · rw [h]
        refine .fail fun hb => if_neg fun hn => ?_
        rw [hb] at hb2
        simp at hb2
        omega
      · cases h
      · cases h
  refine ⟨_, _, _, rfl, bytes_text und30 (by kernel_rfl) und9 hs rfl ⟨_, rfl, y, a2, l2, c2', bs2, bad3, rfl, nx1.trans nx2, s1.bind s3, k⟩⟩
theorem truD_step (k0 : Holds [RP t p a l c bad] F h) (r : RdP F h a l c bs) : CallsH Tryz.prog 93 #[.pointer (some ⟨p, 0, none⟩)] h
    (fun v h' => ∃ (x : Bool) (a1 : Option Addr) (l1 c1 : Nat) (bs1 : Bytes) (bad1 : Bool), v = .bool x ∧ Nxt a l c bs a1 l1 c1 bs1 ∧ StepO truO bs bad x bs1 bad1 ∧ St F h h' [RP t p a1 l1 c1 bad1]) := by
  refine vf93 _ h _ ?_
  unfold F93
  refine CallsH.mono (offD_step (n := 1) k0 r) ?_
  rintro _ h2 ⟨x, b, c2, a1, l1, c1, bs1, bad1, rfl, nx, st, rb, hz, _, k⟩
  refine ⟨_, _, _, rfl, VSome.mk ⟨_, k.rd (by rfl), ?_⟩⟩
  rcases take1 st hz with ⟨rfl, rfl, hn⟩ | ⟨rfl, rfl, y, rfl, rfl⟩
  · refine cond_true rfl ⟨false, a1, l1, c1, bs1, true, rfl, nx, .fail fun hb => ?_, k⟩
    unfold truO bindO
    rw [hn hb]
  · have rb1 : Ro F h b (bytesV [y]) := rb _ _ r.ro
    have hs : Sl h2 b (bytesV [y]) := (rb1.mod k.ext).sl
    refine cond_false rfl ⟨fun h' => St F h h' [RP t p a1 l1 c1 (decide (1 < y.toNat))], ?_, ?_⟩
    · refine hs.one (f := byteV) (xs := [y]) rfl (by omega) (by simp) fun ad z hz hcz => ⟨_, hcz, ?_⟩
      cases hz
      by_cases hy : 1 < y.toNat
      · refine cond_true (decide_eq_true (by omega)) (VSome.mk (k.vst (Nat.le_of_ble_eq_true (by rfl)) fun h9 k => ?_))
        rw [decide_eq_true hy]; exact k
      · refine cond_false (decide_eq_false (by omega)) ?_
        rw [decide_eq_false hy]; exact k
    · clear k hs
      rintro h11 _ k
      have hs : Sl h11 b (bytesV [y]) := (rb1.mod k.ext).sl
      refine hs.one (f := byteV) (xs := [y]) rfl (by omega) (by simp) fun ad z hz hcz => ⟨_, hcz, ?_⟩
      cases hz
      have eb : ((y.toNat : Int) == 1) = decide (y.toNat = 1) := by rw [Bool.eq_iff_iff]; simp; omega
      rw [eb]
      refine ⟨_, a1, l1, c1, bs1, _, rfl, nx, ?_, k⟩
      have s1 : StepO oneO (y :: bs1) false y bs1 false := .ok rfl
      by_cases hy : 1 < y.toNat
      · rw [decide_eq_true hy]
        exact s1.bind (.fail fun _ => by rw [if_pos hy]; rfl)
      · rw [decide_eq_false hy]
        exact s1.bind (.ok (by rw [if_neg hy]; rfl))
theorem valD_step (k0 : Holds [RP t p a l c bad] F h) (r : RdP F h a l c bs) : CallsH Tryz.prog 127 #[.pointer (some ⟨p, 0, none⟩)] h
    (fun v h' => ∃ (x : Val) (a1 : Option Addr) (l1 c1 : Nat) (bs1 : Bytes) (bad1 : Bool), v = aggV x ∧ Nxt a l c bs a1 l1 c1 bs1 ∧ StepO valO bs bad x bs1 bad1 ∧ St F h h' [RP t p a1 l1 c1 bad1]) := by
  refine vf127 _ h _ ?_
  unfold F127
  have k := St.start k0
  refine k.vnew fun b1 h2 k => ?_
  obtain ⟨F', G, kF, kG, d, hF, back⟩ := k.pull1.frameA
  have rF := r.at k.ext hF
  refine CallsH.mono (offD_step (n := 1) kF rF) ?_
  rintro _ h4 ⟨x, b, c2, a1, l1, c1, bs1, bad1, rfl, nx1, st, rb, hz, _, k2⟩
  have k4 := back k2
  clear back kF kG d hF
  refine ⟨_, _, _, rfl, VSome.mk ⟨_, k4.rd (by rfl), ?_⟩⟩
  rcases take1 st hz with ⟨rfl, rfl, hn⟩ | ⟨rfl, rfl, x, rfl, rfl⟩
  · refine cond_true rfl (k4.vall (by rfl) (by rfl) fun h8 k => ⟨_, k.rd (by rfl), _, k.rd (by rfl), _, k.rd (by rfl), _, k.rd (by rfl), ⟨0, 0, [], false⟩, a1, l1, c1, bs1, true, rfl, nx1, .fail fun hb => ?_, k.only⟩)
    unfold valO bindO
    rw [hn hb]
  have s1 : StepO oneO (x :: bs1) false x bs1 false := .ok rfl
  refine cond_false rfl ?_
  have hs : Sl h4 b (bytesV [x]) := ((rb _ _ r.ro).mod k4.ext).sl
  refine hs.one (f := byteV) (xs := [x]) rfl (by omega) (by simp) fun ad z hz hcz => ⟨_, hcz, ?_⟩
  cases hz
  have ex : IntKind.i64.wrap (x.toNat : Int) = (x.toNat : Int) := by have := x.toNat_lt; rw [wrap_id (by omega) (by omega)]
  refine k4.vnew fun b15 h16 k => ?_
  rw [ex]
  refine k.vall (by rfl) (by rfl) fun h17 k => ?_
  have k : St F h h17 [A.blk b15 (valV ⟨x.toNat, 0, [], false⟩).toArray 127, RP t p a1 l1 c1 false, A.blk b1 (valV ⟨0, 0, [], false⟩).toArray 127] := k
  refine ⟨fun h' => ∃ (v : Val) (a2 : Option Addr) (l2 c2 : Nat) (bs2 : Bytes) (bad2 : Bool), Nxt a l c (x :: bs1) a2 l2 c2 bs2 ∧ StepO (valB x) bs1 false v bs2 bad2 ∧ St F h h' [RP t p a2 l2 c2 bad2, A.blk b15 (valV v).toArray 127, A.blk b1 (valV ⟨0, 0, [], false⟩).toArray 127], ⟨_, k.rd (by rfl), ?_⟩, ?_⟩
  rotate_left
  · clear k hs k4
    rintro h32 _ ⟨v, a2, l2, c2, bs2, bad2, nx2, s2, k⟩
    refine ⟨_, k.rd (by rfl), _, k.rd (by rfl), _, k.rd (by rfl), _, k.rd (by rfl), ?_⟩
    refine CallsH.mono (rvalid_spec v) ?_
    rintro _ h39 ⟨rfl, m⟩
    have k := k.next m
    refine ⟨_, rfl, fun h' => St F h h' [RP t p a2 l2 c2 (bad2 || !validV v), A.blk b15 (valV v).toArray 127, A.blk b1 (valV ⟨0, 0, [], false⟩).toArray 127], ?_, ?_⟩
    · cases hv : validV v
      · refine cond_true rfl (VSome.mk (k.vst (Nat.le_of_ble_eq_true (by rfl)) fun h43 k => ?_))
        rw [show (bad2 || !false) = true by cases bad2 <;> rfl]
        exact k
      · refine cond_false rfl ?_
        rw [show (bad2 || !true) = bad2 by cases bad2 <;> rfl]
        exact k
    · clear k
      rintro h44 _ k
      refine ⟨_, k.rd (by rfl), _, k.rd (by rfl), _, k.rd (by rfl), _, k.rd (by rfl), k.vall (by rfl) (by rfl) fun h50 k => ⟨_, k.rd (by rfl), _, k.rd (by rfl), _, k.rd (by rfl), _, k.rd (by rfl), v, a2, l2, c2, bs2, bad2 || !validV v, rfl, nx2, s1.bind (s2.bind ?_), k.only⟩⟩
      unfold chk
      cases bad2
      · cases validV v
        · exact .fail fun _ => rfl
        · exact .ok rfl
      · exact .spoilt
  refine cond_split (fun hc => ?_) (fun hc => ?_)
  · have hx : x.toNat = 1 := by
      have : (x.toNat : Int) = 1 := by simpa using hc
      omega
    obtain ⟨F', G, kF, kG, d, hF, back⟩ := k.pull1.frameA
    refine CallsH.mono (numD_step kF ((r.nxt nx1).at k.ext hF)) ?_
    rintro _ h12 ⟨n, a2, l2, c2, bs2, bad2, rfl, nx2, s2, _, _, k2⟩
    have k := back k2
    refine ⟨_, rfl, k.vst (Nat.le_of_ble_eq_true (by rfl)) fun h7 k => ⟨⟨1, n, [], false⟩, a2, l2, c2, bs2, bad2, nx1.trans nx2, ?_, ?_⟩⟩
    · unfold valB
      rw [if_pos hx]
      exact s2.bind (.ret _)
    · rw [hx] at k; exact k
  have hx1 : x.toNat ≠ 1 := by
    have : (x.toNat : Int) ≠ 1 := by simpa using hc
    omega
  clear hc
  refine cond_split (fun hc => ?_) (fun hc => ?_)
  · have hx : x.toNat = 2 := by
      have : (x.toNat : Int) = 2 := by simpa using hc
      omega
    obtain ⟨F', G, kF, kG, d, hF, back⟩ := k.pull1.frameA
    refine CallsH.mono (texD_step kF ((r.nxt nx1).at k.ext hF)) ?_
    rintro _ h12 ⟨s, a2, l2, c2, bs2, bad2, rfl, nx2, s2, k2⟩
    have k := back k2
    refine ⟨_, rfl, k.vst (Nat.le_of_ble_eq_true (by rfl)) fun h7 k => ⟨⟨2, 0, s, false⟩, a2, l2, c2, bs2, bad2, nx1.trans nx2, ?_, ?_⟩⟩
    · unfold valB
      rw [if_neg hx1, if_pos hx]
      exact s2.bind (.ret _)
    · rw [hx] at k; exact k
  have hx2 : x.toNat ≠ 2 := by
    have : (x.toNat : Int) ≠ 2 := by simpa using hc
    omega
  clear hc
  refine cond_split (fun hc => ?_) (fun hc => ?_)
  · have hx : x.toNat = 3 := by
      have : (x.toNat : Int) = 3 := by simpa using hc
      omega
    obtain ⟨F', G, kF, kG, d, hF, back⟩ := k.pull1.frameA
    refine CallsH.mono (truD_step kF ((r.nxt nx1).at k.ext hF)) ?_
    rintro _ h12 ⟨y, a2, l2, c2, bs2, bad2, rfl, nx2, s2, k2⟩
    have k := back k2
    refine ⟨_, rfl, k.vst (Nat.le_of_ble_eq_true (by rfl)) fun h7 k => ⟨⟨3, 0, [], y⟩, a2, l2, c2, bs2, bad2, nx1.trans nx2, ?_, ?_⟩⟩
    · unfold valB
      rw [if_neg hx1, if_neg hx2, if_pos hx]
      exact s2.bind (.ret _)
    · rw [hx] at k; exact k
  · have hx3 : x.toNat ≠ 3 := by
      have : (x.toNat : Int) ≠ 3 := by simpa using hc
      omega
    refine ⟨⟨x.toNat, 0, [], false⟩, a1, l1, c1, bs1, false, nx1, ?_, k.pull1⟩
    unfold valB
    rw [if_neg hx1, if_neg hx2, if_neg hx3]
    exact .ret _
end Go.Proofs.YtgdgebmlcgohhaaGreatDoor.F
