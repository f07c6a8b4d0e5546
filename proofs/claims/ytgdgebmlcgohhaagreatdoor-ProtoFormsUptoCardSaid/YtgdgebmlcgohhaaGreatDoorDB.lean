/- The document's reader of layer 30: lists. Conditions: none. -/
import Derived.Test.YtgdgebmlcgohhaaGreatDoorDA
namespace Go.Proofs.YtgdgebmlcgohhaaGreatDoor.F
open Go Go.VC Go.Proofs
set_option linter.unusedSimpArgs false
set_option linter.unusedVariables false
set_option maxRecDepth 100000
attribute [local irreducible] CallsH RunsTo PureTo

variable {S F G : Nat → Prop} {h0 h h1 : Heap} {L R L' : List A} {a b a1 a2 : Option Addr} {l c l1 c1 l2 c2 p t : Nat} {bs cs bs1 bs2 : List UInt8} {bad bad1 bad2 bad3 : Bool} {v : Val}
theorem many_end {α : Type} {f : Po α} {n x : Int} {xs : List α} (s1 : StepO numO bs bad n bs1 bad1) (hb2 : bad2 = (bad1 || decide (n < 0) || decide (n > (bs1.length : Int)))) (q1 : bad2 = false → x = n)
    (s2 : StepO (repO f xs.length) bs1 bad2 xs bs2 bad3) (hx : bad2 = false → xs.length ≤ x.toNat) (hend : bad3 = true ∨ x ≤ xs.length) : StepO (lisO f) bs bad xs bs2 bad3 := by
  refine s1.bind (many_fin hb2 s2 (fun h => by rw [← q1 h]; exact hx h) ?_)
  cases hb : bad2
  · rw [← q1 hb]; exact hend
  · rw [hb] at s2
    rcases s2 with ⟨_, h⟩ | ⟨h, _⟩ | ⟨h, _⟩
    · exact .inl h
    · cases h
    · cases h
theorem many_go {α : Type} {f : Po α} {xs : List α} (s2 : StepO (repO f xs.length) bs1 bad2 xs bs2 false) : bad2 = false := by
  rcases s2 with ⟨_, h⟩ | ⟨h, _⟩ | ⟨_, h, _⟩
  · cases h
  · exact h
  · cases h
theorem texsD_step (k0 : Holds [RP t p a l c bad] F h) (r : RdP F h a l c bs) : CallsH Tryz.prog 87 #[.pointer (some ⟨p, 0, none⟩)] h
    (fun v h' => ∃ (xs : List Bytes) (b : Option Addr) (cc : Nat) (a1 : Option Addr) (l1 c1 : Nat) (bs1 : Bytes) (bad1 : Bool), v = .slice b xs.length cc ∧ Nxt a l c bs a1 l1 c1 bs1 ∧ StepO (lisO texO) bs bad xs bs1 bad1 ∧ xs.length ≤ l ∧ St F h h' [RP t p a1 l1 c1 bad1, texE.L b xs.length cc xs]) := by
  refine vf87 _ h _ ?_
  unfold F87
  have hbig := r.big
  refine CallsH.mono (manyD_step k0 r) ?_
  rintro _ h2 ⟨n, x, a1, l1, c1, bs1, bad1, bad2, rfl, nx1, s1, hb2, q1, q2, q3, q4, k⟩
  have r1 := r.nxt nx1
  have hle1 := nx1.le
  refine ⟨_, rfl, fun m h' b ll cc i => ∃ (xs : List Bytes) (a2 : Option Addr) (l2 c2 : Nat) (bs2 : Bytes) (bad3 : Bool), ll = xs.length ∧ i = (xs.length : Int) ∧ m = x.toNat - xs.length ∧ xs.length ≤ x.toNat ∧ Nxt a1 l1 c1 bs1 a2 l2 c2 bs2 ∧ StepO (repO texO xs.length) bs1 bad2 xs bs2 bad3 ∧
      St F h h' [RP t p a2 l2 c2 bad3, texE.L b xs.length cc xs], ⟨_, [], a1, l1, c1, bs1, bad2, rfl, rfl, rfl, Nat.zero_le _, .refl, .ret _, (El.nil texE k).pull1⟩, ?_⟩
  clear k
  rintro m h15 _ b ll cc i ⟨xs, a2, l2, c2, bs2, bad3, rfl, rfl, rfl, hxl, nx2, s2, k⟩
  have fin : (bad3 = true ∨ x ≤ xs.length) → ∃ (xs' : List Bytes) (b' : Option Addr) (cc' : Nat) (a1 : Option Addr) (l1 c1 : Nat) (bs1 : Bytes) (bad1 : Bool), (Value.slice b xs.length cc) = .slice b' xs'.length cc' ∧ Nxt a l c bs a1 l1 c1 bs1 ∧ StepO (lisO texO) bs bad xs' bs1 bad1 ∧ xs'.length ≤ l ∧ St F h h15 [RP t p a1 l1 c1 bad1, texE.L b' xs'.length cc' xs'] := fun hend =>
    ⟨xs, b, cc, a2, l2, c2, bs2, bad3, rfl, nx1.trans nx2, many_end s1 hb2 q1 s2 (fun _ => hxl) hend, by omega, k⟩
  refine cond_split (fun hc => ?_) (fun hc => ?_)
  · have hlt : (xs.length : Int) < x := of_decide_eq_true hc
    refine VSome.mk ⟨_, k.rd (by rfl), ?_⟩
    cases hb4 : bad3
    · refine cond_true rfl ?_
      obtain ⟨F', G, kF, kG, d, hF, back⟩ := k.frameA
      refine CallsH.mono (texD_step kF ((r1.nxt nx2).at k.ext hF)) ?_
      rintro _ h23 ⟨s, a3, l3, c3, bs3, bad4, rfl, nx3, s3, k2⟩
      have k := back k2
      clear back kF kG d hF
      refine ⟨_, rfl, k.vnew fun bb h29 k => ?_⟩
      have k := (k.all0).sel 4 [1, 0, 3, 2] rfl (by decide) (L' := [A.blk bb (texE.cells s).toArray texE.e, texE.own s, texE.L b xs.length cc xs, _]) (by rfl)
      refine El.app (E := texE) T23 k (by omega) fun b' cc' h' k => ⟨_, _, _, rfl, x.toNat - (xs.length + 1), by omega, xs ++ [texE.val s], a3, l3, c3, bs3, bad4, by simp, ?_, by simp, by rw [List.length_append]; simp only [List.length_singleton]; omega, nx2.trans nx3, ?_, ?_⟩
      · rw [wrap_id (by omega) (by omega), List.length_append]; rfl
      · rw [List.length_append]; exact s2.snoc s3
      · rw [List.length_append]; exact k.pull1
    · exact cond_false rfl (fin (.inl hb4))
  · have hge : ¬ (xs.length : Int) < x := of_decide_eq_false hc
    exact fin (.inr (by omega))
theorem valsD_step (k0 : Holds [RP t p a l c bad] F h) (r : RdP F h a l c bs) : CallsH Tryz.prog 96 #[.pointer (some ⟨p, 0, none⟩)] h
    (fun v h' => ∃ (xs : List Val) (b : Option Addr) (cc : Nat) (a1 : Option Addr) (l1 c1 : Nat) (bs1 : Bytes) (bad1 : Bool), v = .slice b xs.length cc ∧ Nxt a l c bs a1 l1 c1 bs1 ∧ StepO (lisO valO) bs bad xs bs1 bad1 ∧ xs.length ≤ l ∧ St F h h' [RP t p a1 l1 c1 bad1, valE.L b xs.length cc xs]) := by
  refine vf96 _ h _ ?_
  unfold F96
  have hbig := r.big
  refine CallsH.mono (manyD_step k0 r) ?_
  rintro _ h2 ⟨n, x, a1, l1, c1, bs1, bad1, bad2, rfl, nx1, s1, hb2, q1, q2, q3, q4, k⟩
  have r1 := r.nxt nx1
  have hle1 := nx1.le
  refine ⟨_, rfl, fun m h' b ll cc i => ∃ (xs : List Val) (a2 : Option Addr) (l2 c2 : Nat) (bs2 : Bytes) (bad3 : Bool), ll = xs.length ∧ i = (xs.length : Int) ∧ m = x.toNat - xs.length ∧ xs.length ≤ x.toNat ∧ Nxt a1 l1 c1 bs1 a2 l2 c2 bs2 ∧ StepO (repO valO xs.length) bs1 bad2 xs bs2 bad3 ∧
      St F h h' [RP t p a2 l2 c2 bad3, valE.L b xs.length cc xs], ⟨_, [], a1, l1, c1, bs1, bad2, rfl, rfl, rfl, Nat.zero_le _, .refl, .ret _, (El.nil valE k).pull1⟩, ?_⟩
  clear k
  rintro m h15 _ b ll cc i ⟨xs, a2, l2, c2, bs2, bad3, rfl, rfl, rfl, hxl, nx2, s2, k⟩
  have fin : (bad3 = true ∨ x ≤ xs.length) → ∃ (xs' : List Val) (b' : Option Addr) (cc' : Nat) (a1 : Option Addr) (l1 c1 : Nat) (bs1 : Bytes) (bad1 : Bool), (Value.slice b xs.length cc) = .slice b' xs'.length cc' ∧ Nxt a l c bs a1 l1 c1 bs1 ∧ StepO (lisO valO) bs bad xs' bs1 bad1 ∧ xs'.length ≤ l ∧ St F h h15 [RP t p a1 l1 c1 bad1, valE.L b' xs'.length cc' xs'] := fun hend =>
    ⟨xs, b, cc, a2, l2, c2, bs2, bad3, rfl, nx1.trans nx2, many_end s1 hb2 q1 s2 (fun _ => hxl) hend, by omega, k⟩
  refine cond_split (fun hc => ?_) (fun hc => ?_)
  · have hlt : (xs.length : Int) < x := of_decide_eq_true hc
    refine VSome.mk ⟨_, k.rd (by rfl), ?_⟩
    cases hb4 : bad3
    · refine cond_true rfl ?_
      obtain ⟨F', G, kF, kG, d, hF, back⟩ := k.frameA
      refine CallsH.mono (valD_step kF ((r1.nxt nx2).at k.ext hF)) ?_
      rintro _ h23 ⟨s, a3, l3, c3, bs3, bad4, rfl, nx3, s3, k2⟩
      have k := back k2
      clear back kF kG d hF
      refine ⟨_, _, _, _, rfl, k.vnew fun b19 h20 k => k.vall (by rfl) (by rfl) fun h21 k => ⟨_, k.rd (by rfl), _, k.rd (by rfl), _, k.rd (by rfl), _, k.rd (by rfl), k.vnew fun bb h27 k => ?_⟩⟩
      have k := (k.all0).sel 5 [1, 0, 4, 3, 2] rfl (by decide) (L' := [A.blk bb (valE.cells s).toArray valE.e, valE.own s, valE.L b xs.length cc xs, _, A.blk b19 (valV s).toArray 127]) (by rfl)
      refine El.app (E := valE) T25 k (by omega) fun b' cc' h' k => ⟨_, _, _, rfl, x.toNat - (xs.length + 1), by omega, xs ++ [valE.val s], a3, l3, c3, bs3, bad4, by simp, ?_, by simp, by rw [List.length_append]; simp only [List.length_singleton]; omega, nx2.trans nx3, ?_, ?_⟩
      · rw [wrap_id (by omega) (by omega), List.length_append]; rfl
      · rw [List.length_append]; exact s2.snoc s3
      · rw [List.length_append]; exact k.pull1.only2
    · exact cond_false rfl (fin (.inl hb4))
  · have hge : ¬ (xs.length : Int) < x := of_decide_eq_false hc
    exact fin (.inr (by omega))
theorem evsD_step (k0 : Holds [RP t p a l c bad] F h) (r : RdP F h a l c bs) : CallsH Tryz.prog 88 #[.pointer (some ⟨p, 0, none⟩)] h
    (fun v h' => ∃ (xs : List Ev) (b : Option Addr) (cc : Nat) (a1 : Option Addr) (l1 c1 : Nat) (bs1 : Bytes) (bad1 : Bool), v = .slice b xs.length cc ∧ Nxt a l c bs a1 l1 c1 bs1 ∧ StepO (lisO evO) bs bad xs bs1 bad1 ∧ xs.length ≤ l ∧ (∀ x ∈ xs, x.vs.length ≤ 16) ∧ St F h h' [RP t p a1 l1 c1 bad1, evE.L b xs.length cc xs]) := by
  refine vf88 _ h _ ?_
  unfold F88
  have hbig := r.big
  refine CallsH.mono (manyD_step k0 r) ?_
  rintro _ h2 ⟨n, x, a1, l1, c1, bs1, bad1, bad2, rfl, nx1, s1, hb2, q1, q2, q3, q4, k⟩
  have r1 := r.nxt nx1
  have hle1 := nx1.le
  refine ⟨_, rfl, fun m h' b ll cc i => ∃ (xs : List Ev) (a2 : Option Addr) (l2 c2 : Nat) (bs2 : Bytes) (bad3 : Bool), ll = xs.length ∧ i = (xs.length : Int) ∧ m = x.toNat - xs.length ∧ xs.length ≤ x.toNat ∧ (∀ x ∈ xs, x.vs.length ≤ 16) ∧ Nxt a1 l1 c1 bs1 a2 l2 c2 bs2 ∧ StepO (repO evO xs.length) bs1 bad2 xs bs2 bad3 ∧
      St F h h' [RP t p a2 l2 c2 bad3, evE.L b xs.length cc xs], ⟨_, [], a1, l1, c1, bs1, bad2, rfl, rfl, rfl, Nat.zero_le _, (fun x hx => by cases hx), .refl, .ret _, (El.nil evE k).pull1⟩, ?_⟩
  clear k
  rintro m h15 _ b ll cc i ⟨xs, a2, l2, c2, bs2, bad3, rfl, rfl, rfl, hxl, hev, nx2, s2, k⟩
  have fin : ∀ {h' : Heap} {bad5 : Bool}, StepO (lisO evO) bs bad xs bs2 bad5 → St F h h' [RP t p a2 l2 c2 bad5, evE.L b xs.length cc xs] → ∃ (xs' : List Ev) (b' : Option Addr) (cc' : Nat) (a1 : Option Addr) (l1 c1 : Nat) (bs1 : Bytes) (bad1 : Bool), (Value.slice b xs.length cc) = .slice b' xs'.length cc' ∧ Nxt a l c bs a1 l1 c1 bs1 ∧ StepO (lisO evO) bs bad xs' bs1 bad1 ∧ xs'.length ≤ l ∧ (∀ x ∈ xs', x.vs.length ≤ 16) ∧ St F h h' [RP t p a1 l1 c1 bad1, evE.L b' xs'.length cc' xs'] := fun hs k =>
    ⟨xs, b, cc, a2, l2, c2, bs2, _, rfl, nx1.trans nx2, hs, by omega, hev, k⟩
  refine cond_split (fun hc => ?_) (fun hc => ?_)
  · have hlt : (xs.length : Int) < x := of_decide_eq_true hc
    refine VSome.mk ⟨_, k.rd (by rfl), ?_⟩
    cases hb4 : bad3
    rotate_left
    · refine cond_false rfl (fin (bad5 := bad3) (many_end s1 hb2 q1 s2 (fun _ => hxl) (.inl hb4)) k)
    refine cond_true rfl (VSome.mk ⟨_, _, _, k.rd (by rfl), ?_⟩)
    have rr := r1.nxt nx2
    have rk : Ro none_ h15 a2 (bytesV bs2) := (rr.ro.mod k.ext).sl.ro
    refine CallsH.mono (rdecode_spec (bs := bs2) rk.sl rr.len rr.lc rr.big) ?_
    rintro _ h12 ⟨a', c', rfl, kd⟩
    have k := k.add1 kd
    have hvl := evR_len (b := bs2)
    refine ⟨_, _, _, _, _, _, _, rfl, k.vnew fun b22 h19 k => k.vall (by rfl) (by rfl) fun h20 k => ?_⟩
    subst hb4
    cases hg : evR bs2 with
    | err e2 =>
      have hd : decB bs2 = (noEv, 0, e2) := by unfold decB; rw [hg]
      have he2 : e2 ≠ 0 := Bad.ev _ _ hg
      rw [hd] at k ⊢
      refine cond_true (by simpa using he2) (VSome.mk (k.vst (Nat.le_of_ble_eq_true (by rfl)) fun h22 k => fin (bad5 := true) ?_ ?_))
      · have s4 : StepO evO bs2 false (default : Ev) bs2 true := .fail fun _ => by unfold evO ofR; rw [hg]
        have s5 := s2.snoc s4
        have e1 : xs.length + 1 = (xs ++ [(default : Ev)]).length := by simp
        rw [e1] at s5
        exact (many_end s1 hb2 q1 s5 (fun _ => by rw [← e1]; omega) (.inl rfl)).junk
      · exact (k.sel 4 [2, 3, 0, 1] rfl (by decide) (L' := [_, _, _, _]) (by rfl)).only2
    | ok y n2 =>
      have hd : decB bs2 = (y, n2, 0) := by unfold decB; rw [hg]
      have hle := Form.ev.le hg
      rw [hd] at k hvl ⊢
      refine cond_false rfl ?_
      obtain ⟨F', G, kF, kG, d, hF, back⟩ := (k.sel 4 [2, 0, 1, 3] rfl (by decide) (L' := [RP t p a2 l2 c2 false, _, _, _]) (by rfl)).frameA
      refine CallsH.mono (offD_step (n := (n2 : Int)) kF (rr.at k.ext hF)) ?_
      rintro _ h28 ⟨z, b4, c4, a3, l3, c3, bs3, bad4, rfl, nx3, st, rb, hz, _, k2⟩
      have k := back k2
      have ht : takeO (n2 : Int) bs2 = some (bs2.take n2, bs2.drop n2) := by
        show (if 0 ≤ (n2 : Int) ∧ (n2 : Int) ≤ bs2.length then _ else _) = _
        rw [if_pos (by omega), Int.toNat_natCast]
      have hlen2 := rr.len
      have e3 : bs3 = bs2.drop n2 ∧ bad4 = false := by
        rcases st with ⟨h, _⟩ | ⟨_, h, h3⟩ | ⟨_, _, h3⟩
        · cases h
        · rw [ht] at h3; cases h3; exact ⟨rfl, h⟩
        · rw [ht] at h3; cases h3
      obtain ⟨e3, e4⟩ := e3
      subst e3
      subst e4
      have s3 : StepO evO bs2 false y (bs2.drop n2) false := .ok (by unfold evO ofR; rw [hg])
      refine ⟨_, _, _, rfl, _, k.rd (by rfl), _, k.rd (by rfl), _, _, _, k.rd (by rfl), k.vnew fun bb h34 k => ?_⟩
      have k := k.sel 5 [0, 3, 4, 1, 2] rfl (by decide) (L' := [A.blk bb (evE.cells ⟨a', c', y⟩).toArray evE.e, evE.own ⟨a', c', y⟩, evE.L b xs.length cc xs, _, _]) (by rfl)
      refine El.app (E := evE) T24 k (by omega) fun b' cc' h' k => ⟨_, _, _, rfl, x.toNat - (xs.length + 1), by omega, xs ++ [y], a3, l3, c3, _, false, by simp, ?_, by simp, by rw [List.length_append]; simp only [List.length_singleton]; omega, ?_, nx2.trans nx3, ?_, ?_⟩
      · rw [wrap_id (by omega) (by omega), List.length_append]; rfl
      · intro u hu
        rcases List.mem_append.1 hu with hu | hu
        · exact hev u hu
        · obtain rfl := List.mem_singleton.1 hu
          exact hvl
      · rw [List.length_append]; exact s2.snoc s3
      · rw [List.length_append]; exact (k.sel 3 [1, 0, 2] rfl (by decide) (L' := [_, _, _]) (by rfl)).only2
  · have hge : ¬ (xs.length : Int) < x := of_decide_eq_false hc
    exact fin (bad5 := bad3) (many_end s1 hb2 q1 s2 (fun _ => hxl) (.inr (by omega))) k
end Go.Proofs.YtgdgebmlcgohhaaGreatDoor.F
