/- Package proto: Ask, Asked, Tell, Told, streams, comparisons, begun. Conditions: none. -/
import Derived.Test.YtgdgebmlcgohhaaGreatDoorZ2
/-! ## Package proto: the program's reader: lists. Printed by q8.py. -/
namespace Go.Proofs.YtgdgebmlcgohhaaGreatDoor.F
open Go Go.VC Go.Proofs
set_option linter.unusedSimpArgs false
set_option linter.unusedVariables false
set_option maxRecDepth 100000
attribute [local irreducible] CallsH RunsTo PureTo

variable {S F G : Nat → Prop} {h0 h h1 : Heap} {L R L' : List A} {a b a1 a2 : Option Addr} {l c l1 c1 l2 c2 p t : Nat} {bs cs bs1 bs2 : List UInt8} {bad bad1 bad2 : Bool} {v : Val}
theorem texsP_step (k0 : Holds [RP t p a l c bad] F h) (r : RdP F h a l c bs) : CallsH Tryz.prog 53 #[.pointer (some ⟨p, 0, none⟩), .func (.func 54) #[.pointer (some ⟨p, 0, none⟩)] #[]] h
    (fun v h' => ∃ (xs : List (Bytes)) (b : Option Addr) (cc : Nat) (a1 : Option Addr) (l1 c1 : Nat) (bs1 : Bytes) (bad1 : Bool), v = .slice b xs.length cc ∧ Nxt a l c bs a1 l1 c1 bs1 ∧ StepO (lisO (texO)) bs bad xs bs1 bad1 ∧ xs.length ≤ l ∧ St F h h' [RP t p a1 l1 c1 bad1, texE.L b xs.length cc xs]) := by
  refine vf53 _ _ h _ ?_
  unfold F53
  have k := St.start k0
  have hbig := r.big
  obtain ⟨F', G, kF, kG, d, hF, back⟩ := k.frameA
  refine CallsH.mono (numP_step kF (r.at k.ext hF)) ?_
  rintro _ h2 ⟨n, a1, l1, c1, bs1, bad1, rfl, nx1, s1, hn64, _, k2⟩
  have k := back k2
  clear back kF kG d hF
  have r1 := r.nxt nx1
  have hl1 := r1.len
  have hle1 := nx1.le
  refine ⟨_, rfl, fun h' => St F h h' [RP t p a1 l1 c1 (bad1 || decide (n < 0) || decide (n > (l1 : Int)))], ?_, ?_⟩
  · refine cond_split (fun hc => ?_) (fun hc => ?_)
    · refine VSome.mk (k.vst (Nat.le_of_ble_eq_true (by rfl)) fun _ k => ?_)
      rw [hc, Bool.or_true, Bool.true_or]; exact k
    · refine VSome.mk ⟨_, _, _, k.rd (by rfl), cond_split (fun hc2 => ?_) (fun hc2 => ?_)⟩
      · refine VSome.mk (k.vst (Nat.le_of_ble_eq_true (by rfl)) fun _ k => ?_)
        rw [hc2, Bool.or_true]; exact k
      · rw [hc, hc2, Bool.or_false, Bool.or_false]; exact k
  clear k
  rintro h11 _ k
  generalize hb2 : (bad1 || decide (n < 0) || decide (n > (l1 : Int))) = bad2 at k
  have hb3 : bad2 = false → 0 ≤ n ∧ n ≤ l1 := fun h => by
    rw [h] at hb2
    simp only [Bool.or_eq_false_iff, decide_eq_false_iff_not] at hb2
    omega
  refine ⟨fun m h' x b ll cc => ∃ (xs : List (Bytes)) (a2 : Option Addr) (l2 c2 : Nat) (bs2 : Bytes) (bad3 : Bool), ll = xs.length ∧ x = n - (xs.length : Int) ∧ m = n.toNat - xs.length ∧ (bad2 = false → xs.length ≤ n.toNat) ∧ (bad2 = true → xs = []) ∧ Nxt a1 l1 c1 bs1 a2 l2 c2 bs2 ∧ StepO (repO (texO) xs.length) bs1 bad2 xs bs2 bad3 ∧
      St F h h' [RP t p a2 l2 c2 bad3, texE.L b xs.length cc xs], ⟨_, [], a1, l1, c1, bs1, bad2, rfl, by simp, rfl, fun _ => Nat.zero_le _, fun _ => rfl, .refl, .ret _, (El.nil texE k).pull1⟩, ?_⟩
  clear k
  rintro m h15 _ x b ll cc ⟨xs, a2, l2, c2, bs2, bad3, rfl, rfl, rfl, q1, q2, nx2, s2, k⟩
  have hxl : xs.length ≤ l1 := by
    cases hb4 : bad2
    · have := q1 hb4; have := hb3 hb4; omega
    · rw [q2 hb4]; exact Nat.zero_le _
  have fin : (bad3 = true ∨ n ≤ xs.length) → ∃ (xs' : List (Bytes)) (b' : Option Addr) (cc' : Nat) (a1 : Option Addr) (l1 c1 : Nat) (bs1 : Bytes) (bad1 : Bool), (Value.slice b xs.length cc) = .slice b' xs'.length cc' ∧ Nxt a l c bs a1 l1 c1 bs1 ∧ StepO (lisO (texO)) bs bad xs' bs1 bad1 ∧ xs'.length ≤ l ∧ St F h h15 [RP t p a1 l1 c1 bad1, texE.L b' xs'.length cc' xs'] := fun hend =>
    ⟨xs, b, cc, a2, l2, c2, bs2, bad3, rfl, nx1.trans nx2, s1.bind (many_fin (by rw [hl1]; exact hb2.symm) s2 q1 hend), by omega, k⟩
  refine cond_split (fun hc => ?_) (fun hc => ?_)
  · have hgt : n - (xs.length : Int) > 0 := of_decide_eq_true hc
    refine VSome.mk ⟨_, k.rd (by rfl), ?_⟩
    cases hb4 : bad3
    · refine cond_true rfl ?_
      subst hb4
      have hb5 : bad2 = false := by
        rcases s2 with ⟨_, h⟩ | ⟨h, _⟩ | ⟨_, h, _⟩
        · cases h
        · exact h
        · cases h
      have hq := hb3 hb5
      obtain ⟨F', G, kF, kG, d, hF, back⟩ := k.frameA
      refine CallsH.mono (texP_step kF ((r1.nxt nx2).at k.ext hF)) ?_
      rintro _ h23 ⟨s, a3, l3, c3, bs3, bad4, rfl, nx3, s3, k2⟩
      have k := back k2
      clear back kF kG d hF
      refine ⟨_, rfl, _, rfl, k.vnew fun bb h29 k => ?_⟩
      have k := (k.all0).sel 4 [1, 0, 3, 2] rfl (by decide) (L' := [A.blk bb (texE.cells s).toArray texE.e, texE.own s, texE.L b xs.length cc xs, _]) (by rfl)
      refine El.app (E := texE) T23 k (by omega) fun b' cc' h' k => ⟨_, _, _, rfl, n.toNat - (xs.length + 1), by omega, xs ++ [texE.val s], a3, l3, c3, bs3, bad4, by simp, ?_, by simp, fun _ => by rw [List.length_append]; simp only [List.length_singleton]; omega, fun h => by (rw [hb5] at h; cases h), nx2.trans nx3, ?_, ?_⟩
      · rw [wrap_id (by omega) (by omega), List.length_append]; simp only [List.length_singleton]; omega
      · rw [List.length_append]; exact s2.snoc s3
      · rw [List.length_append]; exact k.pull1
    · exact cond_false rfl (fin (.inl hb4))
  · have hle : ¬ n - (xs.length : Int) > 0 := of_decide_eq_false hc
    exact fin (.inr (by omega))
theorem valsP_step (k0 : Holds [RP t p a l c bad] F h) (r : RdP F h a l c bs) : CallsH Tryz.prog 116 #[.pointer (some ⟨p, 0, none⟩), .func (.func 117) #[.pointer (some ⟨p, 0, none⟩)] #[]] h
    (fun v h' => ∃ (xs : List (Val)) (b : Option Addr) (cc : Nat) (a1 : Option Addr) (l1 c1 : Nat) (bs1 : Bytes) (bad1 : Bool), v = .slice b xs.length cc ∧ Nxt a l c bs a1 l1 c1 bs1 ∧ StepO (lisO (valO)) bs bad xs bs1 bad1 ∧ xs.length ≤ l ∧ St F h h' [RP t p a1 l1 c1 bad1, valE.L b xs.length cc xs]) := by
  refine vf116 _ _ h _ ?_
  unfold F116
  have k := St.start k0
  have hbig := r.big
  obtain ⟨F', G, kF, kG, d, hF, back⟩ := k.frameA
  refine CallsH.mono (numP_step kF (r.at k.ext hF)) ?_
  rintro _ h2 ⟨n, a1, l1, c1, bs1, bad1, rfl, nx1, s1, hn64, _, k2⟩
  have k := back k2
  clear back kF kG d hF
  have r1 := r.nxt nx1
  have hl1 := r1.len
  have hle1 := nx1.le
  refine ⟨_, rfl, fun h' => St F h h' [RP t p a1 l1 c1 (bad1 || decide (n < 0) || decide (n > (l1 : Int)))], ?_, ?_⟩
  · refine cond_split (fun hc => ?_) (fun hc => ?_)
    · refine VSome.mk (k.vst (Nat.le_of_ble_eq_true (by rfl)) fun _ k => ?_)
      rw [hc, Bool.or_true, Bool.true_or]; exact k
    · refine VSome.mk ⟨_, _, _, k.rd (by rfl), cond_split (fun hc2 => ?_) (fun hc2 => ?_)⟩
      · refine VSome.mk (k.vst (Nat.le_of_ble_eq_true (by rfl)) fun _ k => ?_)
        rw [hc2, Bool.or_true]; exact k
      · rw [hc, hc2, Bool.or_false, Bool.or_false]; exact k
  clear k
  rintro h11 _ k
  generalize hb2 : (bad1 || decide (n < 0) || decide (n > (l1 : Int))) = bad2 at k
  have hb3 : bad2 = false → 0 ≤ n ∧ n ≤ l1 := fun h => by
    rw [h] at hb2
    simp only [Bool.or_eq_false_iff, decide_eq_false_iff_not] at hb2
    omega
  refine ⟨fun m h' x b ll cc => ∃ (xs : List (Val)) (a2 : Option Addr) (l2 c2 : Nat) (bs2 : Bytes) (bad3 : Bool), ll = xs.length ∧ x = n - (xs.length : Int) ∧ m = n.toNat - xs.length ∧ (bad2 = false → xs.length ≤ n.toNat) ∧ (bad2 = true → xs = []) ∧ Nxt a1 l1 c1 bs1 a2 l2 c2 bs2 ∧ StepO (repO (valO) xs.length) bs1 bad2 xs bs2 bad3 ∧
      St F h h' [RP t p a2 l2 c2 bad3, valE.L b xs.length cc xs], ⟨_, [], a1, l1, c1, bs1, bad2, rfl, by simp, rfl, fun _ => Nat.zero_le _, fun _ => rfl, .refl, .ret _, (El.nil valE k).pull1⟩, ?_⟩
  clear k
  rintro m h15 _ x b ll cc ⟨xs, a2, l2, c2, bs2, bad3, rfl, rfl, rfl, q1, q2, nx2, s2, k⟩
  have hxl : xs.length ≤ l1 := by
    cases hb4 : bad2
    · have := q1 hb4; have := hb3 hb4; omega
    · rw [q2 hb4]; exact Nat.zero_le _
  have fin : (bad3 = true ∨ n ≤ xs.length) → ∃ (xs' : List (Val)) (b' : Option Addr) (cc' : Nat) (a1 : Option Addr) (l1 c1 : Nat) (bs1 : Bytes) (bad1 : Bool), (Value.slice b xs.length cc) = .slice b' xs'.length cc' ∧ Nxt a l c bs a1 l1 c1 bs1 ∧ StepO (lisO (valO)) bs bad xs' bs1 bad1 ∧ xs'.length ≤ l ∧ St F h h15 [RP t p a1 l1 c1 bad1, valE.L b' xs'.length cc' xs'] := fun hend =>
    ⟨xs, b, cc, a2, l2, c2, bs2, bad3, rfl, nx1.trans nx2, s1.bind (many_fin (by rw [hl1]; exact hb2.symm) s2 q1 hend), by omega, k⟩
  refine cond_split (fun hc => ?_) (fun hc => ?_)
  · have hgt : n - (xs.length : Int) > 0 := of_decide_eq_true hc
    refine VSome.mk ⟨_, k.rd (by rfl), ?_⟩
    cases hb4 : bad3
    · refine cond_true rfl ?_
      subst hb4
      have hb5 : bad2 = false := by
        rcases s2 with ⟨_, h⟩ | ⟨h, _⟩ | ⟨_, h, _⟩
        · cases h
        · exact h
        · cases h
      have hq := hb3 hb5
      obtain ⟨F', G, kF, kG, d, hF, back⟩ := k.frameA
      refine CallsH.mono (valP_step kF ((r1.nxt nx2).at k.ext hF)) ?_
      rintro _ h23 ⟨s, a3, l3, c3, bs3, bad4, rfl, nx3, s3, k2⟩
      have k := back k2
      clear back kF kG d hF
      refine ⟨_, _, _, _, rfl, _, _, _, _, rfl, k.vnew fun bb h29 k => ?_⟩
      have k := (k.all0).sel 4 [1, 0, 3, 2] rfl (by decide) (L' := [A.blk bb (valE.cells s).toArray valE.e, valE.own s, valE.L b xs.length cc xs, _]) (by rfl)
      refine El.app (E := valE) T25 k (by omega) fun b' cc' h' k => ⟨_, _, _, rfl, n.toNat - (xs.length + 1), by omega, xs ++ [valE.val s], a3, l3, c3, bs3, bad4, by simp, ?_, by simp, fun _ => by rw [List.length_append]; simp only [List.length_singleton]; omega, fun h => by (rw [hb5] at h; cases h), nx2.trans nx3, ?_, ?_⟩
      · rw [wrap_id (by omega) (by omega), List.length_append]; simp only [List.length_singleton]; omega
      · rw [List.length_append]; exact s2.snoc s3
      · rw [List.length_append]; exact k.pull1
    · exact cond_false rfl (fin (.inl hb4))
  · have hle : ¬ n - (xs.length : Int) > 0 := of_decide_eq_false hc
    exact fin (.inr (by omega))
theorem evsP_step (hw : Wd F h) (k0 : Holds [RP t p a l c bad] F h) (r : RdP F h a l c bs) : CallsH Tryz.prog 113 #[.pointer (some ⟨p, 0, none⟩), .func (.func 114) #[.pointer (some ⟨p, 0, none⟩)] #[]] h
    (fun v h' => ∃ (xs : List (Ev)) (b : Option Addr) (cc : Nat) (a1 : Option Addr) (l1 c1 : Nat) (bs1 : Bytes) (bad1 : Bool), v = .slice b xs.length cc ∧ Nxt a l c bs a1 l1 c1 bs1 ∧ StepO (lisO (evO)) bs bad xs bs1 bad1 ∧ xs.length ≤ l ∧ St F h h' [RP t p a1 l1 c1 bad1, evE.L b xs.length cc xs]) := by
  refine vf113 _ _ h _ ?_
  unfold F113
  have k := St.start k0
  have hbig := r.big
  obtain ⟨F', G, kF, kG, d, hF, back⟩ := k.frameA
  refine CallsH.mono (numP_step kF (r.at k.ext hF)) ?_
  rintro _ h2 ⟨n, a1, l1, c1, bs1, bad1, rfl, nx1, s1, hn64, _, k2⟩
  have k := back k2
  clear back kF kG d hF
  have r1 := r.nxt nx1
  have hl1 := r1.len
  have hle1 := nx1.le
  refine ⟨_, rfl, fun h' => St F h h' [RP t p a1 l1 c1 (bad1 || decide (n < 0) || decide (n > (l1 : Int)))], ?_, ?_⟩
  · refine cond_split (fun hc => ?_) (fun hc => ?_)
    · refine VSome.mk (k.vst (Nat.le_of_ble_eq_true (by rfl)) fun _ k => ?_)
      rw [hc, Bool.or_true, Bool.true_or]; exact k
    · refine VSome.mk ⟨_, _, _, k.rd (by rfl), cond_split (fun hc2 => ?_) (fun hc2 => ?_)⟩
      · refine VSome.mk (k.vst (Nat.le_of_ble_eq_true (by rfl)) fun _ k => ?_)
        rw [hc2, Bool.or_true]; exact k
      · rw [hc, hc2, Bool.or_false, Bool.or_false]; exact k
  clear k
  rintro h11 _ k
  generalize hb2 : (bad1 || decide (n < 0) || decide (n > (l1 : Int))) = bad2 at k
  have hb3 : bad2 = false → 0 ≤ n ∧ n ≤ l1 := fun h => by
    rw [h] at hb2
    simp only [Bool.or_eq_false_iff, decide_eq_false_iff_not] at hb2
    omega
  refine ⟨fun m h' x b ll cc => ∃ (xs : List (Ev)) (a2 : Option Addr) (l2 c2 : Nat) (bs2 : Bytes) (bad3 : Bool), ll = xs.length ∧ x = n - (xs.length : Int) ∧ m = n.toNat - xs.length ∧ (bad2 = false → xs.length ≤ n.toNat) ∧ (bad2 = true → xs = []) ∧ Nxt a1 l1 c1 bs1 a2 l2 c2 bs2 ∧ StepO (repO (evO) xs.length) bs1 bad2 xs bs2 bad3 ∧
      St F h h' [RP t p a2 l2 c2 bad3, evE.L b xs.length cc xs], ⟨_, [], a1, l1, c1, bs1, bad2, rfl, by simp, rfl, fun _ => Nat.zero_le _, fun _ => rfl, .refl, .ret _, (El.nil evE k).pull1⟩, ?_⟩
  clear k
  rintro m h15 _ x b ll cc ⟨xs, a2, l2, c2, bs2, bad3, rfl, rfl, rfl, q1, q2, nx2, s2, k⟩
  have hxl : xs.length ≤ l1 := by
    cases hb4 : bad2
    · have := q1 hb4; have := hb3 hb4; omega
    · rw [q2 hb4]; exact Nat.zero_le _
  have fin : (bad3 = true ∨ n ≤ xs.length) → ∃ (xs' : List (Ev)) (b' : Option Addr) (cc' : Nat) (a1 : Option Addr) (l1 c1 : Nat) (bs1 : Bytes) (bad1 : Bool), (Value.slice b xs.length cc) = .slice b' xs'.length cc' ∧ Nxt a l c bs a1 l1 c1 bs1 ∧ StepO (lisO (evO)) bs bad xs' bs1 bad1 ∧ xs'.length ≤ l ∧ St F h h15 [RP t p a1 l1 c1 bad1, evE.L b' xs'.length cc' xs'] := fun hend =>
    ⟨xs, b, cc, a2, l2, c2, bs2, bad3, rfl, nx1.trans nx2, s1.bind (many_fin (by rw [hl1]; exact hb2.symm) s2 q1 hend), by omega, k⟩
  refine cond_split (fun hc => ?_) (fun hc => ?_)
  · have hgt : n - (xs.length : Int) > 0 := of_decide_eq_true hc
    refine VSome.mk ⟨_, k.rd (by rfl), ?_⟩
    cases hb4 : bad3
    · refine cond_true rfl ?_
      subst hb4
      have hb5 : bad2 = false := by
        rcases s2 with ⟨_, h⟩ | ⟨h, _⟩ | ⟨_, h, _⟩
        · cases h
        · exact h
        · cases h
      have hq := hb3 hb5
      obtain ⟨F', G, kF, kG, d, hF, back⟩ := k.frame2
      refine CallsH.mono (evP_step (hw.at k.ext hF) kF ((r1.nxt nx2).at k.ext hF)) ?_
      rintro _ h23 ⟨s, a3, l3, c3, bs3, bad4, rfl, nx3, s3, _, k2⟩
      have k := back k2
      clear back kF kG d hF
      refine ⟨_, _, _, _, _, rfl, _, _, _, _, _, rfl, k.vnew fun bb h29 k => ?_⟩
      have k := k.sel 4 [0, 2, 3, 1] rfl (by decide) (L' := [A.blk bb (evE.cells s).toArray evE.e, evE.own s, evE.L b xs.length cc xs, _]) (by rfl)
      refine El.app (E := evE) T24 k (by omega) fun b' cc' h' k => ⟨_, _, _, rfl, n.toNat - (xs.length + 1), by omega, xs ++ [evE.val s], a3, l3, c3, bs3, bad4, by simp, ?_, by simp, fun _ => by rw [List.length_append]; simp only [List.length_singleton]; omega, fun h => by (rw [hb5] at h; cases h), nx2.trans nx3, ?_, ?_⟩
      · rw [wrap_id (by omega) (by omega), List.length_append]; simp only [List.length_singleton]; omega
      · rw [List.length_append]; exact s2.snoc s3
      · rw [List.length_append]; exact k.pull1
    · exact cond_false rfl (fin (.inl hb4))
  · have hle : ¬ n - (xs.length : Int) > 0 := of_decide_eq_false hc
    exact fin (.inr (by omega))
theorem rowP_step (k0 : Holds [RP t p a l c bad] F h) (r : RdP F h a l c bs) : CallsH Tryz.prog 56 #[.pointer (some ⟨p, 0, none⟩)] h
    (fun v h' => ∃ (s : Sr) (a1 : Option Addr) (l1 c1 : Nat) (bs1 : Bytes) (bad1 : Bool), v = .slice s.a s.vs.length s.c ∧ Nxt a l c bs a1 l1 c1 bs1 ∧ StepO (lisO valO) bs bad s.vs bs1 bad1 ∧ St F h h' [RP t p a1 l1 c1 bad1, valE.L s.a s.vs.length s.c s.vs]) := by
  refine vf56 _ h _ ?_
  unfold F56
  refine CallsH.mono (valsP_step k0 r) ?_
  rintro _ h2 ⟨xs, b, c2, a1, l1, c1, bs1, bad1, rfl, nx1, s1, _, k⟩
  exact ⟨_, _, _, rfl, ⟨b, c2, xs⟩, a1, l1, c1, bs1, bad1, rfl, nx1, s1, k⟩
theorem rowsP_step (k0 : Holds [RP t p a l c bad] F h) (r : RdP F h a l c bs) : CallsH Tryz.prog 55 #[.pointer (some ⟨p, 0, none⟩), .func (.func 56) #[.pointer (some ⟨p, 0, none⟩)] #[]] h
    (fun v h' => ∃ (xs : List (List Val)) (b : Option Addr) (cc : Nat) (a1 : Option Addr) (l1 c1 : Nat) (bs1 : Bytes) (bad1 : Bool), v = .slice b xs.length cc ∧ Nxt a l c bs a1 l1 c1 bs1 ∧ StepO (lisO (lisO valO)) bs bad xs bs1 bad1 ∧ xs.length ≤ l ∧ St F h h' [RP t p a1 l1 c1 bad1, rowE.L b xs.length cc xs]) := by
  refine vf55 _ _ h _ ?_
  unfold F55
  have k := St.start k0
  have hbig := r.big
  obtain ⟨F', G, kF, kG, d, hF, back⟩ := k.frameA
  refine CallsH.mono (numP_step kF (r.at k.ext hF)) ?_
  rintro _ h2 ⟨n, a1, l1, c1, bs1, bad1, rfl, nx1, s1, hn64, _, k2⟩
  have k := back k2
  clear back kF kG d hF
  have r1 := r.nxt nx1
  have hl1 := r1.len
  have hle1 := nx1.le
  refine ⟨_, rfl, fun h' => St F h h' [RP t p a1 l1 c1 (bad1 || decide (n < 0) || decide (n > (l1 : Int)))], ?_, ?_⟩
  · refine cond_split (fun hc => ?_) (fun hc => ?_)
    · refine VSome.mk (k.vst (Nat.le_of_ble_eq_true (by rfl)) fun _ k => ?_)
      rw [hc, Bool.or_true, Bool.true_or]; exact k
    · refine VSome.mk ⟨_, _, _, k.rd (by rfl), cond_split (fun hc2 => ?_) (fun hc2 => ?_)⟩
      · refine VSome.mk (k.vst (Nat.le_of_ble_eq_true (by rfl)) fun _ k => ?_)
        rw [hc2, Bool.or_true]; exact k
      · rw [hc, hc2, Bool.or_false, Bool.or_false]; exact k
  clear k
  rintro h11 _ k
  generalize hb2 : (bad1 || decide (n < 0) || decide (n > (l1 : Int))) = bad2 at k
  have hb3 : bad2 = false → 0 ≤ n ∧ n ≤ l1 := fun h => by
    rw [h] at hb2
    simp only [Bool.or_eq_false_iff, decide_eq_false_iff_not] at hb2
    omega
  refine ⟨fun m h' x b ll cc => ∃ (xs : List (List Val)) (a2 : Option Addr) (l2 c2 : Nat) (bs2 : Bytes) (bad3 : Bool), ll = xs.length ∧ x = n - (xs.length : Int) ∧ m = n.toNat - xs.length ∧ (bad2 = false → xs.length ≤ n.toNat) ∧ (bad2 = true → xs = []) ∧ Nxt a1 l1 c1 bs1 a2 l2 c2 bs2 ∧ StepO (repO (lisO valO) xs.length) bs1 bad2 xs bs2 bad3 ∧
      St F h h' [RP t p a2 l2 c2 bad3, rowE.L b xs.length cc xs], ⟨_, [], a1, l1, c1, bs1, bad2, rfl, by simp, rfl, fun _ => Nat.zero_le _, fun _ => rfl, .refl, .ret _, (El.nil rowE k).pull1⟩, ?_⟩
  clear k
  rintro m h15 _ x b ll cc ⟨xs, a2, l2, c2, bs2, bad3, rfl, rfl, rfl, q1, q2, nx2, s2, k⟩
  have hxl : xs.length ≤ l1 := by
    cases hb4 : bad2
    · have := q1 hb4; have := hb3 hb4; omega
    · rw [q2 hb4]; exact Nat.zero_le _
  have fin : (bad3 = true ∨ n ≤ xs.length) → ∃ (xs' : List (List Val)) (b' : Option Addr) (cc' : Nat) (a1 : Option Addr) (l1 c1 : Nat) (bs1 : Bytes) (bad1 : Bool), (Value.slice b xs.length cc) = .slice b' xs'.length cc' ∧ Nxt a l c bs a1 l1 c1 bs1 ∧ StepO (lisO (lisO valO)) bs bad xs' bs1 bad1 ∧ xs'.length ≤ l ∧ St F h h15 [RP t p a1 l1 c1 bad1, rowE.L b' xs'.length cc' xs'] := fun hend =>
    ⟨xs, b, cc, a2, l2, c2, bs2, bad3, rfl, nx1.trans nx2, s1.bind (many_fin (by rw [hl1]; exact hb2.symm) s2 q1 hend), by omega, k⟩
  refine cond_split (fun hc => ?_) (fun hc => ?_)
  · have hgt : n - (xs.length : Int) > 0 := of_decide_eq_true hc
    refine VSome.mk ⟨_, k.rd (by rfl), ?_⟩
    cases hb4 : bad3
    · refine cond_true rfl ?_
      subst hb4
      have hb5 : bad2 = false := by
        rcases s2 with ⟨_, h⟩ | ⟨h, _⟩ | ⟨_, h, _⟩
        · cases h
        · exact h
        · cases h
      have hq := hb3 hb5
      obtain ⟨F', G, kF, kG, d, hF, back⟩ := k.frame2
      refine CallsH.mono (rowP_step kF ((r1.nxt nx2).at k.ext hF)) ?_
      rintro _ h23 ⟨s, a3, l3, c3, bs3, bad4, rfl, nx3, s3, k2⟩
      have k := back k2
      clear back kF kG d hF
      refine ⟨_, _, _, rfl, _, _, _, rfl, k.vnew fun bb h29 k => ?_⟩
      have k := k.sel 4 [0, 2, 3, 1] rfl (by decide) (L' := [A.blk bb (rowE.cells s).toArray rowE.e, rowE.own s, rowE.L b xs.length cc xs, _]) (by rfl)
      refine El.app (E := rowE) TR30 k (by omega) fun b' cc' h' k => ⟨_, _, _, rfl, n.toNat - (xs.length + 1), by omega, xs ++ [rowE.val s], a3, l3, c3, bs3, bad4, by simp, ?_, by simp, fun _ => by rw [List.length_append]; simp only [List.length_singleton]; omega, fun h => by (rw [hb5] at h; cases h), nx2.trans nx3, ?_, ?_⟩
      · rw [wrap_id (by omega) (by omega), List.length_append]; simp only [List.length_singleton]; omega
      · rw [List.length_append]; exact s2.snoc s3
      · rw [List.length_append]; exact k.pull1
    · exact cond_false rfl (fin (.inl hb4))
  · have hle : ¬ n - (xs.length : Int) > 0 := of_decide_eq_false hc
    exact fin (.inr (by omega))
theorem hitP_step (k0 : Holds [RP t p a l c bad] F h) (r : RdP F h a l c bs) : CallsH Tryz.prog 52 #[.pointer (some ⟨p, 0, none⟩)] h
    (fun v h' => ∃ (s : Sx) (a1 : Option Addr) (l1 c1 : Nat) (bs1 : Bytes) (bad1 : Bool), v = .agg #[.string (bA s.x.q), .slice s.a s.x.row.length s.c] ∧ Nxt a l c bs a1 l1 c1 bs1 ∧ StepO hitO bs bad s.x bs1 bad1 ∧ St F h h' [RP t p a1 l1 c1 bad1, valE.L s.a s.x.row.length s.c s.x.row]) := by
  refine vf52 _ h _ ?_
  unfold F52
  have k := St.start k0
  refine k.vnew fun b1 h2 k => ?_
  obtain ⟨F', G, kF, kG, d, hF, back⟩ := k.pull1.frameA
  refine CallsH.mono (texP_step kF (r.at k.ext hF)) ?_
  rintro _ h4 ⟨q, a1, l1, c1, bs1, bad1, rfl, nx1, s1, k2⟩
  have k := back k2
  clear back kF kG d hF
  refine ⟨_, rfl, ?_⟩
  obtain ⟨F', G, kF, kG, d, hF, back⟩ := k.frame2
  refine CallsH.mono (rowP_step kF ((r.nxt nx1).at k.ext hF)) ?_
  rintro _ h7 ⟨s, a2, l2, c2, bs2, bad2, rfl, nx2, s2, k2⟩
  have k := back k2
  refine ⟨_, _, _, rfl, k.vall (by rfl) (by rfl) fun h9 k => ⟨_, k.rd (by rfl), _, _, _, k.rd (by rfl), ⟨s.a, s.c, ⟨q, s.vs⟩⟩, a2, l2, c2, bs2, bad2, rfl, nx1.trans nx2, s1.bind (s2.bind (.ret _)), k.only2⟩⟩
theorem hitsP_step (k0 : Holds [RP t p a l c bad] F h) (r : RdP F h a l c bs) : CallsH Tryz.prog 51 #[.pointer (some ⟨p, 0, none⟩), .func (.func 52) #[.pointer (some ⟨p, 0, none⟩)] #[]] h
    (fun v h' => ∃ (xs : List (Hi)) (b : Option Addr) (cc : Nat) (a1 : Option Addr) (l1 c1 : Nat) (bs1 : Bytes) (bad1 : Bool), v = .slice b xs.length cc ∧ Nxt a l c bs a1 l1 c1 bs1 ∧ StepO (lisO (hitO)) bs bad xs bs1 bad1 ∧ xs.length ≤ l ∧ St F h h' [RP t p a1 l1 c1 bad1, hitE.L b xs.length cc xs]) := by
  refine vf51 _ _ h _ ?_
  unfold F51
  have k := St.start k0
  have hbig := r.big
  obtain ⟨F', G, kF, kG, d, hF, back⟩ := k.frameA
  refine CallsH.mono (numP_step kF (r.at k.ext hF)) ?_
  rintro _ h2 ⟨n, a1, l1, c1, bs1, bad1, rfl, nx1, s1, hn64, _, k2⟩
  have k := back k2
  clear back kF kG d hF
  have r1 := r.nxt nx1
  have hl1 := r1.len
  have hle1 := nx1.le
  refine ⟨_, rfl, fun h' => St F h h' [RP t p a1 l1 c1 (bad1 || decide (n < 0) || decide (n > (l1 : Int)))], ?_, ?_⟩
  · refine cond_split (fun hc => ?_) (fun hc => ?_)
    · refine VSome.mk (k.vst (Nat.le_of_ble_eq_true (by rfl)) fun _ k => ?_)
      rw [hc, Bool.or_true, Bool.true_or]; exact k
    · refine VSome.mk ⟨_, _, _, k.rd (by rfl), cond_split (fun hc2 => ?_) (fun hc2 => ?_)⟩
      · refine VSome.mk (k.vst (Nat.le_of_ble_eq_true (by rfl)) fun _ k => ?_)
        rw [hc2, Bool.or_true]; exact k
      · rw [hc, hc2, Bool.or_false, Bool.or_false]; exact k
  clear k
  rintro h11 _ k
  generalize hb2 : (bad1 || decide (n < 0) || decide (n > (l1 : Int))) = bad2 at k
  have hb3 : bad2 = false → 0 ≤ n ∧ n ≤ l1 := fun h => by
    rw [h] at hb2
    simp only [Bool.or_eq_false_iff, decide_eq_false_iff_not] at hb2
    omega
  refine ⟨fun m h' x b ll cc => ∃ (xs : List (Hi)) (a2 : Option Addr) (l2 c2 : Nat) (bs2 : Bytes) (bad3 : Bool), ll = xs.length ∧ x = n - (xs.length : Int) ∧ m = n.toNat - xs.length ∧ (bad2 = false → xs.length ≤ n.toNat) ∧ (bad2 = true → xs = []) ∧ Nxt a1 l1 c1 bs1 a2 l2 c2 bs2 ∧ StepO (repO (hitO) xs.length) bs1 bad2 xs bs2 bad3 ∧
      St F h h' [RP t p a2 l2 c2 bad3, hitE.L b xs.length cc xs], ⟨_, [], a1, l1, c1, bs1, bad2, rfl, by simp, rfl, fun _ => Nat.zero_le _, fun _ => rfl, .refl, .ret _, (El.nil hitE k).pull1⟩, ?_⟩
  clear k
  rintro m h15 _ x b ll cc ⟨xs, a2, l2, c2, bs2, bad3, rfl, rfl, rfl, q1, q2, nx2, s2, k⟩
  have hxl : xs.length ≤ l1 := by
    cases hb4 : bad2
    · have := q1 hb4; have := hb3 hb4; omega
    · rw [q2 hb4]; exact Nat.zero_le _
  have fin : (bad3 = true ∨ n ≤ xs.length) → ∃ (xs' : List (Hi)) (b' : Option Addr) (cc' : Nat) (a1 : Option Addr) (l1 c1 : Nat) (bs1 : Bytes) (bad1 : Bool), (Value.slice b xs.length cc) = .slice b' xs'.length cc' ∧ Nxt a l c bs a1 l1 c1 bs1 ∧ StepO (lisO (hitO)) bs bad xs' bs1 bad1 ∧ xs'.length ≤ l ∧ St F h h15 [RP t p a1 l1 c1 bad1, hitE.L b' xs'.length cc' xs'] := fun hend =>
    ⟨xs, b, cc, a2, l2, c2, bs2, bad3, rfl, nx1.trans nx2, s1.bind (many_fin (by rw [hl1]; exact hb2.symm) s2 q1 hend), by omega, k⟩
  refine cond_split (fun hc => ?_) (fun hc => ?_)
  · have hgt : n - (xs.length : Int) > 0 := of_decide_eq_true hc
    refine VSome.mk ⟨_, k.rd (by rfl), ?_⟩
    cases hb4 : bad3
    · refine cond_true rfl ?_
      subst hb4
      have hb5 : bad2 = false := by
        rcases s2 with ⟨_, h⟩ | ⟨h, _⟩ | ⟨_, h, _⟩
        · cases h
        · exact h
        · cases h
      have hq := hb3 hb5
      obtain ⟨F', G, kF, kG, d, hF, back⟩ := k.frame2
      refine CallsH.mono (hitP_step kF ((r1.nxt nx2).at k.ext hF)) ?_
      rintro _ h23 ⟨s, a3, l3, c3, bs3, bad4, rfl, nx3, s3, k2⟩
      have k := back k2
      clear back kF kG d hF
      refine ⟨_, _, _, _, rfl, _, _, _, _, rfl, k.vnew fun bb h29 k => ?_⟩
      have k := k.sel 4 [0, 2, 3, 1] rfl (by decide) (L' := [A.blk bb (hitE.cells s).toArray hitE.e, hitE.own s, hitE.L b xs.length cc xs, _]) (by rfl)
      refine El.app (E := hitE) T29 k (by omega) fun b' cc' h' k => ⟨_, _, _, rfl, n.toNat - (xs.length + 1), by omega, xs ++ [hitE.val s], a3, l3, c3, bs3, bad4, by simp, ?_, by simp, fun _ => by rw [List.length_append]; simp only [List.length_singleton]; omega, fun h => by (rw [hb5] at h; cases h), nx2.trans nx3, ?_, ?_⟩
      · rw [wrap_id (by omega) (by omega), List.length_append]; simp only [List.length_singleton]; omega
      · rw [List.length_append]; exact s2.snoc s3
      · rw [List.length_append]; exact k.pull1
    · exact cond_false rfl (fin (.inl hb4))
  · have hle : ¬ n - (xs.length : Int) > 0 := of_decide_eq_false hc
    exact fin (.inr (by omega))
theorem errP_step {tq q : Nat} (k0 : Holds [RP t p a l c bad, A.blk q #[.pointer (some ⟨p, 0, none⟩)] tq] F h) (r : RdP F h a l c bs) : CallsH Tryz.prog 50 #[.pointer (some ⟨q, 0, none⟩)] h
    (fun v h' => ∃ (x : Int) (a1 : Option Addr) (l1 c1 : Nat) (bs1 : Bytes) (bad1 : Bool), v = .int .i64 x ∧ Nxt a l c bs a1 l1 c1 bs1 ∧ StepO numO bs bad x bs1 bad1 ∧ St F h h' [RP t p a1 l1 c1 bad1, A.blk q #[.pointer (some ⟨p, 0, none⟩)] tq]) := by
  refine vf50 _ h _ ?_
  unfold F50
  have k := St.start k0
  refine VSome.mk ⟨_, k.rd (by rfl), ?_⟩
  obtain ⟨F', G, kF, kG, d, hF, back⟩ := k.frameA
  refine CallsH.mono (numP_step kF (r.at k.ext hF)) ?_
  rintro _ h4 ⟨x, a1, l1, c1, bs1, bad1, rfl, nx1, s1, _, _, k2⟩
  exact ⟨_, rfl, x, a1, l1, c1, bs1, bad1, rfl, nx1, s1, back k2⟩
theorem errsP_step {tq q : Nat} (k0 : Holds [RP t p a l c bad, A.blk q #[.pointer (some ⟨p, 0, none⟩)] tq] F h) (r : RdP F h a l c bs) : CallsH Tryz.prog 49 #[.pointer (some ⟨p, 0, none⟩), .func (.func 50) #[] #[.pointer (some ⟨q, 0, none⟩)]] h
    (fun v h' => ∃ (xs : List (Int)) (b : Option Addr) (cc : Nat) (a1 : Option Addr) (l1 c1 : Nat) (bs1 : Bytes) (bad1 : Bool), v = .slice b xs.length cc ∧ Nxt a l c bs a1 l1 c1 bs1 ∧ StepO (lisO (numO)) bs bad xs bs1 bad1 ∧ xs.length ≤ l ∧ St F h h' [RP t p a1 l1 c1 bad1, A.blk q #[.pointer (some ⟨p, 0, none⟩)] tq, errE.L b xs.length cc xs]) := by
  refine vf49 _ _ h _ ?_
  unfold F49
  have k := St.start k0
  have hbig := r.big
  obtain ⟨F', G, kF, kG, d, hF, back⟩ := k.frameA
  refine CallsH.mono (numP_step kF (r.at k.ext hF)) ?_
  rintro _ h2 ⟨n, a1, l1, c1, bs1, bad1, rfl, nx1, s1, hn64, _, k2⟩
  have k := back k2
  clear back kF kG d hF
  have r1 := r.nxt nx1
  have hl1 := r1.len
  have hle1 := nx1.le
  refine ⟨_, rfl, fun h' => St F h h' [RP t p a1 l1 c1 (bad1 || decide (n < 0) || decide (n > (l1 : Int))), A.blk q #[.pointer (some ⟨p, 0, none⟩)] tq], ?_, ?_⟩
  · refine cond_split (fun hc => ?_) (fun hc => ?_)
    · refine VSome.mk (k.vst (Nat.le_of_ble_eq_true (by rfl)) fun _ k => ?_)
      rw [hc, Bool.or_true, Bool.true_or]; exact k
    · refine VSome.mk ⟨_, _, _, k.rd (by rfl), cond_split (fun hc2 => ?_) (fun hc2 => ?_)⟩
      · refine VSome.mk (k.vst (Nat.le_of_ble_eq_true (by rfl)) fun _ k => ?_)
        rw [hc2, Bool.or_true]; exact k
      · rw [hc, hc2, Bool.or_false, Bool.or_false]; exact k
  clear k
  rintro h11 _ k
  generalize hb2 : (bad1 || decide (n < 0) || decide (n > (l1 : Int))) = bad2 at k
  have hb3 : bad2 = false → 0 ≤ n ∧ n ≤ l1 := fun h => by
    rw [h] at hb2
    simp only [Bool.or_eq_false_iff, decide_eq_false_iff_not] at hb2
    omega
  refine ⟨fun m h' x b ll cc => ∃ (xs : List (Int)) (a2 : Option Addr) (l2 c2 : Nat) (bs2 : Bytes) (bad3 : Bool), ll = xs.length ∧ x = n - (xs.length : Int) ∧ m = n.toNat - xs.length ∧ (bad2 = false → xs.length ≤ n.toNat) ∧ (bad2 = true → xs = []) ∧ Nxt a1 l1 c1 bs1 a2 l2 c2 bs2 ∧ StepO (repO (numO) xs.length) bs1 bad2 xs bs2 bad3 ∧
      St F h h' [RP t p a2 l2 c2 bad3, A.blk q #[.pointer (some ⟨p, 0, none⟩)] tq, errE.L b xs.length cc xs], ⟨_, [], a1, l1, c1, bs1, bad2, rfl, by simp, rfl, fun _ => Nat.zero_le _, fun _ => rfl, .refl, .ret _, (El.nil errE k).pull2.pull2⟩, ?_⟩
  clear k
  rintro m h15 _ x b ll cc ⟨xs, a2, l2, c2, bs2, bad3, rfl, rfl, rfl, q1, q2, nx2, s2, k⟩
  have hxl : xs.length ≤ l1 := by
    cases hb4 : bad2
    · have := q1 hb4; have := hb3 hb4; omega
    · rw [q2 hb4]; exact Nat.zero_le _
  have fin : (bad3 = true ∨ n ≤ xs.length) → ∃ (xs' : List (Int)) (b' : Option Addr) (cc' : Nat) (a1 : Option Addr) (l1 c1 : Nat) (bs1 : Bytes) (bad1 : Bool), (Value.slice b xs.length cc) = .slice b' xs'.length cc' ∧ Nxt a l c bs a1 l1 c1 bs1 ∧ StepO (lisO (numO)) bs bad xs' bs1 bad1 ∧ xs'.length ≤ l ∧ St F h h15 [RP t p a1 l1 c1 bad1, A.blk q #[.pointer (some ⟨p, 0, none⟩)] tq, errE.L b' xs'.length cc' xs'] := fun hend =>
    ⟨xs, b, cc, a2, l2, c2, bs2, bad3, rfl, nx1.trans nx2, s1.bind (many_fin (by rw [hl1]; exact hb2.symm) s2 q1 hend), by omega, k⟩
  refine cond_split (fun hc => ?_) (fun hc => ?_)
  · have hgt : n - (xs.length : Int) > 0 := of_decide_eq_true hc
    refine VSome.mk ⟨_, k.rd (by rfl), ?_⟩
    cases hb4 : bad3
    · refine cond_true rfl ?_
      subst hb4
      have hb5 : bad2 = false := by
        rcases s2 with ⟨_, h⟩ | ⟨h, _⟩ | ⟨_, h, _⟩
        · cases h
        · exact h
        · cases h
      have hq := hb3 hb5
      obtain ⟨F', G, kF, kG, d, hF, back⟩ := k.frameB
      refine CallsH.mono (errP_step kF ((r1.nxt nx2).at k.ext hF)) ?_
      rintro _ h23 ⟨s, a3, l3, c3, bs3, bad4, rfl, nx3, s3, k2⟩
      have k := back k2
      clear back kF kG d hF
      refine ⟨_, rfl, _, rfl, k.vnew fun bb h29 k => ?_⟩
      have k := (k.all0).sel 5 [1, 0, 4, 2, 3] rfl (by decide) (L' := [A.blk bb (errE.cells s).toArray errE.e, errE.own s, errE.L b xs.length cc xs, _, _]) (by rfl)
      refine El.app (E := errE) T28 k (by omega) fun b' cc' h' k => ⟨_, _, _, rfl, n.toNat - (xs.length + 1), by omega, xs ++ [errE.val s], a3, l3, c3, bs3, bad4, by simp, ?_, by simp, fun _ => by rw [List.length_append]; simp only [List.length_singleton]; omega, fun h => by (rw [hb5] at h; cases h), nx2.trans nx3, ?_, ?_⟩
      · rw [wrap_id (by omega) (by omega), List.length_append]; simp only [List.length_singleton]; omega
      · rw [List.length_append]; exact s2.snoc s3
      · rw [List.length_append]; exact k.pull2.pull2
    · exact cond_false rfl (fin (.inl hb4))
  · have hle : ¬ n - (xs.length : Int) > 0 := of_decide_eq_false hc
    exact fin (.inr (by omega))
end Go.Proofs.YtgdgebmlcgohhaaGreatDoor.F
/-! ## Package proto: the program's writer: bytes, numbers, texts, truths, events, values. -/
namespace Go.Proofs.YtgdgebmlcgohhaaGreatDoor.F
open Go Go.VC Go.Proofs
set_option linter.unusedSimpArgs false
set_option linter.unusedVariables false
set_option maxRecDepth 100000
attribute [local irreducible] CallsH RunsTo PureTo

def orE (e1 e2 : Int) : Int := if e1 = 0 then e2 else e1
theorem orE_zero (e : Int) : orE e 0 = e := by unfold orE; split <;> simp_all
theorem zero_orE (e : Int) : orE 0 e = e := if_pos rfl
theorem orE_assoc (a b c : Int) : orE (orE a b) c = orE a (orE b c) := by
  unfold orE
  by_cases h : a = 0
  · simp [h]
  · simp [h]
def firstE {α : Type} (f : α → Int) : List α → Int
  | [] => 0
  | x :: r => orE (f x) (firstE f r)
theorem firstE_next {α : Type} {f : α → Int} {xs : List α} : ∀ {j : Nat} {x : α}, xs[j]? = some x → firstE f (xs.take (j + 1)) = orE (firstE f (xs.take j)) (f x) := by
  induction xs with
  | nil => intro j x h; simp at h
  | cons y xs ih =>
    intro j x h
    cases j with
    | zero =>
      simp at h; subst h
      simp only [Nat.zero_add, List.take_succ_cons, List.take_zero, firstE, orE_zero, zero_orE]
    | succ j =>
      simp only [List.take_succ_cons, firstE]
      rw [ih (by simpa using h), orE_assoc]
theorem flat_take_le {α β : Type} {f : α → List β} {xs : List α} : ∀ {j : Nat} {x : α}, xs[j]? = some x → ((xs.take j).flatMap f).length + (f x).length ≤ (xs.flatMap f).length := by
  induction xs with
  | nil => intro j x h; simp at h
  | cons y xs ih =>
    intro j x h
    cases j with
    | zero =>
      simp at h; subst h
      simp [List.flatMap_cons, List.length_append]
    | succ j =>
      have := ih (j := j) (x := x) (by simpa using h)
      rw [List.take_succ_cons, List.flatMap_cons, List.flatMap_cons, List.length_append, List.length_append]
      omega
variable {S F G : Nat → Prop} {h0 h h1 : Heap} {L R L' : List A} {a b a1 a2 : Option Addr} {l c l1 c1 l2 c2 p t : Nat} {bs cs bs1 bs2 : List UInt8} {err e1 : Int} {v : Val}
/-- The writer in memory: its bytes, its first fault. -/
def WB (p : Nat) (bs : Bytes) (err : Int) : A := A.ex fun x : Option Addr × Nat => A.all [A.blk p #[.slice x.1 bs.length x.2, .int .i64 err] 136, BV x.1 bs.length x.2 bs]
theorem WB.open (k : St S h0 h (WB p bs err :: R)) : ∃ a c, St S h0 h (A.blk p #[.slice a bs.length c, .int .i64 err] 136 :: BV a bs.length c bs :: R) := by
  obtain ⟨x, k⟩ := St.opens k
  exact ⟨x.1, x.2, St.open (L := [A.blk p #[.slice x.1 bs.length x.2, .int .i64 err] 136, BV x.1 bs.length x.2 bs]) k⟩
theorem WB.close (k : St S h0 h (A.blk p #[.slice a bs.length c, .int .i64 err] 136 :: BV a bs.length c bs :: R)) : St S h0 h (WB p bs err :: R) :=
  St.closes (f := fun x : Option Addr × Nat => A.all [A.blk p #[.slice x.1 bs.length x.2, .int .i64 err] 136, BV x.1 bs.length x.2 bs]) (x := (a, c)) (St.close (L := [A.blk p #[.slice a bs.length c, .int .i64 err] 136, BV a bs.length c bs]) k)
theorem failW_step (k0 : Holds [WB p bs err] F h) (e : Int) : CallsH Tryz.prog 129 #[.pointer (some ⟨p, 0, none⟩), .int .i64 e] h (fun v h' => v = .tuple #[] ∧ St F h h' [WB p bs (orE err e)]) := by
  refine vf129 _ _ h _ ?_
  unfold F129
  obtain ⟨a, c, k⟩ := WB.open (St.start k0)
  refine VSome.mk ⟨_, k.rd (by rfl), cond_split (fun hc => ?_) (fun hc => ?_)⟩
  · have hc : err = 0 := by simpa using hc
    unfold orE
    rw [if_pos hc]
    exact VSome.mk (k.vst (Nat.le_of_ble_eq_true (by rfl)) fun _ k => ⟨rfl, WB.close k⟩)
  · have hc : err ≠ 0 := by simpa using hc
    unfold orE
    rw [if_neg hc]
    exact ⟨rfl, WB.close k⟩
theorem numW_step {n : Int} (k0 : Holds [WB p bs err] F h) (hn : rng64 n) (hb : bs.length + (putN n).length ≤ 140737488300000) : CallsH Tryz.prog 68 #[.pointer (some ⟨p, 0, none⟩), .int .i64 n] h (fun v h' => v = .tuple #[] ∧ St F h h' [WB p (bs ++ putN n) err]) := by
  refine vf68 _ _ h _ ?_
  unfold F68
  obtain ⟨a, c, k⟩ := WB.open (St.start k0)
  refine VSome.mk ⟨_, _, _, k.rd (by rfl), ?_⟩
  refine CallsH.mono (PutInt_spec hn.1 hn.2) ?_
  rintro _ h4 ⟨a5, c5, rfl, k2⟩
  have k := k.add1 k2
  refine ⟨_, _, _, rfl, k.rd (by rfl), ?_⟩
  refine app_bytes (s := putN n) k.pull2 (k.sl (a := a5)) (by omega) fun a8 c8 h7 k => ⟨_, _, _, rfl, VSome.mk (k.vst (Nat.le_of_ble_eq_true (by rfl)) fun h10 k => ⟨rfl, ?_⟩)⟩
  have k := k.pull2.only2
  have e : bs.length + (putN n).length = (bs ++ putN n).length := by rw [List.length_append]
  rw [e] at k
  exact WB.close k
theorem texW_step {s : Bytes} (k0 : Holds [WB p bs err] F h) (hb : bs.length + (putS s).length ≤ 140737488300000) : CallsH Tryz.prog 74 #[.pointer (some ⟨p, 0, none⟩), .string (bA s)] h (fun v h' => v = .tuple #[] ∧ St F h h' [WB p (bs ++ putS s) err]) := by
  refine vf74 _ _ h _ ?_
  unfold F74
  rw [putS_len] at hb
  rw [bA_size]
  refine CallsH.mono (numW_step k0 ⟨by omega, by omega⟩ (by omega)) ?_
  rintro _ h2 ⟨rfl, k⟩
  obtain ⟨a, c, k⟩ := WB.open k
  refine ⟨rfl, VSome.mk ⟨_, _, _, k.rd (by rfl), ?_⟩⟩
  refine app_text s k.pull1 (by rw [List.length_append]; omega) fun a8 c8 h7 k => ⟨_, _, _, rfl, VSome.mk (k.vst (Nat.le_of_ble_eq_true (by rfl)) fun h10 k => ⟨rfl, ?_⟩)⟩
  have k := k.pull1
  have e : (bs ++ putN s.length).length + s.length = (bs ++ putS s).length := by unfold putS; simp only [List.length_append]; omega
  have e2 : bs ++ putN s.length ++ s = bs ++ putS s := by unfold putS; rw [List.append_assoc]
  rw [e, e2] at k
  exact WB.close k
theorem truW_step {x : Bool} (k0 : Holds [WB p bs err] F h) (hb : bs.length + 1 ≤ 140737488300000) : CallsH Tryz.prog 67 #[.pointer (some ⟨p, 0, none⟩), .bool x] h (fun v h' => v = .tuple #[] ∧ St F h h' [WB p (bs ++ truB x) err]) := by
  refine vf67 _ _ h _ ?_
  unfold F67
  obtain ⟨a, c, k⟩ := WB.open (St.start k0)
  have e : ∀ y : UInt8, bs.length + 1 = (bs ++ [y]).length := fun y => by simp
  cases x
  · refine cond_false rfl (VSome.mk ⟨_, _, _, k.rd (by rfl), k.vnew fun b12 h13 k => ?_⟩)
    refine app_byte (x := 0) (k.pull2.pull1) (by omega) fun a16 c16 h15 k => ⟨_, _, _, rfl, VSome.mk (k.vst (Nat.le_of_ble_eq_true (by rfl)) fun h10 k => ⟨rfl, ?_⟩)⟩
    have k := k.pull1
    rw [e 0] at k
    exact WB.close k
  · refine cond_true rfl (VSome.mk ⟨_, _, _, k.rd (by rfl), k.vnew fun b12 h13 k => ?_⟩)
    refine app_byte (x := 1) (k.pull2.pull1) (by omega) fun a16 c16 h15 k => ⟨_, _, _, rfl, VSome.mk (k.vst (Nat.le_of_ble_eq_true (by rfl)) fun h10 k => ⟨rfl, ?_⟩)⟩
    have k := k.pull1
    rw [e 1] at k
    exact WB.close k
theorem evW_step {e : Ev} {lc : Nat} (hw : Wd F h) (k0 : Holds [WB p bs err] F h) (he : Ro F h a (e.vs.flatMap valV)) (hr : rngE e) (hl : e.vs.length ≤ 1099511627776) (hb : bs.length + (encF e).length ≤ 140737488300000) :
    CallsH Tryz.prog 111 #[.pointer (some ⟨p, 0, none⟩), aggE e a e.vs.length lc] h (fun v h' => v = .tuple #[] ∧ St F h h' [WB p (bs ++ encF e) (orE err (faultE e))]) := by
  refine vf111 _ _ _ _ _ _ h _ ?_
  unfold F111
  have k := St.start k0
  refine k.vnew fun b1 h2 k => ⟨_, k.rd (by rfl), _, k.rd (by rfl), _, _, _, k.rd (by rfl), ?_⟩
  refine CallsH.mono (encode_spec (e := e) (hw.at k.ext fun b hb => .inl hb).sl.ro ⟨(he.at k.ext fun b hb => .inl hb).sl.ro, rfl, hr⟩ hl) ?_
  rintro _ h7 ⟨a8, c8, rfl, k2⟩
  have k := k.add1 k2
  refine ⟨_, _, _, _, rfl, fun h' => St F h h' [WB p bs (orE err (faultE e)), BV a8 (encF e).length c8 (encF e)], ?_, ?_⟩
  · refine cond_split (fun hc => ?_) (fun hc => ?_)
    · obtain ⟨F', G, kF, kG, d, hF, back⟩ := k.pull2.frameA
      refine CallsH.mono (failW_step kF (faultE e)) ?_
      rintro _ h12 ⟨rfl, k2⟩
      exact ⟨rfl, (back k2).only2⟩
    · have hc : faultE e = 0 := by simpa using hc
      rw [hc, orE_zero]
      exact k.pull2.only2
  clear k
  rintro h13 _ k
  obtain ⟨a, c, k⟩ := WB.open k
  refine VSome.mk ⟨_, _, _, k.rd (by rfl), ?_⟩
  refine app_bytes (s := encF e) k.pull1 (k.sl (a := a8)) (by omega) fun a8 c8 h7 k => ⟨_, _, _, rfl, VSome.mk (k.vst (Nat.le_of_ble_eq_true (by rfl)) fun h10 k => ⟨rfl, ?_⟩)⟩
  have k := k.pull1.only2
  have e : bs.length + (encF e).length = (bs ++ encF e).length := by rw [List.length_append]
  rw [e] at k
  exact WB.close k
def faultV (v : Val) : Int := if validV v then 0 else 12
theorem valW_step (k0 : Holds [WB p bs err] F h) (hr : rngV v) (hb : bs.length + (encW v).length ≤ 140737488300000) :
    CallsH Tryz.prog 120 #[.pointer (some ⟨p, 0, none⟩), aggV v] h (fun w h' => w = .tuple #[] ∧ St F h h' [WB p (bs ++ encW v) (orE err (faultV v))]) := by
  refine vf120 _ _ _ _ _ h _ ?_
  unfold F120
  have k := St.start k0
  refine k.vnew fun b1 h2 k => ⟨fun h' => St F h h' [WB p bs (orE err (faultV v)), A.blk b1 (valV v).toArray 127], ⟨_, k.rd (by rfl), _, k.rd (by rfl), _, k.rd (by rfl), _, k.rd (by rfl), ?_⟩, ?_⟩
  · refine CallsH.mono (valid_spec v) ?_
    rintro _ h9 ⟨rfl, m⟩
    have k := k.next m
    refine ⟨_, rfl, ?_⟩
    unfold faultV
    cases validV v
    · refine cond_true rfl ?_
      obtain ⟨F', G, kF, kG, d, hF, back⟩ := k.pull1.frameA
      refine CallsH.mono (failW_step kF 12) ?_
      rintro _ h12 ⟨rfl, k2⟩
      exact ⟨rfl, back k2⟩
    · refine cond_false rfl ?_
      rw [if_pos rfl, orE_zero]
      exact k.pull1
  clear k
  rintro h13 _ k
  generalize orE err (faultV v) = err2 at k ⊢
  obtain ⟨a, c, k⟩ := WB.open k
  have eb : (.int .u8 (IntKind.u8.wrap v.k) : Value) = byteV (UInt8.ofNat (v.k % 256).toNat) := by
    rw [byteV_of, wrap_u8]; congr 1; omega
  refine VSome.mk ⟨_, _, _, k.rd (by rfl), _, k.rd (by rfl), ?_⟩
  rw [eb]
  refine k.vnew fun b18 h19 k => ⟨k.rd (by rfl), ?_⟩
  refine app_byte k.pull2.pull1 (by unfold encW at hb; rw [List.length_cons] at hb; omega) fun a22 c22 h21 k => ⟨_, _, _, rfl, VSome.mk (k.vst (Nat.le_of_ble_eq_true (by rfl)) fun h24 k => ?_)⟩
  generalize hB : UInt8.ofNat (v.k % 256).toNat = B at *
  have e : bs.length + 1 = (bs ++ [B]).length := by simp
  rw [e] at k
  have k := WB.close k.pull1
  have ee : bs ++ encW v = bs ++ [B] ++ (if v.k = 1 then putN v.n else if v.k = 2 then putS v.s else truB v.b) := by unfold encW; rw [hB, List.append_assoc]; rfl
  have hl : (bs ++ [B]).length + (if v.k = 1 then putN v.n else if v.k = 2 then putS v.s else truB v.b).length ≤ 140737488300000 := by
    have := congrArg List.length ee
    rw [List.length_append, List.length_append] at this
    omega
  rw [ee]
  refine ⟨_, k.rd (by rfl), cond_split (fun hc => ?_) (fun hc => ?_)⟩
  · have hc : v.k = 1 := by simpa using hc
    rw [if_pos hc] at hl ⊢
    refine ⟨_, k.rd (by rfl), ?_⟩
    obtain ⟨F', G, kF, kG, d, hF, back⟩ := k.frameA
    refine CallsH.mono (numW_step kF hr hl) ?_
    rintro _ h12 ⟨rfl, k2⟩
    exact ⟨rfl, rfl, (back k2).only⟩
  have h1 : v.k ≠ 1 := by simpa using hc
  rw [if_neg h1] at hl ⊢
  refine cond_split (fun hc => ?_) (fun hc => ?_)
  · have hc : v.k = 2 := by simpa using hc
    rw [if_pos hc] at hl ⊢
    refine ⟨_, k.rd (by rfl), ?_⟩
    obtain ⟨F', G, kF, kG, d, hF, back⟩ := k.frameA
    refine CallsH.mono (texW_step kF hl) ?_
    rintro _ h12 ⟨rfl, k2⟩
    exact ⟨rfl, rfl, (back k2).only⟩
  · have h2 : v.k ≠ 2 := by simpa using hc
    rw [if_neg h2] at hl ⊢
    refine ⟨_, k.rd (by rfl), ?_⟩
    obtain ⟨F', G, kF, kG, d, hF, back⟩ := k.frameA
    refine CallsH.mono (truW_step (x := v.b) kF hl) ?_
    rintro _ h12 ⟨rfl, k2⟩
    exact ⟨rfl, rfl, (back k2).only⟩
def doneR (bs : Bytes) (err : Int) : Bytes × Int := if err ≠ 0 then ([], err) else if 65528 < bs.length then ([], 2) else (bs, 0)
theorem doneW_spec (k0 : Holds [WB p bs err] F h) : CallsH Tryz.prog 66 #[.pointer (some ⟨p, 0, none⟩)] h (fun v h' => ∃ x c, v = .tuple #[.slice x (doneR bs err).1.length c, .int .i64 (doneR bs err).2] ∧ St F h h' [BV x (doneR bs err).1.length c (doneR bs err).1]) := by
  refine vf66 _ h _ ?_
  unfold F66
  obtain ⟨a, c, k⟩ := WB.open (St.start k0)
  refine VSome.mk ⟨_, k.rd (by rfl), cond_split (fun hc => ?_) (fun hc => ?_)⟩
  · have hc : err ≠ 0 := by simpa using hc
    have e : doneR bs err = ([], err) := if_pos hc
    rw [e]
    exact VSome.mk ⟨_, k.rd (by rfl), none, 0, rfl, (k.drop.drop.vnil 5 (sz := 1) (by omega))⟩
  · have hc : err = 0 := by simpa using hc
    have e0 : doneR bs err = if 65528 < bs.length then ([], 2) else (bs, 0) := if_neg fun h => h hc
    refine VSome.mk ⟨_, _, _, k.rd (by rfl), cond_split (fun hc => ?_) (fun hc => ?_)⟩
    · have hc : 65528 < bs.length := by
        have : (bs.length : Int) > 65528 := of_decide_eq_true hc
        omega
      rw [if_pos hc] at e0
      rw [e0]
      exact ⟨none, 0, rfl, (k.drop.drop.vnil 5 (sz := 1) (by omega))⟩
    · have hc : ¬ 65528 < bs.length := by
        have : ¬ (bs.length : Int) > 65528 := of_decide_eq_false hc
        omega
      rw [if_neg hc] at e0
      rw [e0]
      exact VSome.mk ⟨_, _, _, k.rd (by rfl), a, c, rfl, k.drop⟩
end Go.Proofs.YtgdgebmlcgohhaaGreatDoor.F
/-! ## Package proto: the program's writer: lists. Printed by qa.py. -/
namespace Go.Proofs.YtgdgebmlcgohhaaGreatDoor.F
open Go Go.VC Go.Proofs
set_option linter.unusedSimpArgs false
set_option linter.unusedVariables false
set_option maxRecDepth 100000
attribute [local irreducible] CallsH RunsTo PureTo

variable {S F G : Nat → Prop} {h0 h h1 : Heap} {L R L' : List A} {a b a1 a2 : Option Addr} {l c l1 c1 l2 c2 p t : Nat} {bs cs bs1 bs2 : List UInt8} {err e1 : Int} {v : Val}
theorem texsW_step {xs : List (Bytes)} (k0 : Holds [WB p bs err] F h) (r : RoX texE F h a l xs) (hok : ∀ x ∈ xs, True) (hb : bs.length + (putL putS xs).length ≤ 140737488300000) :
    CallsH Tryz.prog 73 #[.pointer (some ⟨p, 0, none⟩), .slice a l c, .func (.func 74) #[.pointer (some ⟨p, 0, none⟩)] #[]] h (fun v h' => v = .tuple #[] ∧ St F h h' [WB p (bs ++ putL putS xs) (orE err (firstE (fun _ => 0) xs))]) := by
  refine vf73 _ _ _ _ _ h _ ?_
  unfold F73
  have k := St.start k0
  have hl := r.len
  have hp : (putL putS xs).length = (putN xs.length).length + (xs.flatMap putS).length := by unfold putL; rw [List.length_append]
  have hf := flat_ge (p := putS) (P := fun _ => True) (fun y _ => putS_pos y) (xs := xs) fun _ _ => trivial
  obtain ⟨F', G, kF, kG, d, hF, back⟩ := k.frameA
  refine CallsH.mono (numW_step (n := (l : Int)) kF ⟨by omega, by omega⟩ (by rw [← hl]; omega)) ?_
  rintro _ h2 ⟨rfl, k2⟩
  have k := back k2
  clear back kF kG d hF
  refine ⟨rfl, fun m h' i => ∃ j : Nat, i = j ∧ j ≤ l ∧ m = l - j ∧ St F h h' [WB p (bs ++ putN l ++ (xs.take j).flatMap putS) (orE err (firstE (fun _ => 0) (xs.take j)))], ⟨_, 0, rfl, by omega, rfl, ?_⟩, ?_⟩
  · rw [List.take_zero, List.flatMap_nil, List.append_nil]
    show St F h h2 [WB p (bs ++ putN l) (orE err 0)]
    rw [orE_zero]; exact k
  clear k
  rintro m h5 _ i ⟨j, rfl, hj, rfl, k⟩
  refine cond_split (fun hc => ?_) (fun hc => ?_)
  · have hjl : j < l := Int.ofNat_lt.1 (of_decide_eq_true hc)
    refine r.one k.ext (by omega) (by omega) fun ad s hs hc hrd => ?_
    rw [Int.toNat_natCast] at hs
    have hsm := List.mem_of_getElem? hs
    have hle := flat_take_le (f := putS) hs
    have hbl : (bs ++ putN l ++ (xs.take j).flatMap putS).length + (putS (texE.val s)).length ≤ 140737488300000 := by
      rw [List.length_append, List.length_append]
      rw [hl] at hp; omega
    refine ⟨_, hc 0 _ rfl, ?_⟩
    obtain ⟨F', G, kF, kG, d, hF, back⟩ := k.frameA
    refine CallsH.mono (texW_step kF hbl) ?_
    rintro _ h22 ⟨rfl, k2⟩
    have k := back k2
    refine ⟨rfl, l - (j + 1), by omega, j + 1, wrap_nat hjl (by omega), hjl, rfl, ?_⟩
    rw [flat_next hs, firstE_next hs, ← orE_assoc, ← List.append_assoc]
    exact (by rw [orE_zero]; exact k)
  · have hjl : j = l := by
      have : ¬ (j : Int) < l := of_decide_eq_false hc
      omega
    subst hjl
    rw [List.take_of_length_le (by omega)] at k
    refine ⟨rfl, ?_⟩
    unfold putL
    rw [hl, ← List.append_assoc]
    exact k
theorem valsW_step {xs : List (Val)} (k0 : Holds [WB p bs err] F h) (r : RoX valE F h a l xs) (hok : ∀ x ∈ xs, rngV x) (hb : bs.length + (putL encW xs).length ≤ 140737488300000) :
    CallsH Tryz.prog 119 #[.pointer (some ⟨p, 0, none⟩), .slice a l c, .func (.func 120) #[.pointer (some ⟨p, 0, none⟩)] #[]] h (fun v h' => v = .tuple #[] ∧ St F h h' [WB p (bs ++ putL encW xs) (orE err (firstE (faultV) xs))]) := by
  refine vf119 _ _ _ _ _ h _ ?_
  unfold F119
  have k := St.start k0
  have hl := r.len
  have hp : (putL encW xs).length = (putN xs.length).length + (xs.flatMap encW).length := by unfold putL; rw [List.length_append]
  have hf := flat_ge (p := encW) (P := fun _ => True) (fun y _ => by unfold encW; rw [List.length_cons]; omega) (xs := xs) fun _ _ => trivial
  obtain ⟨F', G, kF, kG, d, hF, back⟩ := k.frameA
  refine CallsH.mono (numW_step (n := (l : Int)) kF ⟨by omega, by omega⟩ (by rw [← hl]; omega)) ?_
  rintro _ h2 ⟨rfl, k2⟩
  have k := back k2
  clear back kF kG d hF
  refine ⟨rfl, fun m h' i => ∃ j : Nat, i = j ∧ j ≤ l ∧ m = l - j ∧ St F h h' [WB p (bs ++ putN l ++ (xs.take j).flatMap encW) (orE err (firstE (faultV) (xs.take j)))], ⟨_, 0, rfl, by omega, rfl, ?_⟩, ?_⟩
  · rw [List.take_zero, List.flatMap_nil, List.append_nil]
    show St F h h2 [WB p (bs ++ putN l) (orE err 0)]
    rw [orE_zero]; exact k
  clear k
  rintro m h5 _ i ⟨j, rfl, hj, rfl, k⟩
  refine cond_split (fun hc => ?_) (fun hc => ?_)
  · have hjl : j < l := Int.ofNat_lt.1 (of_decide_eq_true hc)
    refine r.one k.ext (by omega) (by omega) fun ad s hs hc hrd => ?_
    rw [Int.toNat_natCast] at hs
    have hsm := List.mem_of_getElem? hs
    have hle := flat_take_le (f := encW) hs
    have hbl : (bs ++ putN l ++ (xs.take j).flatMap encW).length + (encW (valE.val s)).length ≤ 140737488300000 := by
      rw [List.length_append, List.length_append]
      rw [hl] at hp; omega
    refine ⟨_, hc 0 _ rfl, _, hc 1 _ rfl, _, hc 2 _ rfl, _, hc 3 _ rfl, k.vnew fun b14 h15 k => k.vall (by rfl) (by rfl) fun h16 k => ⟨_, k.rd (by rfl), _, k.rd (by rfl), _, k.rd (by rfl), _, k.rd (by rfl), ?_⟩⟩
    obtain ⟨F', G, kF, kG, d, hF, back⟩ := k.pull1.frameA
    refine CallsH.mono (valW_step (v := s) kF (hok _ hsm) hbl) ?_
    rintro _ h22 ⟨rfl, k2⟩
    have k := back k2
    refine ⟨rfl, l - (j + 1), by omega, j + 1, wrap_nat hjl (by omega), hjl, rfl, ?_⟩
    rw [flat_next hs, firstE_next hs, ← orE_assoc, ← List.append_assoc]
    exact k.only
  · have hjl : j = l := by
      have : ¬ (j : Int) < l := of_decide_eq_false hc
      omega
    subst hjl
    rw [List.take_of_length_le (by omega)] at k
    refine ⟨rfl, ?_⟩
    unfold putL
    rw [hl, ← List.append_assoc]
    exact k
theorem evsW_step {xs : List (Ev)} (hw : Wd F h) (hlb : l ≤ 1099511627776) (k0 : Holds [WB p bs err] F h) (r : RoX evE F h a l xs) (hok : ∀ x ∈ xs, rngE x ∧ x.vs.length ≤ 1099511627776) (hb : bs.length + (putL encF xs).length ≤ 140737488300000) :
    CallsH Tryz.prog 110 #[.pointer (some ⟨p, 0, none⟩), .slice a l c, .func (.func 111) #[.pointer (some ⟨p, 0, none⟩)] #[]] h (fun v h' => v = .tuple #[] ∧ St F h h' [WB p (bs ++ putL encF xs) (orE err (firstE (faultE) xs))]) := by
  refine vf110 _ _ _ _ _ h _ ?_
  unfold F110
  have k := St.start k0
  have hl := r.len
  have hp : (putL encF xs).length = (putN xs.length).length + (xs.flatMap encF).length := by unfold putL; rw [List.length_append]
  obtain ⟨F', G, kF, kG, d, hF, back⟩ := k.frameA
  refine CallsH.mono (numW_step (n := (l : Int)) kF ⟨by omega, by omega⟩ (by rw [← hl]; omega)) ?_
  rintro _ h2 ⟨rfl, k2⟩
  have k := back k2
  clear back kF kG d hF
  refine ⟨rfl, fun m h' i => ∃ j : Nat, i = j ∧ j ≤ l ∧ m = l - j ∧ St F h h' [WB p (bs ++ putN l ++ (xs.take j).flatMap encF) (orE err (firstE (faultE) (xs.take j)))], ⟨_, 0, rfl, by omega, rfl, ?_⟩, ?_⟩
  · rw [List.take_zero, List.flatMap_nil, List.append_nil]
    show St F h h2 [WB p (bs ++ putN l) (orE err 0)]
    rw [orE_zero]; exact k
  clear k
  rintro m h5 _ i ⟨j, rfl, hj, rfl, k⟩
  refine cond_split (fun hc => ?_) (fun hc => ?_)
  · have hjl : j < l := Int.ofNat_lt.1 (of_decide_eq_true hc)
    refine r.one k.ext (by omega) (by omega) fun ad s hs hc hrd => ?_
    rw [Int.toNat_natCast] at hs
    have hsm := List.mem_of_getElem? hs
    have hle := flat_take_le (f := encF) hs
    have hbl : (bs ++ putN l ++ (xs.take j).flatMap encF).length + (encF (evE.val s)).length ≤ 140737488300000 := by
      rw [List.length_append, List.length_append]
      rw [hl] at hp; omega
    refine ⟨_, hc 0 _ rfl, _, hc 1 _ rfl, _, _, _, hc 2 _ rfl, k.vnew fun b14 h15 k => k.vall (by rfl) (by rfl) fun h16 k => ⟨_, k.rd (by rfl), _, k.rd (by rfl), _, _, _, k.rd (by rfl), ?_⟩⟩
    obtain ⟨F', G, kF, kG, d, hF, back⟩ := k.pull1.frameA
    refine CallsH.mono (evW_step (e := s.e) (hw.at k.ext hF) kF (hrd.at k.ext hF) (hok _ hsm).1 (hok _ hsm).2 hbl) ?_
    rintro _ h22 ⟨rfl, k2⟩
    have k := back k2
    refine ⟨rfl, l - (j + 1), by omega, j + 1, wrap_nat hjl (by omega), hjl, rfl, ?_⟩
    rw [flat_next hs, firstE_next hs, ← orE_assoc, ← List.append_assoc]
    exact k.only
  · have hjl : j = l := by
      have : ¬ (j : Int) < l := of_decide_eq_false hc
      omega
    subst hjl
    rw [List.take_of_length_le (by omega)] at k
    refine ⟨rfl, ?_⟩
    unfold putL
    rw [hl, ← List.append_assoc]
    exact k
theorem rowW_step {xs : List Val} (k0 : Holds [WB p bs err] F h) (r : Ro F h a (xs.flatMap valV)) (hok : ∀ v ∈ xs, rngV v) (hb : bs.length + (putL encW xs).length ≤ 140737488300000) :
    CallsH Tryz.prog 76 #[.pointer (some ⟨p, 0, none⟩), .slice a xs.length c] h (fun v h' => v = .tuple #[] ∧ St F h h' [WB p (bs ++ putL encW xs) (orE err (firstE faultV xs))]) := by
  refine vf76 _ _ _ _ h _ ?_
  unfold F76
  refine CallsH.mono (valsW_step k0 ⟨xs, r, fun _ _ => trivial, by simp, rfl⟩ hok hb) ?_
  rintro _ h2 ⟨rfl, k⟩
  exact ⟨rfl, rfl, k⟩
theorem rowsW_step {xs : List (List Val)} (k0 : Holds [WB p bs err] F h) (r : RoX rowE F h a l xs) (hok : ∀ x ∈ xs, ∀ v ∈ x, rngV v) (hb : bs.length + (putL (putL encW) xs).length ≤ 140737488300000) :
    CallsH Tryz.prog 75 #[.pointer (some ⟨p, 0, none⟩), .slice a l c, .func (.func 76) #[.pointer (some ⟨p, 0, none⟩)] #[]] h (fun v h' => v = .tuple #[] ∧ St F h h' [WB p (bs ++ putL (putL encW) xs) (orE err (firstE (firstE faultV) xs))]) := by
  refine vf75 _ _ _ _ _ h _ ?_
  unfold F75
  have k := St.start k0
  have hl := r.len
  have hp : (putL (putL encW) xs).length = (putN xs.length).length + (xs.flatMap (putL encW)).length := by unfold putL; rw [List.length_append]
  have hf := flat_ge (p := (putL encW)) (P := fun _ => True) (fun y _ => putL_pos _ y) (xs := xs) fun _ _ => trivial
  obtain ⟨F', G, kF, kG, d, hF, back⟩ := k.frameA
  refine CallsH.mono (numW_step (n := (l : Int)) kF ⟨by omega, by omega⟩ (by rw [← hl]; omega)) ?_
  rintro _ h2 ⟨rfl, k2⟩
  have k := back k2
  clear back kF kG d hF
  refine ⟨rfl, fun m h' i => ∃ j : Nat, i = j ∧ j ≤ l ∧ m = l - j ∧ St F h h' [WB p (bs ++ putN l ++ (xs.take j).flatMap (putL encW)) (orE err (firstE (firstE faultV) (xs.take j)))], ⟨_, 0, rfl, by omega, rfl, ?_⟩, ?_⟩
  · rw [List.take_zero, List.flatMap_nil, List.append_nil]
    show St F h h2 [WB p (bs ++ putN l) (orE err 0)]
    rw [orE_zero]; exact k
  clear k
  rintro m h5 _ i ⟨j, rfl, hj, rfl, k⟩
  refine cond_split (fun hc => ?_) (fun hc => ?_)
  · have hjl : j < l := Int.ofNat_lt.1 (of_decide_eq_true hc)
    refine r.one k.ext (by omega) (by omega) fun ad s hs hc hrd => ?_
    rw [Int.toNat_natCast] at hs
    have hsm := List.mem_of_getElem? hs
    have hle := flat_take_le (f := (putL encW)) hs
    have hbl : (bs ++ putN l ++ (xs.take j).flatMap (putL encW)).length + ((putL encW) (rowE.val s)).length ≤ 140737488300000 := by
      rw [List.length_append, List.length_append]
      rw [hl] at hp; omega
    refine ⟨_, _, _, hc 0 _ rfl, ?_⟩
    obtain ⟨F', G, kF, kG, d, hF, back⟩ := k.frameA
    refine CallsH.mono (rowW_step kF (hrd.at k.ext hF) (hok _ hsm) hbl) ?_
    rintro _ h22 ⟨rfl, k2⟩
    have k := back k2
    refine ⟨rfl, l - (j + 1), by omega, j + 1, wrap_nat hjl (by omega), hjl, rfl, ?_⟩
    rw [flat_next hs, firstE_next hs, ← orE_assoc, ← List.append_assoc]
    exact k
  · have hjl : j = l := by
      have : ¬ (j : Int) < l := of_decide_eq_false hc
      omega
    subst hjl
    rw [List.take_of_length_le (by omega)] at k
    refine ⟨rfl, ?_⟩
    unfold putL
    rw [hl, ← List.append_assoc]
    exact k
theorem hitW_step {x : Hi} (k0 : Holds [WB p bs err] F h) (r : Ro F h a (x.row.flatMap valV)) (hok : ∀ v ∈ x.row, rngV v) (hb : bs.length + (putHW x).length ≤ 140737488300000) :
    CallsH Tryz.prog 72 #[.pointer (some ⟨p, 0, none⟩), .agg #[.string (bA x.q), .slice a x.row.length c]] h (fun v h' => v = .tuple #[] ∧ St F h h' [WB p (bs ++ putHW x) (orE err (firstE faultV x.row))]) := by
  refine vf72 _ _ _ _ _ h _ ?_
  unfold F72
  have k := St.start k0
  have hl : (putHW x).length = (putS x.q).length + (putL encW x.row).length := by unfold putHW; rw [List.length_append]
  refine k.vnew fun b1 h2 k => ⟨_, k.rd (by rfl), ?_⟩
  obtain ⟨F', G, kF, kG, d, hF, back⟩ := k.pull1.frameA
  refine CallsH.mono (texW_step kF (by omega)) ?_
  rintro _ h5 ⟨rfl, k2⟩
  have k := back k2
  clear back kF kG d hF
  refine ⟨rfl, _, _, _, k.rd (by rfl), ?_⟩
  obtain ⟨F', G, kF, kG, d, hF, back⟩ := k.frameA
  refine CallsH.mono (rowW_step kF (r.at k.ext hF) hok (by rw [List.length_append]; omega)) ?_
  rintro _ h8 ⟨rfl, k2⟩
  have k := (back k2).only
  rw [List.append_assoc] at k
  exact ⟨rfl, rfl, k⟩
theorem hitsW_step {xs : List (Hi)} (k0 : Holds [WB p bs err] F h) (r : RoX hitE F h a l xs) (hok : ∀ x ∈ xs, ∀ v ∈ x.row, rngV v) (hb : bs.length + (putL putHW xs).length ≤ 140737488300000) :
    CallsH Tryz.prog 71 #[.pointer (some ⟨p, 0, none⟩), .slice a l c, .func (.func 72) #[.pointer (some ⟨p, 0, none⟩)] #[]] h (fun v h' => v = .tuple #[] ∧ St F h h' [WB p (bs ++ putL putHW xs) (orE err (firstE (fun x => firstE faultV x.row) xs))]) := by
  refine vf71 _ _ _ _ _ h _ ?_
  unfold F71
  have k := St.start k0
  have hl := r.len
  have hp : (putL putHW xs).length = (putN xs.length).length + (xs.flatMap putHW).length := by unfold putL; rw [List.length_append]
  have hf := flat_ge (p := putHW) (P := fun _ => True) (fun y _ => by have := putS_pos y.q; unfold putHW; rw [List.length_append]; omega) (xs := xs) fun _ _ => trivial
  obtain ⟨F', G, kF, kG, d, hF, back⟩ := k.frameA
  refine CallsH.mono (numW_step (n := (l : Int)) kF ⟨by omega, by omega⟩ (by rw [← hl]; omega)) ?_
  rintro _ h2 ⟨rfl, k2⟩
  have k := back k2
  clear back kF kG d hF
  refine ⟨rfl, fun m h' i => ∃ j : Nat, i = j ∧ j ≤ l ∧ m = l - j ∧ St F h h' [WB p (bs ++ putN l ++ (xs.take j).flatMap putHW) (orE err (firstE (fun x => firstE faultV x.row) (xs.take j)))], ⟨_, 0, rfl, by omega, rfl, ?_⟩, ?_⟩
  · rw [List.take_zero, List.flatMap_nil, List.append_nil]
    show St F h h2 [WB p (bs ++ putN l) (orE err 0)]
    rw [orE_zero]; exact k
  clear k
  rintro m h5 _ i ⟨j, rfl, hj, rfl, k⟩
  refine cond_split (fun hc => ?_) (fun hc => ?_)
  · have hjl : j < l := Int.ofNat_lt.1 (of_decide_eq_true hc)
    refine r.one k.ext (by omega) (by omega) fun ad s hs hc hrd => ?_
    rw [Int.toNat_natCast] at hs
    have hsm := List.mem_of_getElem? hs
    have hle := flat_take_le (f := putHW) hs
    have hbl : (bs ++ putN l ++ (xs.take j).flatMap putHW).length + (putHW (hitE.val s)).length ≤ 140737488300000 := by
      rw [List.length_append, List.length_append]
      rw [hl] at hp; omega
    refine ⟨_, hc 0 _ rfl, _, _, _, hc 1 _ rfl, k.vnew fun b14 h15 k => k.vall (by rfl) (by rfl) fun h16 k => ⟨_, k.rd (by rfl), _, _, _, k.rd (by rfl), ?_⟩⟩
    obtain ⟨F', G, kF, kG, d, hF, back⟩ := k.pull1.frameA
    refine CallsH.mono (hitW_step kF (hrd.at k.ext hF) (hok _ hsm) hbl) ?_
    rintro _ h22 ⟨rfl, k2⟩
    have k := back k2
    refine ⟨rfl, l - (j + 1), by omega, j + 1, wrap_nat hjl (by omega), hjl, rfl, ?_⟩
    rw [flat_next hs, firstE_next hs, ← orE_assoc, ← List.append_assoc]
    exact k.only
  · have hjl : j = l := by
      have : ¬ (j : Int) < l := of_decide_eq_false hc
      omega
    subst hjl
    rw [List.take_of_length_le (by omega)] at k
    refine ⟨rfl, ?_⟩
    unfold putL
    rw [hl, ← List.append_assoc]
    exact k
theorem errW_step {tq q : Nat} {n : Int} (k0 : Holds [WB p bs err, A.blk q #[.pointer (some ⟨p, 0, none⟩)] tq] F h) (hn : rng64 n) (hb : bs.length + (putN n).length ≤ 140737488300000) : CallsH Tryz.prog 70 #[.int .i64 n, .pointer (some ⟨q, 0, none⟩)] h
    (fun v h' => v = .tuple #[] ∧ St F h h' [WB p (bs ++ putN n) err, A.blk q #[.pointer (some ⟨p, 0, none⟩)] tq]) := by
  refine vf70 _ _ h _ ?_
  unfold F70
  have k := St.start k0
  refine VSome.mk ⟨_, k.rd (by rfl), ?_⟩
  obtain ⟨F', G, kF, kG, d, hF, back⟩ := k.frameA
  refine CallsH.mono (numW_step kF hn hb) ?_
  rintro _ h4 ⟨rfl, k2⟩
  exact ⟨rfl, rfl, back k2⟩
theorem first_zero {α : Type} : ∀ xs : List α, firstE (fun _ => 0) xs = 0
  | [] => rfl
  | x :: xs => by unfold firstE; rw [first_zero xs]; rfl
theorem errsW_step {tq q : Nat} {xs : List (Int)} (k0 : Holds [WB p bs err, A.blk q #[.pointer (some ⟨p, 0, none⟩)] tq] F h) (r : RoX errE F h a l xs) (hok : ∀ x ∈ xs, rng64 x) (hb : bs.length + (putL putN xs).length ≤ 140737488300000) :
    CallsH Tryz.prog 69 #[.pointer (some ⟨p, 0, none⟩), .slice a l c, .func (.func 70) #[] #[.pointer (some ⟨q, 0, none⟩)]] h (fun v h' => v = .tuple #[] ∧ St F h h' [WB p (bs ++ putL putN xs) (orE err (firstE (fun _ => 0) xs)), A.blk q #[.pointer (some ⟨p, 0, none⟩)] tq]) := by
  refine vf69 _ _ _ _ _ h _ ?_
  unfold F69
  have k := St.start k0
  have hl := r.len
  have hp : (putL putN xs).length = (putN xs.length).length + (xs.flatMap putN).length := by unfold putL; rw [List.length_append]
  have hf := flat_ge (p := putN) (P := fun _ => True) (fun y _ => putN_pos y) (xs := xs) fun _ _ => trivial
  obtain ⟨F', G, kF, kG, d, hF, back⟩ := k.frameA
  refine CallsH.mono (numW_step (n := (l : Int)) kF ⟨by omega, by omega⟩ (by rw [← hl]; omega)) ?_
  rintro _ h2 ⟨rfl, k2⟩
  have k := back k2
  clear back kF kG d hF
  refine ⟨rfl, fun m h' i => ∃ j : Nat, i = j ∧ j ≤ l ∧ m = l - j ∧ St F h h' [WB p (bs ++ putN l ++ (xs.take j).flatMap putN) (orE err (firstE (fun _ => 0) (xs.take j))), A.blk q #[.pointer (some ⟨p, 0, none⟩)] tq], ⟨_, 0, rfl, by omega, rfl, ?_⟩, ?_⟩
  · rw [List.take_zero, List.flatMap_nil, List.append_nil]
    show St F h h2 [WB p (bs ++ putN l) (orE err 0), A.blk q #[.pointer (some ⟨p, 0, none⟩)] tq]
    rw [orE_zero]; exact k
  clear k
  rintro m h5 _ i ⟨j, rfl, hj, rfl, k⟩
  refine cond_split (fun hc => ?_) (fun hc => ?_)
  · have hjl : j < l := Int.ofNat_lt.1 (of_decide_eq_true hc)
    refine r.one k.ext (by omega) (by omega) fun ad s hs hc hrd => ?_
    rw [Int.toNat_natCast] at hs
    have hsm := List.mem_of_getElem? hs
    have hle := flat_take_le (f := putN) hs
    have hbl : (bs ++ putN l ++ (xs.take j).flatMap putN).length + (putN (errE.val s)).length ≤ 140737488300000 := by
      rw [List.length_append, List.length_append]
      rw [hl] at hp; omega
    refine ⟨_, hc 0 _ rfl, ?_⟩
    obtain ⟨F', G, kF, kG, d, hF, back⟩ := k.frameB
    refine CallsH.mono (errW_step kF (hok _ hsm) hbl) ?_
    rintro _ h22 ⟨rfl, k2⟩
    have k := back k2
    refine ⟨rfl, l - (j + 1), by omega, j + 1, wrap_nat hjl (by omega), hjl, rfl, ?_⟩
    rw [flat_next hs, firstE_next hs, ← orE_assoc, ← List.append_assoc]
    exact (by rw [orE_zero]; exact k)
  · have hjl : j = l := by
      have : ¬ (j : Int) < l := of_decide_eq_false hc
      omega
    subst hjl
    rw [List.take_of_length_le (by omega)] at k
    refine ⟨rfl, ?_⟩
    unfold putL
    rw [hl, ← List.append_assoc]
    exact k
end Go.Proofs.YtgdgebmlcgohhaaGreatDoor.F
/-! ## Package proto: the table of what each kind speaks of, the fields as function values. -/
namespace Go.Proofs.YtgdgebmlcgohhaaGreatDoor.F
open Go Go.VC Go.Proofs
set_option linter.unusedSimpArgs false
set_option linter.unusedVariables false
set_option maxRecDepth 100000
attribute [local irreducible] CallsH RunsTo PureTo

variable {S F G : Nat → Prop} {h0 h h1 : Heap} {L R L' : List A} {a b a1 a2 : Option Addr} {l c l1 c1 l2 c2 p t : Nat} {bs cs bs1 bs2 : List UInt8} {err e1 : Int} {v : Val} {bad bad1 : Bool} {q q2 : Rq}
/-- The table of what each kind speaks of, in memory. -/
def Spk (F : Nat → Prop) (h : Heap) : Prop := ∀ k : Nat, k < 13 → ∃ a c, Ro F h (some ⟨0, k, none⟩) [.slice a (spk k).length c] ∧ Ro F h a ((spk k).map fun i : Nat => Value.int .i64 (i : Int))
theorem Spk.at (k : Spk S h0) (m : Mod S h0 h) (hf : ∀ b, F b → S b ∨ h0.size ≤ b) : Spk F h := fun i hi => by
  obtain ⟨a, c, r1, r2⟩ := k i hi
  exact ⟨a, c, r1.at m hf, r2.at m hf⟩
theorem Spk.in (k : Spk S h0) (s : St S h0 h L) : Spk none_ h := k.at s.ext fun _ h => h.elim
theorem Spk.one (k : Spk F h) {n : Nat} (hn : n < 13) {K : Addr → Prop} (q : ∀ a c, cellH h ⟨0, n, none⟩ = some (.slice a (spk n).length c) → Ro F h a ((spk n).map fun i : Nat => Value.int .i64 (i : Int)) → K ⟨0, n, none⟩) : VIdx (some ⟨0, 0, none⟩) 13 (n : Int) 1 K := by
  obtain ⟨a, c, r1, r2⟩ := k n hn
  refine ⟨by omega, by omega, VSome.mk ?_⟩
  rw [Int.toNat_natCast, VC.add_plain, Nat.zero_add, Nat.mul_one]
  refine q a c ?_ r2
  obtain ⟨ad, e, hc, _⟩ := r1 0 _ rfl
  cases e
  rw [VC.add_plain] at hc
  exact hc
theorem known_spec (k : Int) : CallsH Tryz.prog 45 #[.int .i64 k] h (fun v h' => v = .bool (decide (known k)) ∧ h' = h) := by
  refine vf45 _ h _ ?_
  unfold F45
  refine cond_split (fun hc => ⟨?_, rfl⟩) (fun hc => ⟨?_, rfl⟩)
  · have hc : k ≥ 1 := of_decide_eq_true hc
    have : (k < 13) ↔ known k := by unfold known; omega
    rw [decide_eq_decide.2 this]
  · have hc : ¬ k ≥ 1 := of_decide_eq_false hc
    rw [decide_eq_false (by unfold known; omega)]
theorem mem_take_next {α : Type} [DecidableEq α] {xs : List α} {j : Nat} {x y : α} (h : xs[j]? = some x) : y ∈ xs.take (j + 1) ↔ y ∈ xs.take j ∨ y = x := by
  rw [take_next h, List.mem_append, List.mem_singleton]
theorem speaks_spec {n i : Nat} (hs : Spk none_ h) (hn : n < 13) : CallsH Tryz.prog 65 #[.int .i64 (n : Int), .int .i64 (i : Int)] h (fun v h' => v = .bool (decide (i ∈ spk n)) ∧ h' = h) := by
  refine vf65 _ _ h _ ?_
  unfold F65
  refine hs.one hn fun a c ha r => ⟨_, _, _, ha, ?_⟩
  refine ⟨fun m h' x y => ∃ j : Nat, y = j ∧ j ≤ (spk n).length ∧ m = (spk n).length - j ∧ h' = h ∧ i ∉ (spk n).take j, ⟨_, 0, rfl, by omega, rfl, rfl, by simp⟩, ?_⟩
  rintro m h' _ x y ⟨j, rfl, hj, rfl, rfl, hi⟩
  refine cond_split (fun hc => ?_) (fun hc => ?_)
  · have hjl : j < (spk n).length := Int.ofNat_lt.1 (of_decide_eq_true hc)
    refine r.sl.one (f := fun i : Nat => Value.int .i64 (i : Int)) rfl (by omega) (by omega) fun ad z hz hcz => ⟨_, hcz, ?_⟩
    rw [Int.toNat_natCast] at hz
    refine cond_split (fun hc => ?_) (fun hc => ?_)
    · have hc : z = i := by
        have : (z : Int) = i := by simpa using hc
        omega
      subst hc
      exact ⟨by rw [decide_eq_true (List.mem_of_getElem? hz)], rfl⟩
    · have hc : z ≠ i := by
        have : (z : Int) ≠ i := by simpa using hc
        omega
      refine ⟨_, by omega, j + 1, wrap_nat hjl (by have := spk_cases n; rcases this with e | e | e | e | e | e | e <;> rw [e] <;> simp), hjl, rfl, rfl, ?_⟩
      rw [mem_take_next hz]
      rintro (h1 | h1)
      · exact hi h1
      · exact hc h1.symm
  · have hjl : j = (spk n).length := by
      have : ¬ (j : Int) < (spk n).length := of_decide_eq_false hc
      omega
    subst hjl
    rw [List.take_of_length_le (Nat.le_refl _)] at hi
    exact ⟨by rw [decide_eq_false hi], rfl⟩
/-! ### The fields' functions -/
abbrev fnV (f : Nat) : Value := .func (.func f) #[] #[]
abbrev fldV : List Value := [fnV 99, fnV 100, fnV 101, fnV 102, fnV 103, fnV 104, fnV 105, fnV 106, fnV 107, fnV 108, fnV 109, fnV 112]
theorem fields_spec : CallsH Tryz.prog 46 #[] h (fun v h' => v = .agg fldV.toArray ∧ Ext h h') := by
  refine vf46 h _ ?_
  unfold F46
  exact (St.fresh h).vnew fun _ _ k => k.vall (by rfl) (by rfl) fun _ k => ⟨_, k.rd (by rfl), _, k.rd (by rfl), _, k.rd (by rfl), _, k.rd (by rfl), _, k.rd (by rfl), _, k.rd (by rfl), _, k.rd (by rfl), _, k.rd (by rfl), _, k.rd (by rfl), _, k.rd (by rfl), _, k.rd (by rfl), _, k.rd (by rfl), rfl, k.ext⟩
def fE (i : Nat) : Nat := match i with | 0 => 99 | 1 => 102 | 2 => 105 | _ => 108
def fW (i : Nat) : Nat := match i with | 0 => 100 | 1 => 103 | 2 => 106 | _ => 109
def fR (i : Nat) : Nat := match i with | 0 => 101 | 1 => 104 | 2 => 107 | _ => 112
theorem inv_bool {i : Nat} (hi : i < 4) {args : Array Value} {K : KV} (k : CallsH Tryz.prog (fE i) args h fun v h' => ∃ b : Bool, v = .bool b ∧ K (.bool b) h') : VInvoke Tryz.prog (fnV (fE i)) args h K := by
  have e : ∀ f, enters Tryz.prog f = some [4] → (CallsH Tryz.prog f args h fun v h' => ∃ b : Bool, v = .bool b ∧ K (.bool b) h') → VInvoke Tryz.prog (fnV f) args h K := fun f hf k => by
    show (match enters Tryz.prog f with | some ts => CallsH Tryz.prog f (#[] ++ args ++ #[]) h (answers Tryz.prog ts K) | none => False)
    rw [hf]
    have ea : (#[] : Array Value) ++ args ++ #[] = args := by simp
    rw [ea]
    refine CallsH.mono k fun v h' ⟨b, e1, q⟩ => ?_
    show anyOf Tryz.prog 4 fun u => v = u ∧ K u h'
    have hz : (Tryz.prog.info? 4).bind (·.zero) = some (.bool false) := by kernel_rfl
    unfold anyOf
    rw [hz]
    exact ⟨b, e1, q⟩
  refine e _ ?_ k
  match i, hi with
  | 0, _ => show enters Tryz.prog 99 = some [4]; kernel_rfl
  | 1, _ => show enters Tryz.prog 102 = some [4]; kernel_rfl
  | 2, _ => show enters Tryz.prog 105 = some [4]; kernel_rfl
  | 3, _ => show enters Tryz.prog 108 = some [4]; kernel_rfl
theorem inv_none {f : Nat} (hf : enters Tryz.prog f = some []) {args : Array Value} {K : KV} (k : CallsH Tryz.prog f args h fun v h' => v = .tuple #[] ∧ K (.tuple #[]) h') : VInvoke Tryz.prog (fnV f) args h K := by
  show (match enters Tryz.prog f with | some ts => CallsH Tryz.prog f (#[] ++ args ++ #[]) h (answers Tryz.prog ts K) | none => False)
  rw [hf]
  have ea : (#[] : Array Value) ++ args ++ #[] = args := by simp
  rw [ea]
  exact CallsH.mono k fun v h' q => q
theorem enW {i : Nat} (hi : i < 4) : enters Tryz.prog (fW i) = some [] := by
  match i, hi with
  | 0, _ => show enters Tryz.prog 100 = some []; kernel_rfl
  | 1, _ => show enters Tryz.prog 103 = some []; kernel_rfl
  | 2, _ => show enters Tryz.prog 106 = some []; kernel_rfl
  | 3, _ => show enters Tryz.prog 109 = some []; kernel_rfl
theorem enR {i : Nat} (hi : i < 4) : enters Tryz.prog (fR i) = some [] := by
  match i, hi with
  | 0, _ => show enters Tryz.prog 101 = some []; kernel_rfl
  | 1, _ => show enters Tryz.prog 104 = some []; kernel_rfl
  | 2, _ => show enters Tryz.prog 107 = some []; kernel_rfl
  | 3, _ => show enters Tryz.prog 112 = some []; kernel_rfl
theorem index76 {j : Nat} {K : Value → Prop} (hj : j < 4) (q : K (.agg #[fnV (fE j), fnV (fW j), fnV (fR j)])) : PureTo Tryz.prog (Instr.index 103 (.agg fldV.toArray) (.int .i64 (j : Int))) K := by
  refine .ok (fun w => ?_) q
  match j, hj with
  | 0, _ => show (Instr.index 103 (.agg fldV.toArray) (.int .i64 0)).run Tryz.prog w = .ok (.agg #[fnV 99, fnV 100, fnV 101]) w; kernel_rfl
  | 1, _ => show (Instr.index 103 (.agg fldV.toArray) (.int .i64 1)).run Tryz.prog w = .ok (.agg #[fnV 102, fnV 103, fnV 104]) w; kernel_rfl
  | 2, _ => show (Instr.index 103 (.agg fldV.toArray) (.int .i64 2)).run Tryz.prog w = .ok (.agg #[fnV 105, fnV 106, fnV 107]) w; kernel_rfl
  | 3, _ => show (Instr.index 103 (.agg fldV.toArray) (.int .i64 3)).run Tryz.prog w = .ok (.agg #[fnV 108, fnV 109, fnV 112]) w; kernel_rfl
/-- A request's cells. -/
abbrev rqV (q : Rq) (na : Option Addr) (nc : Nat) (ea : Option Addr) (ec : Nat) : List Value := [.int .u32 (q.id : Int), .int .i64 q.k, .string (bA q.name), .string (bA q.text), .slice na q.names.length nc, .slice ea q.evs.length ec]
abbrev RqB (b : Nat) (q : Rq) (na : Option Addr) (nc : Nat) (ea : Option Addr) (ec : Nat) : A := A.blk b (rqV q na nc ea ec).toArray 57
theorem len0 {α : Type} [DecidableEq α] (xs : List α) : ((xs.length : Int) == 0) = decide (xs = []) := by
  cases xs with
  | nil => rfl
  | cons x xs =>
    rw [decide_eq_false (by simp)]
    have : ((x :: xs).length : Int) ≠ 0 := by rw [List.length_cons]; omega
    simpa using this
theorem emp_spec {i : Nat} {na ea : Option Addr} {nc ec b1 : Nat} (hi : i < 4) (k : St S h0 h L) [ib : InB L b1 (rqV q na nc ea ec).toArray 57] : CallsH Tryz.prog (fE i) #[.pointer (some ⟨b1, 0, none⟩)] h (fun v h' => v = .bool (empF i q) ∧ h' = h) := by
  match i, hi with
  | 0, _ =>
    refine vf99 _ h _ ?_
    unfold F99
    exact VSome.mk ⟨_, St.rd (q := ib) k (by rfl), by rw [eqNil]; rfl, rfl⟩
  | 1, _ =>
    refine vf102 _ h _ ?_
    unfold F102
    exact VSome.mk ⟨_, St.rd (q := ib) k (by rfl), by rw [eqNil]; rfl, rfl⟩
  | 2, _ =>
    refine vf105 _ h _ ?_
    unfold F105
    exact VSome.mk ⟨_, _, _, St.rd (q := ib) k (by rfl), by rw [len0]; rfl, rfl⟩
  | 3, _ =>
    refine vf108 _ h _ ?_
    unfold F108
    exact VSome.mk ⟨_, _, _, St.rd (q := ib) k (by rfl), by rw [len0]; rfl, rfl⟩
/-- What a request's lists are, where others hold them. -/
structure RqRo (F : Nat → Prop) (h : Heap) (q : Rq) (na ea : Option Addr) : Prop where
  names : RoX texE F h na q.names.length q.names
  evs : RoX evE F h ea q.evs.length q.evs
theorem RqRo.at {na ea : Option Addr} (k : RqRo S h0 q na ea) (m : Mod S h0 h) (hf : ∀ b, F b → S b ∨ h0.size ≤ b) : RqRo F h q na ea := ⟨k.names.at m hf, k.evs.at m hf⟩
/-- What is asked of a request's size. -/
structure RqOk (q : Rq) : Prop where
  id : q.id < 4294967296
  kind : rng64 q.k
  rng : ∀ e ∈ q.evs, rngE e ∧ e.vs.length ≤ 1099511627776
  evs : q.evs.length ≤ 1099511627776
  big : (putF 0 q).length + (putF 1 q).length + (putF 2 q).length + (putF 3 q).length ≤ 1099511627776
def fltF (i : Nat) (q : Rq) : Int := match i with | 0 => 0 | 1 => 0 | 2 => 0 | _ => firstE faultE q.evs
theorem putW_step {i : Nat} {na ea : Option Addr} {nc ec b1 : Nat} (hi : i < 4) (hw : Wd F h) (ok : RqOk q) (r : RqRo F h q na ea) (k0 : Holds [WB p bs err, RqB b1 q na nc ea ec] F h) (hb : bs.length ≤ 1099511627776 * 4) :
    CallsH Tryz.prog (fW i) #[.pointer (some ⟨p, 0, none⟩), .pointer (some ⟨b1, 0, none⟩)] h (fun v h' => v = .tuple #[] ∧ St F h h' [WB p (bs ++ putF i q) (orE err (fltF i q)), RqB b1 q na nc ea ec]) := by
  have k := St.start k0
  have hbig := ok.big
  match i, hi with
  | 0, _ =>
    refine vf100 _ _ h _ ?_
    unfold F100
    refine VSome.mk ⟨_, k.rd (by rfl), ?_⟩
    obtain ⟨F', G, kF, kG, d, hF, back⟩ := k.frameA
    have hl : (putF 0 q).length = (putS q.name).length := rfl
    refine CallsH.mono (texW_step kF (by omega)) ?_
    rintro _ h4 ⟨rfl, k2⟩
    refine ⟨rfl, rfl, ?_⟩
    show St F h h4 [WB p (bs ++ putS q.name) (orE err 0), _]
    rw [orE_zero]; exact back k2
  | 1, _ =>
    refine vf103 _ _ h _ ?_
    unfold F103
    refine VSome.mk ⟨_, k.rd (by rfl), ?_⟩
    obtain ⟨F', G, kF, kG, d, hF, back⟩ := k.frameA
    have hl : (putF 1 q).length = (putS q.text).length := rfl
    refine CallsH.mono (texW_step kF (by omega)) ?_
    rintro _ h4 ⟨rfl, k2⟩
    refine ⟨rfl, rfl, ?_⟩
    show St F h h4 [WB p (bs ++ putS q.text) (orE err 0), _]
    rw [orE_zero]; exact back k2
  | 2, _ =>
    refine vf106 _ _ h _ ?_
    unfold F106
    refine VSome.mk ⟨_, _, _, k.rd (by rfl), ?_⟩
    obtain ⟨F', G, kF, kG, d, hF, back⟩ := k.frameA
    have hl : (putF 2 q).length = (putL putS q.names).length := rfl
    refine CallsH.mono (texsW_step kF (r.at k.ext hF).names (fun _ _ => trivial) (by omega)) ?_
    rintro _ h4 ⟨rfl, k2⟩
    refine ⟨rfl, rfl, ?_⟩
    rw [first_zero] at k2
    exact back k2
  | 3, _ =>
    refine vf109 _ _ h _ ?_
    unfold F109
    refine VSome.mk ⟨_, _, _, k.rd (by rfl), ?_⟩
    obtain ⟨F', G, kF, kG, d, hF, back⟩ := k.frameA
    have hl : (putF 3 q).length = (putL encF q.evs).length := rfl
    refine CallsH.mono (evsW_step (hw.at k.ext hF) ok.evs kF (r.at k.ext hF).evs ok.rng (by omega)) ?_
    rintro _ h4 ⟨rfl, k2⟩
    exact ⟨rfl, rfl, back k2⟩
end Go.Proofs.YtgdgebmlcgohhaaGreatDoor.F
/-! ## Package proto: a request is written. -/
namespace Go.Proofs.YtgdgebmlcgohhaaGreatDoor.F
open Go Go.VC Go.Proofs
set_option linter.unusedSimpArgs false
set_option linter.unusedVariables false
set_option maxRecDepth 100000
attribute [local irreducible] CallsH RunsTo PureTo

variable {S F G : Nat → Prop} {h0 h h1 : Heap} {L R L' : List A} {a b a1 a2 na ea : Option Addr} {l c l1 c1 l2 c2 p t nc ec : Nat} {bs cs bs1 bs2 : List UInt8} {err e1 : Int} {v : Val} {bad bad1 : Bool} {q q2 : Rq}
theorem speaksK {n : Int} {i : Nat} (hs : Spk none_ h) (hk : known n) : CallsH Tryz.prog 65 #[.int .i64 n, .int .i64 (i : Int)] h (fun v h' => v = .bool (decide (i ∈ spk n)) ∧ h' = h) := by
  have h1 := hk.1
  have h2 := hk.2
  obtain ⟨m, rfl⟩ : ∃ m : Nat, n = m := ⟨n.toNat, by omega⟩
  exact speaks_spec hs (by omega)
theorem Spk.oneK (k : Spk none_ h) (m : Ext h h1) {n : Int} (hk : known n) {K : Addr → Prop} (q : ∀ ad a c, cellH h1 ad = some (.slice a (spk n).length c) → Ro none_ h a ((spk n).map fun i : Nat => Value.int .i64 (i : Int)) → K ad) : VIdx (some ⟨0, 0, none⟩) 13 n 1 K := by
  have h1 := hk.1
  have h2 := hk.2
  obtain ⟨i, rfl⟩ : ∃ m : Nat, n = m := ⟨n.toNat, by omega⟩
  exact k.one (by omega) fun a c hc r => q _ a c (cellH_mod hc m id) r
theorem spk_lt {k : Int} {i : Nat} (h : i ∈ spk k) : i < 4 := by
  rcases spk_cases k with e | e | e | e | e | e | e <;> rw [e] at h <;> simp at h <;> omega
theorem spk_len (k : Int) (q : Rq) : ((spk k).flatMap fun i => putF i q).length ≤ (putF 0 q).length + (putF 1 q).length + (putF 2 q).length + (putF 3 q).length := by
  rcases spk_cases k with e | e | e | e | e | e | e <;> rw [e] <;> simp <;> omega
theorem take_flat_le {α β : Type} (f : α → List β) (xs : List α) (j : Nat) : ((xs.take j).flatMap f).length ≤ (xs.flatMap f).length := by
  conv => rhs; rw [← List.take_append_drop j xs, List.flatMap_append, List.length_append]
  omega
theorem faultEs_first : ∀ es : List Ev, faultEs es = firstE faultE es
  | [] => rfl
  | e :: es => by
    unfold faultEs firstE orE
    rw [faultEs_first es]
theorem faultF_first (k : Int) (q : Rq) : faultF (spk k) q = firstE (fun i => fltF i q) (spk k) := by
  unfold faultF
  rcases spk_cases k with e | e | e | e | e | e | e <;> rw [e] <;> simp [firstE, fltF, orE_zero, zero_orE, faultEs_first]
theorem ask_done (hk : known q.k) (hs : stray q = false) : askR q = doneR (putQ q) (firstE (fun i => fltF i q) (spk q.k)) := by
  unfold askR doneR
  rw [if_neg (by simpa using hk), if_neg (by simp [hs]), faultF_first]
abbrev aggQ (q : Rq) (na : Option Addr) (nc : Nat) (ea : Option Addr) (ec : Nat) : Value := .agg (rqV q na nc ea ec).toArray
theorem ask_spec (hw : Wd none_ h) (hs : Spk none_ h) (ok : RqOk q) (r : RqRo none_ h q na ea) : CallsH Tryz.prog 25 #[aggQ q na nc ea ec] h
    (fun v h' => ∃ x c, v = .tuple #[.slice x (askR q).1.length c, .int .i64 (askR q).2] ∧ St none_ h h' [BV x (askR q).1.length c (askR q).1]) := by
  refine vf25 _ _ _ _ _ _ _ _ _ _ h _ ?_
  unfold F25
  have hbig := ok.big
  have k := St.fresh h
  refine k.vnew fun b1 h2 k => ⟨_, k.rd (by rfl), ?_⟩
  have k : St none_ h h2 [RqB b1 q na nc ea ec] := k
  refine CallsH.mono (known_spec q.k) ?_
  rintro _ _ ⟨rfl, rfl⟩
  refine ⟨_, rfl, cond_split (fun hc => ?_) (fun hc => ?_)⟩
  · have hc : ¬ known q.k := by simpa using hc
    have e : askR q = ([], 301) := if_pos hc
    rw [e]; exact ⟨none, 0, rfl, k.drop.vnil 5 (sz := 1) (by omega)⟩
  have hk : known q.k := by simpa using hc
  clear hc
  refine CallsH.mono fields_spec ?_
  rintro _ h8 ⟨rfl, m⟩
  have k := k.next m
  clear m
  refine ⟨_, _, _, _, _, _, _, _, _, _, _, _, rfl, k.vnew fun b21 h22 k => k.vall (by rfl) (by rfl) fun h23 k => ⟨_, k.rd (by rfl), _, k.rd (by rfl), _, k.rd (by rfl), _, k.rd (by rfl), _, k.rd (by rfl), _, k.rd (by rfl), _, k.rd (by rfl), _, k.rd (by rfl), _, k.rd (by rfl), _, k.rd (by rfl), _, k.rd (by rfl), _, k.rd (by rfl), ?_⟩⟩
  refine ⟨fun m h' y ly cy z i => ∃ j : Nat, i = j ∧ j ≤ 4 ∧ m = 4 - j ∧ St none_ h h' [A.blk b21 fldV.toArray 103, RqB b1 q na nc ea ec] ∧ ∀ i, i < j → i ∈ spk q.k ∨ empF i q = true, ⟨_, 0, rfl, by omega, rfl, k, fun i hi => by omega⟩, ?_⟩
  clear k
  rintro m h38 _ y ly cy z i ⟨j, rfl, hj, rfl, k, he⟩
  refine cond_split (fun hc => ?_) (fun hc => ?_)
  · have hj4 : j < 4 := by
      have : (j : Int) < 4 := of_decide_eq_true hc
      omega
    refine index76 hj4 ⟨_, _, _, rfl, k.vnew fun b48 h49 k => k.vall (by rfl) (by rfl) fun h50 k => ⟨_, k.rd (by rfl), ?_⟩⟩
    refine CallsH.mono (speaksK (hs.in k) hk) ?_
    rintro _ _ ⟨rfl, rfl⟩
    refine ⟨_, rfl, cond_split (fun hc => ?_) (fun hc => ?_)⟩
    · have hc : j ∉ spk q.k := by simpa using hc
      refine ⟨_, k.rd (by rfl), inv_bool hj4 (CallsH.mono (emp_spec (q := q) (na := na) (nc := nc) (ea := ea) (ec := ec) (b1 := b1) hj4 k) ?_)⟩
      rintro _ _ ⟨rfl, rfl⟩
      refine ⟨_, rfl, _, rfl, cond_split (fun hc2 => ?_) (fun hc2 => ?_)⟩
      · have hc2 : empF j q = false := by simpa using hc2
        have e : askR q = ([], 301) := by
          unfold askR
          rw [if_neg (by simpa using hk), if_pos (stray_iff.2 ⟨j, hj4, hc, hc2⟩)]
        rw [e]; exact ⟨none, 0, rfl, k.drop.drop.drop.vnil 5 (sz := 1) (by omega)⟩
      · have hc2 : empF j q = true := by simpa using hc2
        refine ⟨4 - (j + 1), by omega, j + 1, wrap_nat hj4 (by omega), by omega, rfl, k.drop, fun i hi => ?_⟩
        by_cases hij : i = j
        · subst hij; exact .inr hc2
        · exact he i (by omega)
    · have hc : j ∈ spk q.k := by simpa using hc
      refine ⟨4 - (j + 1), by omega, j + 1, wrap_nat hj4 (by omega), by omega, rfl, k.drop, fun i hi => ?_⟩
      by_cases hij : i = j
      · subst hij; exact .inl hc
      · exact he i (by omega)
  have hj4 : j = 4 := by
    have : ¬ (j : Int) < 4 := of_decide_eq_false hc
    omega
  subst hj4
  clear hc hj
  have hst : stray q = false := by
    rw [Bool.eq_false_iff]
    intro hst
    obtain ⟨i, hi, hn, h3⟩ := stray_iff.1 hst
    rcases he i hi with h4 | h4
    · exact hn h4
    · rw [h3] at h4; cases h4
  rw [ask_done hk hst]
  have hk1 := hk.1
  have hk2 := hk.2
  have eb : (.int .u8 (IntKind.u8.wrap q.k) : Value) = byteV (UInt8.ofNat q.k.toNat) := by
    rw [byteV_of, wrap_u8]; congr 1; omega
  refine ⟨_, k.rd (by rfl), ?_⟩
  rw [eb]
  refine k.vnew fun b60 h61 k => ⟨_, k.rd (by rfl), ?_⟩
  have k := k.blkvec (n := 1) (sz := 1) rfl (by omega) (by omega)
  obtain ⟨F', G, kF, kG, d, hF, back⟩ := k.frameA
  refine CallsH.mono (four_spec q.id kF (by omega)) ?_
  rintro _ h64 ⟨a65, c65, rfl, k2⟩
  have k := back k2
  clear back kF kG d hF
  refine ⟨_, _, _, rfl, k.vnew fun b66 h67 k => ⟨_, k.rd (by rfl), ?_⟩⟩
  have k : St none_ h h67 (A.blk b66 #[.slice a65 ([UInt8.ofNat q.k.toNat] ++ be4 q.id).length c65, .int .i64 0] 136 :: BV a65 ([UInt8.ofNat q.k.toNat] ++ be4 q.id).length c65 ([UInt8.ofNat q.k.toNat] ++ be4 q.id) :: [A.blk b21 fldV.toArray 103, RqB b1 q na nc ea ec]) := k
  have k := WB.close k
  have hhl : ([UInt8.ofNat q.k.toNat] ++ be4 q.id).length = 5 := rfl
  generalize hH : [UInt8.ofNat q.k.toNat] ++ be4 q.id = H at *
  refine Spk.oneK hs k.ext hk fun ad a70 c70 hc70 r70 => ⟨_, _, _, hc70, ?_⟩
  refine ⟨fun m h' y => ∃ j : Nat, y = j ∧ j ≤ (spk q.k).length ∧ m = (spk q.k).length - j ∧ St none_ h h' [WB b66 (H ++ ((spk q.k).take j).flatMap fun i => putF i q) (firstE (fun i => fltF i q) ((spk q.k).take j)), RqB b1 q na nc ea ec, A.blk b21 fldV.toArray 103], ⟨_, 0, rfl, by omega, rfl, ?_⟩, ?_⟩
  · rw [List.take_zero, List.flatMap_nil, List.append_nil]
    exact k.sel 3 [0, 2, 1] rfl (by decide) (by rfl)
  clear k
  rintro m h73 _ y ⟨j, rfl, hj, rfl, k⟩
  have hsl := spk_len q.k q
  have hL4 : (spk q.k).length ≤ 2 := by rcases spk_cases q.k with e | e | e | e | e | e | e <;> rw [e] <;> simp
  refine cond_split (fun hc => ?_) (fun hc => ?_)
  · have hjl : j < (spk q.k).length := Int.ofNat_lt.1 (of_decide_eq_true hc)
    refine (r70.in k).sl.one (f := fun i : Nat => Value.int .i64 (i : Int)) rfl (by omega) (by omega) fun ad z hz hcz => ⟨_, hcz, ?_⟩
    rw [Int.toNat_natCast] at hz
    have hz4 := spk_lt (List.mem_of_getElem? hz)
    refine ⟨by omega, by omega, VSome.mk ?_⟩
    rw [Int.toNat_natCast, VC.add_plain]
    refine ⟨fnV (fW z), k.rd ?_, ?_⟩
    · match z, hz4 with
      | 0, _ => rfl
      | 1, _ => rfl
      | 2, _ => rfl
      | 3, _ => rfl
    have hfl := take_flat_le (fun i => putF i q) (spk q.k) j
    obtain ⟨F', G, kF, kG, d, hF, back⟩ := k.frameB
    refine inv_none (enW hz4) (CallsH.mono (putW_step hz4 (hw.at k.ext hF) ok (r.at k.ext hF) kF (by rw [List.length_append]; omega)) ?_)
    rintro _ h82 ⟨rfl, k2⟩
    have k := back k2
    refine ⟨rfl, (spk q.k).length - (j + 1), by omega, j + 1, wrap_nat hjl (by omega), hjl, rfl, ?_⟩
    rw [flat_next hz, firstE_next hz, ← List.append_assoc]
    exact k
  · have hjl : j = (spk q.k).length := by
      have : ¬ (j : Int) < (spk q.k).length := of_decide_eq_false hc
      omega
    subst hjl
    rw [List.take_of_length_le (Nat.le_refl _)] at k
    have e : H ++ ((spk q.k).flatMap fun i => putF i q) = putQ q := by unfold putQ; rw [← hH, List.append_assoc]
    rw [e] at k
    obtain ⟨F', G, kF, kG, d, hF, back⟩ := k.frameA
    refine CallsH.mono (doneW_spec kF) ?_
    rintro _ h84 ⟨x, c, rfl, k2⟩
    have k := (back k2).only
    exact ⟨_, _, _, _, rfl, x, c, rfl, k⟩
end Go.Proofs.YtgdgebmlcgohhaaGreatDoor.F
/-! ## Package proto: a request is read. -/
namespace Go.Proofs.YtgdgebmlcgohhaaGreatDoor.F
open Go Go.VC Go.Proofs
set_option linter.unusedSimpArgs false
set_option linter.unusedVariables false
set_option maxRecDepth 100000
attribute [local irreducible] CallsH RunsTo PureTo

variable {S F G : Nat → Prop} {h0 h h1 : Heap} {L R L' : List A} {a b a1 a2 na ea : Option Addr} {l c l1 c1 l2 c2 p t nc ec b1 : Nat} {bs cs bs1 bs2 : List UInt8} {err e1 : Int} {v : Val} {bad bad1 : Bool} {q q2 : Rq}
/-- A request in memory, with its lists. -/
def RqA (b : Nat) (q : Rq) : A := A.ex fun x : (Option Addr × Nat) × (Option Addr × Nat) => A.all [RqB b q x.1.1 x.1.2 x.2.1 x.2.2, texE.L x.1.1 q.names.length x.1.2 q.names, evE.L x.2.1 q.evs.length x.2.2 q.evs]
theorem RqA.open (k : St S h0 h (RqA p q :: R)) : ∃ na nc ea ec, St S h0 h (RqB p q na nc ea ec :: texE.L na q.names.length nc q.names :: evE.L ea q.evs.length ec q.evs :: R) := by
  obtain ⟨x, k⟩ := St.opens k
  exact ⟨x.1.1, x.1.2, x.2.1, x.2.2, St.open (L := [RqB p q x.1.1 x.1.2 x.2.1 x.2.2, texE.L x.1.1 q.names.length x.1.2 q.names, evE.L x.2.1 q.evs.length x.2.2 q.evs]) k⟩
theorem RqA.close (k : St S h0 h (RqB p q na nc ea ec :: texE.L na q.names.length nc q.names :: evE.L ea q.evs.length ec q.evs :: R)) : St S h0 h (RqA p q :: R) :=
  St.closes (f := fun x : (Option Addr × Nat) × (Option Addr × Nat) => A.all [RqB p q x.1.1 x.1.2 x.2.1 x.2.2, texE.L x.1.1 q.names.length x.1.2 q.names, evE.L x.2.1 q.evs.length x.2.2 q.evs]) (x := ((na, nc), (ea, ec))) (St.close (L := [RqB p q na nc ea ec, texE.L na q.names.length nc q.names, evE.L ea q.evs.length ec q.evs]) k)
theorem getP_step {i : Nat} (hi : i < 4) (hw : Wd F h) (k0 : Holds [RP t p a l c bad, RqA b1 q] F h) (r : RdP F h a l c bs) :
    CallsH Tryz.prog (fR i) #[.pointer (some ⟨p, 0, none⟩), .pointer (some ⟨b1, 0, none⟩)] h (fun v h' => v = .tuple #[] ∧ ∃ (q' : Rq) (a1 : Option Addr) (l1 c1 : Nat) (bs1 : Bytes) (bad1 : Bool), Nxt a l c bs a1 l1 c1 bs1 ∧ StepO (getF i q) bs bad q' bs1 bad1 ∧ St F h h' [RP t p a1 l1 c1 bad1, RqA b1 q']) := by
  have k := St.start k0
  match i, hi with
  | 0, _ =>
    refine vf101 _ _ h _ ?_
    unfold F101
    obtain ⟨F', G, kF, kG, d, hF, back⟩ := k.frameA
    refine CallsH.mono (texP_step kF (r.at k.ext hF)) ?_
    rintro _ h2 ⟨s, a1, l1, c1, bs1, bad1, rfl, nx, st, k2⟩
    obtain ⟨na, nc, ea, ec, k⟩ := RqA.open (back k2).pull1
    refine ⟨_, rfl, VSome.mk (k.vst (Nat.le_of_ble_eq_true (by rfl)) fun h5 k => ⟨rfl, { q with name := s }, a1, l1, c1, bs1, bad1, nx, st.bind (.ret _), ?_⟩)⟩
    exact (RqA.close (q := { q with name := s }) k).pull1
  | 1, _ =>
    refine vf104 _ _ h _ ?_
    unfold F104
    obtain ⟨F', G, kF, kG, d, hF, back⟩ := k.frameA
    refine CallsH.mono (texP_step kF (r.at k.ext hF)) ?_
    rintro _ h2 ⟨s, a1, l1, c1, bs1, bad1, rfl, nx, st, k2⟩
    obtain ⟨na, nc, ea, ec, k⟩ := RqA.open (back k2).pull1
    refine ⟨_, rfl, VSome.mk (k.vst (Nat.le_of_ble_eq_true (by rfl)) fun h5 k => ⟨rfl, { q with text := s }, a1, l1, c1, bs1, bad1, nx, st.bind (.ret _), ?_⟩)⟩
    exact (RqA.close (q := { q with text := s }) k).pull1
  | 2, _ =>
    refine vf107 _ _ h _ ?_
    unfold F107
    obtain ⟨F', G, kF, kG, d, hF, back⟩ := k.frame2
    refine CallsH.mono (texsP_step kF (r.at k.ext hF)) ?_
    rintro _ h2 ⟨s, b, cc, a1, l1, c1, bs1, bad1, rfl, nx, st, _, k2⟩
    obtain ⟨na, nc, ea, ec, k⟩ := RqA.open (back k2).pull2
    refine ⟨_, _, _, rfl, VSome.mk (k.vst (Nat.le_of_ble_eq_true (by rfl)) fun h5 k => ⟨rfl, { q with names := s }, a1, l1, c1, bs1, bad1, nx, st.bind (.ret _), ?_⟩)⟩
    have k := (k.sel 5 [1, 0, 4, 2, 3] rfl (by decide) (L' := [_, _, _, _, _]) (by rfl)).drop
    exact (RqA.close (q := { q with names := s }) k).pull1
  | 3, _ =>
    refine vf112 _ _ h _ ?_
    unfold F112
    obtain ⟨F', G, kF, kG, d, hF, back⟩ := k.frame2
    refine CallsH.mono (evsP_step (hw.at k.ext hF) kF (r.at k.ext hF)) ?_
    rintro _ h2 ⟨s, b, cc, a1, l1, c1, bs1, bad1, rfl, nx, st, _, k2⟩
    obtain ⟨na, nc, ea, ec, k⟩ := RqA.open (back k2).pull2
    refine ⟨_, _, _, rfl, VSome.mk (k.vst (Nat.le_of_ble_eq_true (by rfl)) fun h5 k => ⟨rfl, { q with evs := s }, a1, l1, c1, bs1, bad1, nx, st.bind (.ret _), ?_⟩)⟩
    have k := (k.sel 5 [2, 0, 1, 4, 3] rfl (by decide) (L' := [_, _, _, _, _]) (by rfl)).drop
    exact (RqA.close (q := { q with evs := s }) k).pull1
theorem getsF_snoc (i : Nat) : ∀ (is : List Nat) (q : Rq), getsF (is ++ [i]) q = bindO (getsF is q) (getF i)
  | [], q => by
    show bindO (getF i q) retO = _
    rw [bindO_ret]; rfl
  | x :: is, q => by
    show bindO (getF x q) (getsF (is ++ [i])) = bindO (bindO (getF x q) (getsF is)) (getF i)
    rw [bindO_assoc]
    congr 1
    funext q'
    exact getsF_snoc i is q'
theorem asked_fin (hle : ¬ 65528 < bs.length) (s : StepO askedO bs false q bs1 bad1) : (bad1 = true ∨ bs1 ≠ [] → askedR bs = (noRq, 301)) ∧ (bad1 = false → bs1 = [] → askedR bs = (q, 0)) := by
  unfold askedR
  rw [if_neg hle]
  rcases s with ⟨h, _⟩ | ⟨_, h2, h3⟩ | ⟨_, h2, h3⟩
  · cases h
  · rw [h3, h2]
    constructor
    · rintro (h | h)
      · cases h
      · cases bs1 with
        | nil => exact absurd rfl h
        | cons x r => rfl
    · intro _ h; rw [h]
  · rw [h3, h2]
    exact ⟨fun _ => rfl, fun h => by cases h⟩
theorem asked_spec (hw : Wd none_ h) (hs : Spk none_ h) (hsl : Sl h a (bytesV bs)) (hl : bs.length = l) (hlc : l ≤ c) : CallsH Tryz.prog 18 #[.slice a l c] h
    (fun v h' => ∃ na nc ea ec, v = .tuple #[aggQ (askedR bs).1 na nc ea ec, .int .i64 (askedR bs).2] ∧ St none_ h h' [texE.L na (askedR bs).1.names.length nc (askedR bs).1.names, evE.L ea (askedR bs).1.evs.length ec (askedR bs).1.evs]) := by
  refine vf18 _ _ _ h _ ?_
  unfold F18
  have k := St.fresh h
  refine k.vnew fun b1 h2 k => ?_
  have out : ∀ {h' : Heap} {R : List A} (e : Int), St none_ h h' R → askedR bs = (noRq, e) → ∃ na nc ea ec, (Value.tuple #[aggQ noRq none 0 none 0, .int .i64 e]) = .tuple #[aggQ (askedR bs).1 na nc ea ec, .int .i64 (askedR bs).2] ∧ St none_ h h' [texE.L na (askedR bs).1.names.length nc (askedR bs).1.names, evE.L ea (askedR bs).1.evs.length ec (askedR bs).1.evs] := fun e k hr => by
    rw [hr]
    exact ⟨none, 0, none, 0, rfl, (El.nil texE (El.nil evE k)).only2⟩
  refine cond_split (fun hc => ?_) (fun hc => ?_)
  · have hc : 65528 < bs.length := by
      have : (l : Int) > 65528 := of_decide_eq_true hc
      omega
    exact k.vall (by rfl) (by rfl) fun _ k => ⟨_, k.rd (by rfl), _, k.rd (by rfl), _, k.rd (by rfl), _, k.rd (by rfl), _, _, _, k.rd (by rfl), _, _, _, k.rd (by rfl), out 2 k (if_pos hc)⟩
  have hle : ¬ 65528 < bs.length := by
    have : ¬ (l : Int) > 65528 := of_decide_eq_false hc
    omega
  clear hc
  refine k.vnew fun b10 h11 k => ?_
  have r : RdP none_ h a l c bs := ⟨hsl.ro, hl, hlc, by omega⟩
  have k : St none_ h h11 [RP 94 b10 a l c false, RqB b1 noRq none 0 none 0] := k
  obtain ⟨F', G, kF, kG, d, hF, back⟩ := k.frameA
  refine CallsH.mono (oneP_step kF (r.at k.ext hF)) ?_
  rintro _ h13 ⟨x, a1, l1, c1, bs1, bad1, rfl, nx1, s1, _, k2⟩
  have k := back k2
  clear back kF kG d hF
  have ex : IntKind.i64.wrap (x.toNat : Int) = (x.toNat : Int) := by have := x.toNat_lt; rw [wrap_id (by omega) (by omega)]
  refine ⟨_, rfl, k.vnew fun b15 h16 k => ?_⟩
  rw [ex]
  refine k.vall (by rfl) (by rfl) fun h17 k => ?_
  obtain ⟨F', G, kF, kG, d, hF, back⟩ := k.pull1.frameA
  refine CallsH.mono (idP_step kF ((r.nxt nx1).at k.ext hF)) ?_
  rintro _ h19 ⟨n, a2, l2, c2, bs2, bad2, rfl, nx2, s2, hn, k2⟩
  have k := back k2
  clear back kF kG d hF
  refine ⟨_, rfl, k.vst (Nat.le_of_ble_eq_true (by rfl)) fun h21 k => ?_⟩
  have k : St none_ h h21 [RP 94 b10 a2 l2 c2 bad2, RqB b15 ⟨n, x.toNat, [], [], [], []⟩ none 0 none 0, RqB b1 noRq none 0 none 0] := k
  have nx2 := nx1.trans nx2
  clear nx1
  refine ⟨_, k.rd (by rfl), ?_⟩
  cases hb2 : bad2
  rotate_left
  · have e := (asked_fin hle (s1.bind (s2.bind (y := noRq) (bs2 := []) (bad2 := true) (by rw [hb2]; exact .spoilt)))).1 (.inl rfl)
    exact cond_true rfl (k.vall (by rfl) (by rfl) fun _ k => ⟨_, k.rd (by rfl), _, k.rd (by rfl), _, k.rd (by rfl), _, k.rd (by rfl), _, _, _, k.rd (by rfl), _, _, _, k.rd (by rfl), out 301 k e⟩)
  subst hb2
  refine cond_false rfl ⟨_, k.rd (by rfl), ?_⟩
  refine CallsH.mono (known_spec _) ?_
  rintro _ _ ⟨rfl, rfl⟩
  refine ⟨_, rfl, ?_⟩
  by_cases hk : known (x.toNat : Int)
  rotate_left
  · have e := (asked_fin hle (s1.bind (s2.bind (y := noRq) (bs2 := []) (bad2 := true) (.fail fun _ => by rw [if_neg hk]; rfl)))).1 (.inl rfl)
    exact cond_true (by rw [decide_eq_false hk]; rfl) (k.vall (by rfl) (by rfl) fun _ k => ⟨_, k.rd (by rfl), _, k.rd (by rfl), _, k.rd (by rfl), _, k.rd (by rfl), _, _, _, k.rd (by rfl), _, _, _, k.rd (by rfl), out 301 k e⟩)
  refine cond_false (by rw [decide_eq_true hk]; rfl) ?_
  refine CallsH.mono fields_spec ?_
  rintro _ h42 ⟨rfl, m⟩
  have k := k.next m
  clear m
  refine ⟨_, _, _, _, _, _, _, _, _, _, _, _, rfl, k.vnew fun b55 h56 k => k.vall (by rfl) (by rfl) fun h57 k => ⟨_, k.rd (by rfl), ?_⟩⟩
  refine Spk.oneK hs k.ext hk fun ad a60 c60 hc60 r60 => ⟨_, _, _, hc60, ?_⟩
  have k := k.sel 4 [2, 1, 0, 3] rfl (by decide) (L' := [RqB b15 ⟨n, x.toNat, [], [], [], []⟩ none 0 none 0, RP 94 b10 a2 l2 c2 false, A.blk b55 fldV.toArray 103, RqB b1 noRq none 0 none 0]) (by rfl)
  have k := RqA.close (q := ⟨n, x.toNat, [], [], [], []⟩) (El.nil texE (El.nil evE k.pull1.pull1) |>.pull2)
  generalize hQ : (⟨n, (x.toNat : Int), [], [], [], []⟩ : Rq) = q0 at *
  refine ⟨fun m h' y => ∃ (j : Nat) (q' : Rq) (a3 : Option Addr) (l3 c3 : Nat) (bs3 : Bytes) (bad3 : Bool), y = j ∧ j ≤ (spk x.toNat).length ∧ m = (spk x.toNat).length - j ∧ Nxt a l c bs a3 l3 c3 bs3 ∧ StepO (getsF ((spk x.toNat).take j) q0) bs2 false q' bs3 bad3 ∧
    St none_ h h' [RP 94 b10 a3 l3 c3 bad3, RqA b15 q', A.blk b55 fldV.toArray 103, RqB b1 noRq none 0 none 0], ⟨_, 0, q0, a2, l2, c2, bs2, false, rfl, by omega, rfl, nx2, .ret _, k.pull1⟩, ?_⟩
  clear k
  rintro m h63 _ y ⟨j, q', a3, l3, c3, bs3, bad3, rfl, hj, rfl, nx3, s3, k⟩
  have hL4 : (spk x.toNat).length ≤ 2 := by rcases spk_cases x.toNat with e | e | e | e | e | e | e <;> rw [e] <;> simp
  refine cond_split (fun hc => ?_) (fun hc => ?_)
  · have hjl : j < (spk x.toNat).length := Int.ofNat_lt.1 (of_decide_eq_true hc)
    refine (r60.in k).sl.one (f := fun i : Nat => Value.int .i64 (i : Int)) rfl (by omega) (by omega) fun ad z hz hcz => ⟨_, hcz, ?_⟩
    rw [Int.toNat_natCast] at hz
    have hz4 := spk_lt (List.mem_of_getElem? hz)
    refine ⟨by omega, by omega, VSome.mk ?_⟩
    rw [Int.toNat_natCast, VC.add_plain]
    refine ⟨fnV (fR z), k.rd ?_, ?_⟩
    · match z, hz4 with
      | 0, _ => rfl
      | 1, _ => rfl
      | 2, _ => rfl
      | 3, _ => rfl
    obtain ⟨F', G, kF, kG, d, hF, back⟩ := k.frameB
    refine inv_none (enR hz4) (CallsH.mono (getP_step hz4 (hw.at k.ext hF) kF ((r.nxt nx3).at k.ext hF)) ?_)
    rintro _ h72 ⟨rfl, q4, a4, l4, c4, bs4, bad4, nx4, s4, k2⟩
    have k := back k2
    refine ⟨rfl, (spk x.toNat).length - (j + 1), by omega, j + 1, q4, a4, l4, c4, bs4, bad4, wrap_nat hjl (by omega), hjl, rfl, nx3.trans nx4, ?_, k⟩
    rw [take_next hz, getsF_snoc]
    exact s3.bind s4
  · have hjl : j = (spk x.toNat).length := by
      have : ¬ (j : Int) < (spk x.toNat).length := of_decide_eq_false hc
      omega
    subst hjl
    rw [List.take_of_length_le (Nat.le_refl _)] at s3
    have sA : StepO askedO bs false q' bs3 bad3 := s1.bind (s2.bind (by rw [if_pos hk, hQ]; exact s3))
    obtain ⟨f1, f2⟩ := asked_fin hle sA
    have hl3 := nx3.len hl
    refine ⟨_, k.rd (by rfl), ?_⟩
    cases hb3 : bad3
    rotate_left
    · exact cond_true rfl (k.vall (by rfl) (by rfl) fun _ k => ⟨_, k.rd (by rfl), _, k.rd (by rfl), _, k.rd (by rfl), _, k.rd (by rfl), _, _, _, k.rd (by rfl), _, _, _, k.rd (by rfl), out 301 k (f1 (.inl hb3))⟩)
    refine cond_false rfl ⟨_, _, _, k.rd (by rfl), cond_split (fun hc => ?_) (fun hc => ?_)⟩
    · have hc : (l3 : Int) > 0 := of_decide_eq_true hc
      have hne : bs3 ≠ [] := fun e => by rw [e] at hl3; simp at hl3; omega
      exact k.vall (by rfl) (by rfl) fun _ k => ⟨_, k.rd (by rfl), _, k.rd (by rfl), _, k.rd (by rfl), _, k.rd (by rfl), _, _, _, k.rd (by rfl), _, _, _, k.rd (by rfl), out 301 k (f1 (.inr hne))⟩
    · have hc : ¬ (l3 : Int) > 0 := of_decide_eq_false hc
      have he : bs3 = [] := List.eq_nil_of_length_eq_zero (by omega)
      rw [f2 hb3 he]
      obtain ⟨na, nc, ea, ec, k⟩ := RqA.open k.pull1
      refine ⟨_, k.rd (by rfl), _, k.rd (by rfl), _, k.rd (by rfl), _, k.rd (by rfl), _, _, _, k.rd (by rfl), _, _, _, k.rd (by rfl), ?_⟩
      refine k.vall (by rfl) (by rfl) fun h95 k => ⟨_, k.rd (by rfl), _, k.rd (by rfl), _, k.rd (by rfl), _, k.rd (by rfl), _, _, _, k.rd (by rfl), _, _, _, k.rd (by rfl), na, nc, ea, ec, rfl, k.drop.only2⟩
end Go.Proofs.YtgdgebmlcgohhaaGreatDoor.F
/-! ## Package proto: a reply is written and read. -/
namespace Go.Proofs.YtgdgebmlcgohhaaGreatDoor.F
open Go Go.VC Go.Proofs
set_option linter.unusedSimpArgs false
set_option linter.unusedVariables false
set_option maxRecDepth 100000
attribute [local irreducible] CallsH RunsTo PureTo

variable {S F G : Nat → Prop} {h0 h h1 : Heap} {L R L' : List A} {a b a1 a2 ga ha na ra : Option Addr} {l c l1 c1 l2 c2 p t gc hc nc rc b1 : Nat} {bs cs bs1 bs2 : List UInt8} {err e1 : Int} {v : Val} {bad bad1 : Bool} {q q2 : Rp}
abbrev rpV (q : Rp) (ga : Option Addr) (gc : Nat) (ha : Option Addr) (hc : Nat) (na : Option Addr) (nc : Nat) (ra : Option Addr) (rc : Nat) : List Value := [.int .u32 (q.id : Int), .bool q.note, .int .i64 q.err, .int .i64 q.at_, .slice ga q.errs.length gc, .slice ha q.hits.length hc, .slice na q.names.length nc, .slice ra q.rows.length rc, .int .i64 q.since, .int .i64 q.open_, .int .i64 q.nodes, .bool q.over]
abbrev aggP (q : Rp) (ga : Option Addr) (gc : Nat) (ha : Option Addr) (hc : Nat) (na : Option Addr) (nc : Nat) (ra : Option Addr) (rc : Nat) : Value := .agg (rpV q ga gc ha hc na nc ra rc).toArray
structure RpRo (F : Nat → Prop) (h : Heap) (q : Rp) (ga ha na ra : Option Addr) : Prop where
  errs : RoX errE F h ga q.errs.length q.errs
  hits : RoX hitE F h ha q.hits.length q.hits
  names : RoX texE F h na q.names.length q.names
  rows : RoX rowE F h ra q.rows.length q.rows
theorem RpRo.at (k : RpRo S h0 q ga ha na ra) (m : Mod S h0 h) (hf : ∀ b, F b → S b ∨ h0.size ≤ b) : RpRo F h q ga ha na ra := ⟨k.errs.at m hf, k.hits.at m hf, k.names.at m hf, k.rows.at m hf⟩
/-- What is asked of a reply's size. -/
structure RpOk (q : Rp) : Prop where
  id : q.id < 4294967296
  err : rng64 q.err
  at_ : rng64 q.at_
  errs : ∀ n ∈ q.errs, rng64 n
  hits : ∀ x ∈ q.hits, ∀ v ∈ x.row, rngV v
  rows : ∀ x ∈ q.rows, ∀ v ∈ x, rngV v
  since : rng64 q.since
  open_ : rng64 q.open_
  nodes : rng64 q.nodes
  big : (putW q).length ≤ 1099511627776
theorem first12 {α : Type} (f : α → Bool) : ∀ xs : List α, firstE (fun x => if f x then 0 else 12) xs = if xs.all f then 0 else 12
  | [] => rfl
  | x :: xs => by
    unfold firstE orE
    rw [first12 f xs, List.all_cons]
    cases f x <;> simp
theorem first_row (r : List Val) : firstE faultV r = if r.all validV then 0 else 12 := first12 validV r
theorem tell_done (q : Rp) : tellR q = doneR (putW q) (orE (firstE (fun x => firstE faultV x.row) q.hits) (firstE (firstE faultV) q.rows)) := by
  have e1 : firstE (fun x : Hi => firstE faultV x.row) q.hits = if (q.hits.all fun x => x.row.all validV) then 0 else 12 := by
    rw [← first12]
    congr 1
    funext x
    exact first_row x.row
  have e2 : firstE (firstE faultV) q.rows = if (q.rows.all fun r => r.all validV) then 0 else 12 := by
    rw [← first12]
    congr 1
    funext x
    exact first_row x
  rw [e1, e2]
  unfold tellR soundP doneR orE
  cases (q.hits.all fun x => x.row.all validV) <;> cases (q.rows.all fun r => r.all validV) <;> simp
theorem tell_spec (ok : RpOk q) (r : RpRo none_ h q ga ha na ra) : CallsH Tryz.prog 26 #[aggP q ga gc ha hc na nc ra rc] h
    (fun v h' => ∃ x c, v = .tuple #[.slice x (tellR q).1.length c, .int .i64 (tellR q).2] ∧ St none_ h h' [BV x (tellR q).1.length c (tellR q).1]) := by
  refine vf26 _ _ _ _ _ _ _ _ _ _ _ _ _ _ _ _ _ _ _ _ h _ ?_
  unfold F26
  have hbig := ok.big
  simp only [putW, List.length_append] at hbig
  have k := St.fresh h
  refine k.vnew fun b1 h2 k => k.vnew fun b3 h4 k => k.vnew fun b5 h6 k => k.vst (Nat.le_of_ble_eq_true (by rfl)) fun h7 k => ?_
  have k : St none_ h h7 [A.blk b5 #[.pointer (some ⟨b3, 0, none⟩)] 134, A.blk b3 #[.slice none 0 0, .int .i64 0] 136, A.blk b1 (rpV q ga gc ha hc na nc ra rc).toArray 65] := k
  have k := (k.vnil 5 (sz := 1) (by omega)).sel 4 [2, 0, 1, 3] rfl (by decide) (L' := [A.blk b3 #[.slice none 0 0, .int .i64 0] 136, BV none 0 0 [], A.blk b5 #[.pointer (some ⟨b3, 0, none⟩)] 134, A.blk b1 (rpV q ga gc ha hc na nc ra rc).toArray 65]) (by rfl)
  have k := WB.close (bs := []) k
  refine ⟨_, k.rd (by rfl), _, k.rd (by rfl), ?_⟩
  obtain ⟨F', G, kF, kG, d, hF, back⟩ := k.frameA
  refine CallsH.mono (truW_step kF (by simp)) ?_
  rintro _ _ ⟨rfl, k2⟩
  have k := back k2
  clear back kF kG d hF
  rw [List.nil_append] at k
  refine ⟨rfl, _, k.rd (by rfl), _, k.rd (by rfl), ?_⟩
  have e1 : (truB q.note).length = 1 := rfl
  obtain ⟨a15, c15, k⟩ := WB.open k
  refine VSome.mk ⟨_, _, _, k.rd (by rfl), _, k.rd (by rfl), ?_⟩
  obtain ⟨F', G, kF, kG, d, hF, back⟩ := k.pull1.frameA
  refine CallsH.mono (four_spec q.id kF (by omega)) ?_
  rintro _ h18 ⟨a19, c19, rfl, k2⟩
  have k := back k2
  clear back kF kG d hF
  refine ⟨_, _, _, rfl, k.rd (by rfl), VSome.mk (k.vst (Nat.le_of_ble_eq_true (by rfl)) fun h21 k => ?_)⟩
  rw [← bytesV_app] at k
  have k := WB.close (bs := truB q.note ++ be4 q.id) (a := a19) (c := c19) k.pull1
  have e2 : (be4 q.id).length = 4 := rfl
  refine ⟨_, k.rd (by rfl), _, k.rd (by rfl), ?_⟩
  obtain ⟨F', G, kF, kG, d, hF, back⟩ := k.frameA
  refine CallsH.mono (numW_step kF ok.err (by simp only [List.length_append]; omega)) ?_
  rintro _ _ ⟨rfl, k2⟩
  have k := back k2
  clear back kF kG d hF
  refine ⟨rfl, _, k.rd (by rfl), _, k.rd (by rfl), ?_⟩
  obtain ⟨F', G, kF, kG, d, hF, back⟩ := k.frameA
  refine CallsH.mono (numW_step kF ok.at_ (by simp only [List.length_append]; omega)) ?_
  rintro _ _ ⟨rfl, k2⟩
  have k := back k2
  clear back kF kG d hF
  refine ⟨rfl, _, k.rd (by rfl), _, _, _, k.rd (by rfl), ?_⟩
  obtain ⟨F', G, kF, kG, d, hF, back⟩ := k.frameB
  refine CallsH.mono (errsW_step kF (r.at k.ext hF).errs ok.errs (by simp only [List.length_append]; omega)) ?_
  rintro _ _ ⟨rfl, k2⟩
  have k := back k2
  clear back kF kG d hF
  rw [first_zero, orE_zero] at k
  refine ⟨rfl, _, k.rd (by rfl), _, _, _, k.rd (by rfl), _, k.rd (by rfl), ?_⟩
  obtain ⟨F', G, kF, kG, d, hF, back⟩ := k.frameA
  refine CallsH.mono (hitsW_step kF (r.at k.ext hF).hits ok.hits (by simp only [List.length_append]; omega)) ?_
  rintro _ _ ⟨rfl, k2⟩
  have k := back k2
  clear back kF kG d hF
  rw [zero_orE] at k
  refine ⟨rfl, _, k.rd (by rfl), _, _, _, k.rd (by rfl), _, k.rd (by rfl), ?_⟩
  obtain ⟨F', G, kF, kG, d, hF, back⟩ := k.frameA
  refine CallsH.mono (texsW_step kF (r.at k.ext hF).names (fun _ _ => trivial) (by simp only [List.length_append]; omega)) ?_
  rintro _ _ ⟨rfl, k2⟩
  have k := back k2
  clear back kF kG d hF
  rw [first_zero, orE_zero] at k
  refine ⟨rfl, _, k.rd (by rfl), _, _, _, k.rd (by rfl), _, k.rd (by rfl), ?_⟩
  obtain ⟨F', G, kF, kG, d, hF, back⟩ := k.frameA
  refine CallsH.mono (rowsW_step kF (r.at k.ext hF).rows ok.rows (by simp only [List.length_append]; omega)) ?_
  rintro _ _ ⟨rfl, k2⟩
  have k := back k2
  clear back kF kG d hF
  refine ⟨rfl, _, k.rd (by rfl), _, k.rd (by rfl), ?_⟩
  obtain ⟨F', G, kF, kG, d, hF, back⟩ := k.frameA
  refine CallsH.mono (numW_step kF ok.since (by simp only [List.length_append]; omega)) ?_
  rintro _ _ ⟨rfl, k2⟩
  have k := back k2
  clear back kF kG d hF
  refine ⟨rfl, _, k.rd (by rfl), _, k.rd (by rfl), ?_⟩
  obtain ⟨F', G, kF, kG, d, hF, back⟩ := k.frameA
  refine CallsH.mono (numW_step kF ok.open_ (by simp only [List.length_append]; omega)) ?_
  rintro _ _ ⟨rfl, k2⟩
  have k := back k2
  clear back kF kG d hF
  refine ⟨rfl, _, k.rd (by rfl), _, k.rd (by rfl), ?_⟩
  obtain ⟨F', G, kF, kG, d, hF, back⟩ := k.frameA
  refine CallsH.mono (numW_step kF ok.nodes (by simp only [List.length_append]; omega)) ?_
  rintro _ _ ⟨rfl, k2⟩
  have k := back k2
  clear back kF kG d hF
  refine ⟨rfl, _, k.rd (by rfl), _, k.rd (by rfl), ?_⟩
  have e3 : (truB q.over).length = 1 := rfl
  obtain ⟨F', G, kF, kG, d, hF, back⟩ := k.frameA
  refine CallsH.mono (truW_step kF (by simp only [List.length_append]; omega)) ?_
  rintro _ _ ⟨rfl, k2⟩
  have k := back k2
  clear back kF kG d hF
  refine ⟨rfl, _, k.rd (by rfl), ?_⟩
  have e : truB q.note ++ be4 q.id ++ putN q.err ++ putN q.at_ ++ putL putN q.errs ++ putL putHW q.hits ++ putL putS q.names ++ putL (putL encW) q.rows ++ putN q.since ++ putN q.open_ ++ putN q.nodes ++ truB q.over = putW q := by
    unfold putW; simp only [List.append_assoc]
  rw [e] at k
  rw [tell_done]
  obtain ⟨F', G, kF, kG, d, hF, back⟩ := k.frameA
  refine CallsH.mono (doneW_spec kF) ?_
  rintro _ h84 ⟨x, c, rfl, k2⟩
  have k := (back k2).only
  exact ⟨_, _, _, _, rfl, x, c, rfl, k⟩
theorem _root_.Go.VC.St.frameB3 {x y : A} (k : St S h0 h (x :: y :: R)) : ∃ F G, Holds [x, y] F h ∧ Holds R G h ∧ (∀ b, F b → ¬ G b) ∧ (∀ b, F b → S b ∨ h0.size ≤ b) ∧ ∀ {h' : Heap} {x y z : A}, St F h h' [x, y, z] → St S h0 h' (x :: y :: z :: R) := by
  obtain ⟨F, G, a1, a2, a3, a4, a5⟩ := St.frame (L := [x, y]) k
  exact ⟨F, G, a1, a2, a3, a4, fun q => a5 q⟩
theorem _root_.Go.VC.St.reB (k : St S h0 h L) {b t : Nat} {cs : Array Value} (cs' : Array Value) [p : InB L b cs t] [q : PutB L b cs cs' t L'] (e : cs = cs') : St S h0 h L' :=
  St.put (q := q) k (e ▸ St.blk (q := p) k) (.refl _ _)
theorem _root_.Go.VC.St.only4 {x y z w : A} (k : St S h0 h (x :: y :: z :: w :: R)) : St S h0 h [x, y, z, w] :=
  St.dropL (L := R) (R := [x, y, z, w]) (k.perm (List.perm_append_comm (l₁ := [x, y, z, w]) (l₂ := R)))
theorem told_fin (hle : ¬ 65528 < bs.length) (s : StepO toldO bs false q bs1 bad1) : (bad1 = true ∨ bs1 ≠ [] → toldR bs = (noRp, 301)) ∧ (bad1 = false → bs1 = [] → toldR bs = (q, 0)) := by
  unfold toldR
  rw [if_neg hle]
  rcases s with ⟨h, _⟩ | ⟨_, h2, h3⟩ | ⟨_, h2, h3⟩
  · cases h
  · rw [h3, h2]
    constructor
    · rintro (h | h)
      · cases h
      · cases bs1 with
        | nil => exact absurd rfl h
        | cons x r => rfl
    · intro _ h; rw [h]
  · rw [h3, h2]
    exact ⟨fun _ => rfl, fun h => by cases h⟩
set_option maxHeartbeats 1000000 in
theorem told_spec (hsl : Sl h a (bytesV bs)) (hl : bs.length = l) (hlc : l ≤ c) : CallsH Tryz.prog 19 #[.slice a l c] h
    (fun v h' => ∃ ga gc ha hc na nc ra rc, v = .tuple #[aggP (toldR bs).1 ga gc ha hc na nc ra rc, .int .i64 (toldR bs).2] ∧ St none_ h h' [errE.L ga (toldR bs).1.errs.length gc (toldR bs).1.errs, hitE.L ha (toldR bs).1.hits.length hc (toldR bs).1.hits, texE.L na (toldR bs).1.names.length nc (toldR bs).1.names, rowE.L ra (toldR bs).1.rows.length rc (toldR bs).1.rows]) := by
  refine vf19 _ _ _ h _ ?_
  unfold F19
  have k := St.fresh h
  refine k.vnew fun b1 h2 k => ?_
  have out : ∀ {h' : Heap} {R : List A} (e : Int), St none_ h h' R → toldR bs = (noRp, e) → ∃ ga gc ha hc na nc ra rc, (Value.tuple #[aggP noRp none 0 none 0 none 0 none 0, .int .i64 e]) = .tuple #[aggP (toldR bs).1 ga gc ha hc na nc ra rc, .int .i64 (toldR bs).2] ∧
      St none_ h h' [errE.L ga (toldR bs).1.errs.length gc (toldR bs).1.errs, hitE.L ha (toldR bs).1.hits.length hc (toldR bs).1.hits, texE.L na (toldR bs).1.names.length nc (toldR bs).1.names, rowE.L ra (toldR bs).1.rows.length rc (toldR bs).1.rows] := fun {h' R} e k hr => by
    rw [hr]
    have k := St.dropL (L := R) (R := []) (by rw [List.append_nil]; exact k)
    exact ⟨none, 0, none, 0, none, 0, none, 0, rfl, El.nil errE (El.nil hitE (El.nil texE (El.nil rowE k)))⟩
  refine cond_split (fun hc => ?_) (fun hc => ?_)
  · have hc : 65528 < bs.length := by
      have : (l : Int) > 65528 := of_decide_eq_true hc
      omega
    exact k.vall (by rfl) (by rfl) fun _ k => ⟨_, k.rd (by rfl), _, k.rd (by rfl), _, k.rd (by rfl), _, k.rd (by rfl), _, _, _, k.rd (by rfl), _, _, _, k.rd (by rfl), _, _, _, k.rd (by rfl), _, _, _, k.rd (by rfl), _, k.rd (by rfl), _, k.rd (by rfl), _, k.rd (by rfl), _, k.rd (by rfl), out 2 k (if_pos hc)⟩
  have hle : ¬ 65528 < bs.length := by
    have : ¬ (l : Int) > 65528 := of_decide_eq_false hc
    omega
  clear hc
  refine k.vnew fun b16 h17 k => k.vnew fun b18 h19 k => k.vst (Nat.le_of_ble_eq_true (by rfl)) fun h20 k => ?_
  have r : RdP none_ h a l c bs := ⟨hsl.ro, hl, hlc, by omega⟩
  have k : St none_ h h20 [A.blk b18 #[.pointer (some ⟨b16, 0, none⟩)] 92, RP 94 b16 a l c false, A.blk b1 (rpV noRp none 0 none 0 none 0 none 0).toArray 65] := k
  have k := k.pull1
  refine ⟨_, k.rd (by rfl), ?_⟩
  obtain ⟨F', G, kF, kG, d, hF, back⟩ := k.frameA
  refine CallsH.mono (truP_step kF (r.at k.ext hF)) ?_
  rintro _ h23 ⟨note, a1, l1, c1, bs1, bad1, rfl, nx1, s1, k2⟩
  have k := back k2
  clear back kF kG d hF
  refine ⟨_, rfl, k.vnew fun b25 h26 k => k.vall (by rfl) (by rfl) fun h27 k => ⟨_, k.rd (by rfl), ?_⟩⟩
  have k := k.sel 4 [1, 2, 0, 3] rfl (by decide) (L' := [_, _, _, _]) (by rfl)
  obtain ⟨F', G, kF, kG, d, hF, back⟩ := k.frameA
  refine CallsH.mono (idP_step kF ((r.nxt nx1).at k.ext hF)) ?_
  rintro _ h30 ⟨id, a2, l2, c2, bs2, bad2, rfl, nx2, s2, _, k2⟩
  have k := back k2
  clear back kF kG d hF
  replace nx2 := nx1.trans nx2
  refine ⟨_, rfl, k.vst (Nat.le_of_ble_eq_true (by rfl)) fun h32 k => ?_⟩
  have k := k.reB (b := b25) (rpV ⟨id, note, 0, 0, [], [], [], [], 0, 0, 0, false⟩ none 0 none 0 none 0 none 0).toArray (by rfl)
  refine ⟨_, k.rd (by rfl), ?_⟩
  obtain ⟨F', G, kF, kG, d, hF, back⟩ := k.frameA
  refine CallsH.mono (numP_step kF ((r.nxt nx2).at k.ext hF)) ?_
  rintro _ h35 ⟨er, a3, l3, c3, bs3, bad3, rfl, nx3, s3, _, _, k2⟩
  have k := back k2
  clear back kF kG d hF
  replace nx3 := nx2.trans nx3
  refine ⟨_, rfl, k.vst (Nat.le_of_ble_eq_true (by rfl)) fun h37 k => ?_⟩
  have k := k.reB (b := b25) (rpV ⟨id, note, er, 0, [], [], [], [], 0, 0, 0, false⟩ none 0 none 0 none 0 none 0).toArray (by rfl)
  refine ⟨_, k.rd (by rfl), ?_⟩
  obtain ⟨F', G, kF, kG, d, hF, back⟩ := k.frameA
  refine CallsH.mono (numP_step kF ((r.nxt nx3).at k.ext hF)) ?_
  rintro _ h40 ⟨at_, a4, l4, c4, bs4, bad4, rfl, nx4, s4, _, _, k2⟩
  have k := back k2
  clear back kF kG d hF
  replace nx4 := nx3.trans nx4
  refine ⟨_, rfl, k.vst (Nat.le_of_ble_eq_true (by rfl)) fun h42 k => ?_⟩
  have k := k.reB (b := b25) (rpV ⟨id, note, er, at_, [], [], [], [], 0, 0, 0, false⟩ none 0 none 0 none 0 none 0).toArray (by rfl)
  refine ⟨_, k.rd (by rfl), ?_⟩
  obtain ⟨F', G, kF, kG, d, hF, back⟩ := k.frameB3
  refine CallsH.mono (errsP_step kF ((r.nxt nx4).at k.ext hF)) ?_
  rintro _ h45 ⟨errs, ga, gc, a5, l5, c5, bs5, bad5, rfl, nx5, s5, _, k2⟩
  have k := back k2
  clear back kF kG d hF
  replace nx5 := nx4.trans nx5
  refine ⟨_, _, _, rfl, k.vst (Nat.le_of_ble_eq_true (by rfl)) fun h47 k => ?_⟩
  have k := k.reB (b := b25) (rpV ⟨id, note, er, at_, errs, [], [], [], 0, 0, 0, false⟩ ga gc none 0 none 0 none 0).toArray (by rfl)
  refine ⟨_, k.rd (by rfl), _, k.rd (by rfl), ?_⟩
  obtain ⟨F', G, kF, kG, d, hF, back⟩ := k.frame2
  refine CallsH.mono (hitsP_step kF ((r.nxt nx5).at k.ext hF)) ?_
  rintro _ h51 ⟨hits, ha, hc, a6, l6, c6, bs6, bad6, rfl, nx6, s6, _, k2⟩
  have k := back k2
  clear back kF kG d hF
  replace nx6 := nx5.trans nx6
  refine ⟨_, _, _, rfl, k.vst (Nat.le_of_ble_eq_true (by rfl)) fun h53 k => ?_⟩
  have k := k.reB (b := b25) (rpV ⟨id, note, er, at_, errs, hits, [], [], 0, 0, 0, false⟩ ga gc ha hc none 0 none 0).toArray (by rfl)
  refine ⟨_, k.rd (by rfl), _, k.rd (by rfl), ?_⟩
  obtain ⟨F', G, kF, kG, d, hF, back⟩ := k.frame2
  refine CallsH.mono (texsP_step kF ((r.nxt nx6).at k.ext hF)) ?_
  rintro _ h57 ⟨names, na, nc, a7, l7, c7, bs7, bad7, rfl, nx7, s7, _, k2⟩
  have k := back k2
  clear back kF kG d hF
  replace nx7 := nx6.trans nx7
  refine ⟨_, _, _, rfl, k.vst (Nat.le_of_ble_eq_true (by rfl)) fun h59 k => ?_⟩
  have k := k.reB (b := b25) (rpV ⟨id, note, er, at_, errs, hits, names, [], 0, 0, 0, false⟩ ga gc ha hc na nc none 0).toArray (by rfl)
  refine ⟨_, k.rd (by rfl), _, k.rd (by rfl), ?_⟩
  obtain ⟨F', G, kF, kG, d, hF, back⟩ := k.frame2
  refine CallsH.mono (rowsP_step kF ((r.nxt nx7).at k.ext hF)) ?_
  rintro _ h63 ⟨rows, ra, rc, a8, l8, c8, bs8, bad8, rfl, nx8, s8, _, k2⟩
  have k := back k2
  clear back kF kG d hF
  replace nx8 := nx7.trans nx8
  refine ⟨_, _, _, rfl, k.vst (Nat.le_of_ble_eq_true (by rfl)) fun h65 k => ?_⟩
  have k := k.reB (b := b25) (rpV ⟨id, note, er, at_, errs, hits, names, rows, 0, 0, 0, false⟩ ga gc ha hc na nc ra rc).toArray (by rfl)
  refine ⟨_, k.rd (by rfl), ?_⟩
  obtain ⟨F', G, kF, kG, d, hF, back⟩ := k.frameA
  refine CallsH.mono (numP_step kF ((r.nxt nx8).at k.ext hF)) ?_
  rintro _ h68 ⟨since, a9, l9, c9, bs9, bad9, rfl, nx9, s9, _, _, k2⟩
  have k := back k2
  clear back kF kG d hF
  replace nx9 := nx8.trans nx9
  refine ⟨_, rfl, k.vst (Nat.le_of_ble_eq_true (by rfl)) fun h70 k => ?_⟩
  have k := k.reB (b := b25) (rpV ⟨id, note, er, at_, errs, hits, names, rows, since, 0, 0, false⟩ ga gc ha hc na nc ra rc).toArray (by rfl)
  refine ⟨_, k.rd (by rfl), ?_⟩
  obtain ⟨F', G, kF, kG, d, hF, back⟩ := k.frameA
  refine CallsH.mono (numP_step kF ((r.nxt nx9).at k.ext hF)) ?_
  rintro _ h73 ⟨open_, a10, l10, c10, bs10, bad10, rfl, nx10, s10, _, _, k2⟩
  have k := back k2
  clear back kF kG d hF
  replace nx10 := nx9.trans nx10
  refine ⟨_, rfl, k.vst (Nat.le_of_ble_eq_true (by rfl)) fun h75 k => ?_⟩
  have k := k.reB (b := b25) (rpV ⟨id, note, er, at_, errs, hits, names, rows, since, open_, 0, false⟩ ga gc ha hc na nc ra rc).toArray (by rfl)
  refine ⟨_, k.rd (by rfl), ?_⟩
  obtain ⟨F', G, kF, kG, d, hF, back⟩ := k.frameA
  refine CallsH.mono (numP_step kF ((r.nxt nx10).at k.ext hF)) ?_
  rintro _ h78 ⟨nodes, a11, l11, c11, bs11, bad11, rfl, nx11, s11, _, _, k2⟩
  have k := back k2
  clear back kF kG d hF
  replace nx11 := nx10.trans nx11
  refine ⟨_, rfl, k.vst (Nat.le_of_ble_eq_true (by rfl)) fun h80 k => ?_⟩
  have k := k.reB (b := b25) (rpV ⟨id, note, er, at_, errs, hits, names, rows, since, open_, nodes, false⟩ ga gc ha hc na nc ra rc).toArray (by rfl)
  refine ⟨_, k.rd (by rfl), ?_⟩
  obtain ⟨F', G, kF, kG, d, hF, back⟩ := k.frameA
  refine CallsH.mono (truP_step kF ((r.nxt nx11).at k.ext hF)) ?_
  rintro _ h83 ⟨over, a12, l12, c12, bs12, bad12, rfl, nx12, s12, k2⟩
  have k := back k2
  clear back kF kG d hF
  replace nx12 := nx11.trans nx12
  refine ⟨_, rfl, k.vst (Nat.le_of_ble_eq_true (by rfl)) fun h85 k => ?_⟩
  have k := k.reB (b := b25) (rpV ⟨id, note, er, at_, errs, hits, names, rows, since, open_, nodes, over⟩ ga gc ha hc na nc ra rc).toArray (by rfl)
  refine ⟨_, k.rd (by rfl), ?_⟩
  refine VSome.mk ⟨_, k.rd (by rfl), ?_⟩
  have sA : StepO toldO bs false ⟨id, note, er, at_, errs, hits, names, rows, since, open_, nodes, over⟩ bs12 bad12 := s1.bind (s2.bind (s3.bind (s4.bind (s5.bind (s6.bind (s7.bind (s8.bind (s9.bind (s10.bind (s11.bind (s12.bind (.ret _))))))))))))
  obtain ⟨f1, f2⟩ := told_fin hle sA
  have hl3 := nx12.len hl
  cases hb3 : bad12
  rotate_left
  · exact cond_true rfl (k.vall (by rfl) (by rfl) fun _ k => ⟨_, k.rd (by rfl), _, k.rd (by rfl), _, k.rd (by rfl), _, k.rd (by rfl), _, _, _, k.rd (by rfl), _, _, _, k.rd (by rfl), _, _, _, k.rd (by rfl), _, _, _, k.rd (by rfl), _, k.rd (by rfl), _, k.rd (by rfl), _, k.rd (by rfl), _, k.rd (by rfl), out 301 k (f1 (.inl hb3))⟩)
  refine cond_false rfl ⟨_, k.rd (by rfl), ?_⟩
  refine VSome.mk ⟨_, _, _, k.rd (by rfl), cond_split (fun hc => ?_) (fun hc => ?_)⟩
  · have hc : (l12 : Int) > 0 := of_decide_eq_true hc
    have hne : bs12 ≠ [] := fun e => by rw [e] at hl3; simp at hl3; omega
    exact k.vall (by rfl) (by rfl) fun _ k => ⟨_, k.rd (by rfl), _, k.rd (by rfl), _, k.rd (by rfl), _, k.rd (by rfl), _, _, _, k.rd (by rfl), _, _, _, k.rd (by rfl), _, _, _, k.rd (by rfl), _, _, _, k.rd (by rfl), _, k.rd (by rfl), _, k.rd (by rfl), _, k.rd (by rfl), _, k.rd (by rfl), out 301 k (f1 (.inr hne))⟩
  · have hc0 : ¬ (l12 : Int) > 0 := of_decide_eq_false hc
    have he : bs12 = [] := List.eq_nil_of_length_eq_zero (by omega)
    rw [f2 hb3 he]
    refine ⟨_, k.rd (by rfl), _, k.rd (by rfl), _, k.rd (by rfl), _, k.rd (by rfl), _, _, _, k.rd (by rfl), _, _, _, k.rd (by rfl), _, _, _, k.rd (by rfl), _, _, _, k.rd (by rfl), _, k.rd (by rfl), _, k.rd (by rfl), _, k.rd (by rfl), _, k.rd (by rfl), ?_⟩
    refine k.vall (by rfl) (by rfl) fun h130 k => ⟨_, k.rd (by rfl), _, k.rd (by rfl), _, k.rd (by rfl), _, k.rd (by rfl), _, _, _, k.rd (by rfl), _, _, _, k.rd (by rfl), _, _, _, k.rd (by rfl), _, _, _, k.rd (by rfl), _, k.rd (by rfl), _, k.rd (by rfl), _, k.rd (by rfl), _, k.rd (by rfl), ga, gc, ha, _, na, nc, ra, rc, rfl, ?_⟩
    exact St.only4 (k.sel 8 [5, 3, 2, 1, 0, 4, 6, 7] rfl (by decide) (L' := [_, _, _, _, _, _, _, _]) (by rfl))
end Go.Proofs.YtgdgebmlcgohhaaGreatDoor.F
/-! ## Package proto: streams. -/
namespace Go.Proofs.YtgdgebmlcgohhaaGreatDoor.F
open Go Go.VC Go.Proofs
set_option linter.unusedSimpArgs false
set_option linter.unusedVariables false
set_option maxRecDepth 100000
attribute [local irreducible] CallsH RunsTo PureTo

variable {S F G : Nat → Prop} {h0 h h1 : Heap} {L R L' : List A} {a b a1 a2 : Option Addr} {l c l1 c1 l2 c2 p t b1 : Nat} {bs cs bs1 bs2 w : List UInt8} {err e1 : Int} {v : Val} {bad bad1 sp : Bool}
/-! ### Lists of rows of bytes -/
structure Sb where
  a : Option Addr
  c : Nat
  bs : Bytes
def sbV (s : Sb) : List Value := [.slice s.a s.bs.length s.c]
abbrev bytE : El Bytes := ⟨Sb, Sb.bs, 36, 1, sbV, fun s => BV s.a s.bs.length s.c s.bs, fun _ => rfl, fun s v hv => by simp [sbV] at hv; subst hv; rfl, by omega,
  fun F h s => Ro F h s.a (bytesV s.bs), fun r m hf => r.at m hf, fun {_ _ _ _ s} k => (k.sl (a := s.a)).ro⟩
theorem T48 : SlTy Tryz.prog 24 36 1 24 (.slice none 0 0) := ⟨by kernel_rfl, by kernel_rfl, rfl, by omega, by omega⟩
/-! ### A stream in memory -/
def ST (p : Nat) (w : Bytes) (sp : Bool) : A := A.ex fun x : Option Addr × Nat => A.all [A.blk p #[.slice x.1 w.length x.2, .bool sp] 86, BV x.1 w.length x.2 w]
theorem ST.open (k : St S h0 h (ST p w sp :: R)) : ∃ a c, St S h0 h (A.blk p #[.slice a w.length c, .bool sp] 86 :: BV a w.length c w :: R) := by
  obtain ⟨x, k⟩ := St.opens k
  exact ⟨x.1, x.2, St.open (L := [A.blk p #[.slice x.1 w.length x.2, .bool sp] 86, BV x.1 w.length x.2 w]) k⟩
theorem ST.close (k : St S h0 h (A.blk p #[.slice a w.length c, .bool sp] 86 :: BV a w.length c w :: R)) : St S h0 h (ST p w sp :: R) :=
  St.closes (f := fun x : Option Addr × Nat => A.all [A.blk p #[.slice x.1 w.length x.2, .bool sp] 86, BV x.1 w.length x.2 w]) (x := (a, c)) (St.close (L := [A.blk p #[.slice a w.length c, .bool sp] 86, BV a w.length c w]) k)
theorem new_spec : CallsH Tryz.prog 10 #[] h (fun v h' => ∃ p, v = .pointer (some ⟨p, 0, none⟩) ∧ St none_ h h' [ST p [] false]) := by
  refine vf10 h _ ?_
  unfold F10
  refine (St.fresh h).vnew fun b1 h2 k => ⟨b1, rfl, ?_⟩
  have k : St none_ h h2 [A.blk b1 #[.slice none 0 0, .bool false] 86] := k
  exact ST.close (w := []) ((k.vnil 5 (sz := 1) (by omega)).pull1)
theorem rest_spec (k0 : Holds [ST p w sp] F h) : CallsH Tryz.prog 16 #[.pointer (some ⟨p, 0, none⟩)] h (fun v h' => v = .int .i64 (w.length : Int) ∧ h' = h) := by
  refine vf16 _ h _ ?_
  unfold F16
  obtain ⟨a, c, k⟩ := ST.open (St.start k0)
  exact VSome.mk ⟨_, _, _, k.rd (by rfl), rfl, rfl⟩
noncomputable def nextV (w : Bytes) (sp : Bool) : Bool × Bytes × Bytes × Bool := match nextF w with
  | .more => (false, [], w, sp)
  | .bad => (false, [], w, true)
  | .got q r => (true, q, r, sp)
theorem split4 {w : Bytes} (h : 4 ≤ w.length) : ∃ b0 b1 b2 b3 r, w = b0 :: b1 :: b2 :: b3 :: r := by
  match w, h with
  | b0 :: b1 :: b2 :: b3 :: r, _ => exact ⟨_, _, _, _, _, rfl⟩
theorem num4_lt (w : Bytes) : num4 w < 4294967296 := by
  unfold num4
  split
  · exact un4_lt _ _ _ _
  · omega
theorem fourth_w (hs : Sl h a (bytesV w)) (hl : w.length = l) (h4 : 4 ≤ l) (hb : l < 9223372036854775808) : CallsH Tryz.prog 97 #[.slice a l c] h (fun v h' => v = .int .u32 (num4 w : Nat) ∧ h' = h) := by
  obtain ⟨b0, b1, b2, b3, r, rfl⟩ := split4 (w := w) (by omega)
  simp only [List.length_cons] at hl
  exact fourth_spec hs (by omega) hb
theorem sum_ne {n : Nat} (hn : n < 4294967296) (h4 : 4 ≤ w.length) : ((n : Int) != ((num4 w : Nat) : Int)) = decide (be4 n ≠ w.take 4) := by
  obtain ⟨b0, b1, b2, b3, r, rfl⟩ := split4 h4
  have e : (b0 :: b1 :: b2 :: b3 :: r).take 4 = [b0, b1, b2, b3] := rfl
  have e2 : num4 (b0 :: b1 :: b2 :: b3 :: r) = un4 b0 b1 b2 b3 := rfl
  rw [e, e2]
  by_cases h : n = un4 b0 b1 b2 b3
  · rw [decide_eq_false (by rw [h, be4_un]; simp)]
    subst h; simp
  · rw [decide_eq_true]
    · have : (n : Int) ≠ (un4 b0 b1 b2 b3 : Nat) := by omega
      simpa using this
    · intro h2
      apply h
      have h3 := un4_be hn
      unfold be4 at h2
      simp only [List.cons.injEq, and_true] at h2
      obtain ⟨e0, e1, e2, e3⟩ := h2
      rw [← h3, e0, e1, e2, e3]
theorem next_spec (k0 : Holds [ST p w sp] F h) (hb : w.length ≤ 70368744177664) : CallsH Tryz.prog 39 #[.pointer (some ⟨p, 0, none⟩)] h
    (fun v h' => ∃ x c, v = .tuple #[.slice x (nextV w sp).2.1.length c, .bool (nextV w sp).1] ∧ St F h h' [ST p (nextV w sp).2.2.1 (nextV w sp).2.2.2, BV x (nextV w sp).2.1.length c (nextV w sp).2.1]) := by
  refine vf39 _ h _ ?_
  unfold F39
  obtain ⟨a, c, k⟩ := ST.open (St.start k0)
  obtain ⟨kv, _, hcc⟩ := St.vec (a := a) k
  have hle := kv.le
  have hro : Ro none_ h a (bytesV w) := (k.sl (a := a)).ro
  have no : ∀ {h' : Heap} {sp' : Bool}, nextV w sp = (false, [], w, sp') → St F h h' [A.blk p #[.slice a w.length c, .bool sp'] 86, BV a w.length c w] → ∃ x c', (Value.tuple #[.slice none 0 0, .bool false]) = .tuple #[.slice x (nextV w sp).2.1.length c', .bool (nextV w sp).1] ∧ St F h h' [ST p (nextV w sp).2.2.1 (nextV w sp).2.2.2, BV x (nextV w sp).2.1.length c' (nextV w sp).2.1] := fun e k => by
    rw [e]
    exact ⟨none, 0, rfl, ((ST.close k).vnil 5 (sz := 1) (by omega)).pull1⟩
  refine VSome.mk ⟨_, _, _, k.rd (by rfl), cond_split (fun hc => ?_) (fun hc => ?_)⟩
  · have hc : w.length < 4 := by
      have : (w.length : Int) < 4 := of_decide_eq_true hc
      omega
    exact no (by unfold nextV nextF; rw [if_pos hc]) k
  have h4 : ¬ w.length < 4 := by
    have : ¬ (w.length : Int) < 4 := of_decide_eq_false hc
    omega
  have hn := num4_lt w
  refine VSome.mk ⟨_, _, _, k.rd (by rfl), ?_⟩
  refine CallsH.mono (fourth_w (k.sl (a := a)) rfl (by omega) (by omega)) ?_
  rintro _ _ ⟨rfl, rfl⟩
  refine ⟨_, rfl, cond_split (fun hc => ?_) (fun hc => ?_)⟩
  · have hc : 65528 < num4 w := by
      have : ((num4 w : Nat) : Int) > 65528 := of_decide_eq_true hc
      omega
    exact VSome.mk (k.vst (Nat.le_of_ble_eq_true (by rfl)) fun h9 k => no (by unfold nextV nextF; rw [if_neg h4, if_pos hc]) k)
  have hm : ¬ 65528 < num4 w := by
    have : ¬ ((num4 w : Nat) : Int) > 65528 := of_decide_eq_false hc
    omega
  have e0 : IntKind.i64.wrap ((num4 w : Nat) : Int) = ((num4 w : Nat) : Int) := wrap_id (by omega) (by omega)
  have e1 : IntKind.i64.wrap (((num4 w : Nat) : Int) + 4) = ((num4 w + 4 : Nat) : Int) := by rw [wrap_id (by omega) (by omega)]; omega
  have e2 : IntKind.i64.wrap (((num4 w + 4 : Nat) : Int) + 4) = ((num4 w + 8 : Nat) : Int) := by rw [wrap_id (by omega) (by omega)]; omega
  rw [e0, e1, e2]
  refine VSome.mk ⟨_, _, _, k.rd (by rfl), cond_split (fun hc => ?_) (fun hc => ?_)⟩
  · have hc : w.length < num4 w + 8 := Int.ofNat_lt.1 (of_decide_eq_true hc)
    exact no (by unfold nextV nextF; rw [if_neg h4, if_neg hm, if_pos hc]) k
  have h8 : ¬ w.length < num4 w + 8 := fun h => (of_decide_eq_false hc) (Int.ofNat_lt.2 h)
  refine VSome.mk ⟨_, _, _, k.rd (by rfl), ?_⟩
  refine cutA (bs := w) rfl (lo := 0) (hi := num4 w + 4) (mx := c) rfl rfl rfl (by omega) (by omega) (by omega) (Nat.le_refl _) fun a14 r14 l14 => ?_
  rw [List.drop_zero, Nat.sub_zero] at l14
  rw [List.drop_zero] at r14
  refine VSome.mk ⟨_, _, _, k.rd (by rfl), ?_⟩
  refine cutA (bs := w) rfl (lo := num4 w + 4) (hi := w.length) (mx := c) rfl rfl rfl (by omega) (by omega) (by omega) (Nat.le_refl _) fun a17 r17 l17 => ?_
  rw [List.take_of_length_le (Nat.le_refl _)] at r17 l17
  refine CallsH.mono (sum_spec (r14 _ _ hro).sl l14 (by omega)) ?_
  rintro _ _ ⟨rfl, rfl⟩
  refine ⟨_, rfl, k.rd (by rfl), ?_⟩
  refine CallsH.mono (fourth_w (r17 _ _ hro).sl l17 (by omega) (by omega)) ?_
  rintro _ _ ⟨rfl, rfl⟩
  refine ⟨_, rfl, ?_⟩
  rw [sum_ne (adl_lt _) (by rw [l17]; omega)]
  refine cond_split (fun hc => ?_) (fun hc => ?_)
  · have hc := of_decide_eq_true hc
    exact VSome.mk (k.vst (Nat.le_of_ble_eq_true (by rfl)) fun h9 k => no (by unfold nextV nextF; rw [if_neg h4, if_neg hm, if_neg h8, if_pos hc]) k)
  have hsum := of_decide_eq_false hc
  have e : nextV w sp = (true, (w.drop 4).take (num4 w), w.drop (num4 w + 8), sp) := by unfold nextV nextF; rw [if_neg h4, if_neg hm, if_neg h8, if_neg hsum]
  rw [e]
  refine VSome.mk ⟨_, _, _, k.rd (by rfl), ?_⟩
  refine cutA (bs := w) rfl (lo := 4) (hi := num4 w + 4) (mx := c) rfl rfl rfl (by omega) (by omega) (by omega) (Nat.le_refl _) fun a28 r28 l28 => ?_
  have ed : (w.take (num4 w + 4)).drop 4 = (w.drop 4).take (num4 w) := by rw [List.drop_take]; congr 1
  rw [ed] at r28 l28
  refine CallsH.mono (clone_spec (r28 _ _ hro).sl l28 (by omega)) ?_
  rintro _ h30 ⟨a31, c31, rfl, k2⟩
  have k := k.add1 k2
  refine ⟨_, _, _, rfl, VSome.mk ⟨_, _, _, k.rd (by rfl), ?_⟩⟩
  refine k.pull2.cut (lo := num4 w + 8) (hi := w.length) (mx := c) rfl rfl rfl (by omega) (Nat.le_refl _) (by omega) (Nat.le_refl _) fun a34 k => VSome.mk (k.vst (Nat.le_of_ble_eq_true (by rfl)) fun h36 k => ?_)
  have k := k.pull2
  rw [bytesV_cut, List.take_of_length_le (Nat.le_refl _)] at k
  have el : w.length - (num4 w + 8) = (w.drop (num4 w + 8)).length := by rw [List.length_drop]
  have el2 : num4 w + 4 - 4 = ((w.drop 4).take (num4 w)).length := by rw [l28]
  rw [el] at k
  rw [el2] at k ⊢
  exact ⟨a31, c31, rfl, ST.close k⟩
noncomputable def feedR (w : Bytes) (sp : Bool) (b : Bytes) : List Bytes × Int × Bytes × Bool :=
  if sp then ([], 300, w, true) else ((cut (w ++ b)).1, if (cut (w ++ b)).2.2 then 300 else 0, (cut (w ++ b)).2.1, (cut (w ++ b)).2.2)
theorem cut_bad_rest : ∀ (n : Nat) (w : Bytes), w.length < n → (cut w).2.2 = true → (cut w).2.1 = []
  | 0, _, h, _ => absurd h (Nat.not_lt_zero _)
  | n + 1, w, h, hs => by
    cases hn : nextF w with
    | more => rw [cut_more hn] at hs; cases hs
    | bad => rw [cut_bad hn]
    | got p r =>
      have := (next_got (x := []) hn).2
      rw [cut_got hn] at hs ⊢
      exact cut_bad_rest n r (by omega) hs
theorem cuts_len : ∀ (n : Nat) (w : Bytes), w.length < n → (cut w).1.length ≤ w.length ∧ (cut w).2.1.length ≤ w.length
  | 0, _, h => absurd h (Nat.not_lt_zero _)
  | n + 1, w, h => by
    cases hn : nextF w with
    | more => rw [cut_more hn]; simp
    | bad => rw [cut_bad hn]; simp
    | got p r =>
      have := (next_got (x := []) hn).2
      rw [cut_got hn]
      have := cuts_len n r (by omega)
      simp only [List.length_cons]; omega
theorem feed_spec (k0 : Holds [ST p w sp] F h) (hs : Ro F h b (bytesV bs)) (hl : bs.length = l) (hb : w.length + l ≤ 1099511627776) : CallsH Tryz.prog 12 #[.pointer (some ⟨p, 0, none⟩), .slice b l c] h
    (fun v h' => ∃ x c', v = .tuple #[.slice x (feedR w sp bs).1.length c', .int .i64 (feedR w sp bs).2.1] ∧ St F h h' [ST p (feedR w sp bs).2.2.1 (feedR w sp bs).2.2.2, bytE.L x (feedR w sp bs).1.length c' (feedR w sp bs).1]) := by
  subst hl
  refine vf12 _ _ _ _ h _ ?_
  unfold F12
  obtain ⟨a, c0, k⟩ := ST.open (St.start k0)
  refine VSome.mk ⟨_, k.rd (by rfl), ?_⟩
  cases hsp : sp
  rotate_left
  · subst hsp
    exact cond_true rfl ⟨none, 0, rfl, (El.nil bytE (ST.close k)).pull1⟩
  subst hsp
  refine cond_false rfl (VSome.mk ⟨_, _, _, k.rd (by rfl), ?_⟩)
  refine CallsH.mono (clone_spec (k.sl (a := a)) rfl (by omega)) ?_
  rintro _ h6 ⟨a7, c7, rfl, k2⟩
  have k := k.add1 k2
  refine ⟨_, _, _, rfl, ?_⟩
  refine app_bytes (s := bs) k (hs.in k).sl (by omega) fun a10 c10 h9 k => ⟨_, _, _, rfl, VSome.mk (k.vst (Nat.le_of_ble_eq_true (by rfl)) fun h12 k => ?_)⟩
  have k := k.pull1.only2
  have hWl : (w ++ bs).length = w.length + bs.length := List.length_append
  rw [← hWl] at k hb
  have k := ST.close k
  have e : feedR w false bs = ((cut (w ++ bs)).1, if (cut (w ++ bs)).2.2 then 300 else 0, (cut (w ++ bs)).2.1, (cut (w ++ bs)).2.2) := rfl
  rw [e]
  have hlen := cuts_len _ (w ++ bs) (Nat.lt_succ_self _)
  generalize w ++ bs = W at k hb hlen ⊢
  clear e hWl
  obtain ⟨F', G, kF, kG, d, hF, back⟩ := k.frame2
  refine CallsH.mono (next_spec kF (by omega)) ?_
  rintro _ h14 ⟨x, cx, rfl, k2⟩
  have k := back k2
  clear back kF kG d hF
  -- what a round of next leaves
  have step : ∀ (w' : Bytes), (∀ ps, cut W = (ps ++ (cut w').1, (cut w').2) → (nextV w' false).1 = true ∧ (nextV w' false).2.2.2 = false ∧ (nextV w' false).2.2.1.length < w'.length ∧ cut W = (ps ++ (nextV w' false).2.1 :: (cut (nextV w' false).2.2.1).1, (cut (nextV w' false).2.2.1).2) ∨
      (nextV w' false).1 = false ∧ (nextV w' false).2.2.2 = false ∧ cut W = (ps, (nextV w' false).2.2.1, false) ∨ (nextV w' false).1 = false ∧ (nextV w' false).2.2.2 = true ∧ cut W = (ps, [], true)) := fun w' ps hps => by
    unfold nextV
    cases hn : nextF w' with
    | more => rw [cut_more hn, List.append_nil] at hps; exact .inr (.inl ⟨rfl, rfl, hps⟩)
    | bad => rw [cut_bad hn, List.append_nil] at hps; exact .inr (.inr ⟨rfl, rfl, hps⟩)
    | got q r =>
      have := (next_got (x := []) hn).2
      rw [cut_got hn] at hps
      exact .inl ⟨rfl, rfl, this, hps⟩
  refine ⟨_, _, _, _, rfl, fun m h' o lo co q lq cq ok => ∃ (ps : List Bytes) (pl w' : Bytes) (sp' : Bool), lo = ps.length ∧ lq = pl.length ∧ m = (if ok then w'.length + 1 else 0) ∧ w'.length ≤ W.length ∧ (ps.length + if ok then 1 else 0) ≤ (cut W).1.length ∧
    ((ok = true ∧ sp' = false ∧ cut W = (ps ++ pl :: (cut w').1, (cut w').2)) ∨ (ok = false ∧ sp' = false ∧ cut W = (ps, w', false)) ∨ (ok = false ∧ sp' = true ∧ cut W = (ps, [], true))) ∧ St F h h' [ST p w' sp', BV q pl.length cq pl, bytE.L o ps.length co ps],
    ⟨_, [], (nextV W false).2.1, (nextV W false).2.2.1, (nextV W false).2.2.2, rfl, rfl, rfl, ?_, ?_, ?_, (El.nil bytE k).pull1.pull2.pull1⟩, ?_⟩
  · rcases step W [] rfl with ⟨_, _, h3, _⟩ | ⟨_, _, h3⟩ | ⟨h1, h2, h3⟩
    · omega
    · have := hlen.2; rw [h3] at this; exact this
    · unfold nextV at h1 h2 ⊢
      cases hn : nextF W with
      | more => exact Nat.le_refl _
      | bad => exact Nat.le_refl _
      | got q r => rw [hn] at h1; cases h1
  · rcases step W [] rfl with ⟨h1, _, h3, h4⟩ | ⟨h1, _, h3⟩ | ⟨h1, h2, h3⟩
    · rw [h1, h4]; simp
    · rw [h1]; simp
    · rw [h1]; simp
  · rcases step W [] rfl with ⟨h1, h2, _, h4⟩ | h | h
    · exact .inl ⟨h1, h2, h4⟩
    · exact .inr (.inl h)
    · exact .inr (.inr h)
  clear k
  rintro m h19 _ o lo co q lq cq ok ⟨ps, pl, w', sp', rfl, rfl, rfl, hw', hps, hcase, k⟩
  rcases hcase with ⟨rfl, rfl, hcut⟩ | ⟨rfl, rfl, hcut⟩ | ⟨rfl, rfl, hcut⟩
  · refine cond_true rfl (k.vnew fun b25 h26 k => ?_)
    have k := k.sel 4 [0, 2, 3, 1] rfl (by decide) (L' := [A.blk b25 (bytE.cells ⟨q, cq, pl⟩).toArray bytE.e, bytE.own ⟨q, cq, pl⟩, bytE.L o ps.length co ps, _]) (by rfl)
    simp only [if_true] at hps
    refine El.app (E := bytE) T48 k (by omega) fun o' co' h28 k => ⟨_, _, _, rfl, ?_⟩
    obtain ⟨F', G, kF, kG, d, hF, back⟩ := k.pull1.frame2
    refine CallsH.mono (next_spec kF (by omega)) ?_
    rintro _ h31 ⟨x, cx, rfl, k2⟩
    have k := back k2
    have hst := step w' (ps ++ [pl]) (by rw [hcut, List.append_assoc]; rfl)
    have ep : (ps ++ [pl]).length = ps.length + 1 := by simp
    refine ⟨_, _, _, _, rfl, _, ?_, ps ++ [pl], (nextV w' false).2.1, (nextV w' false).2.2.1, (nextV w' false).2.2.2, ep.symm, rfl, rfl, ?_, ?_, ?_, by rw [ep]; exact k⟩
    · rcases hst with ⟨h1, _, h3, _⟩ | ⟨h1, _⟩ | ⟨h1, _⟩
      · rw [h1]; simp only [if_true]; omega
      · rw [h1]; simp
      · rw [h1]; simp
    · unfold nextV
      cases hn : nextF w' with
      | more => exact hw'
      | bad => exact hw'
      | got q r =>
        have := (next_got (x := []) hn).2
        show r.length ≤ _
        omega
    · rcases hst with ⟨h1, _, h3, h4⟩ | ⟨h1, _, h3⟩ | ⟨h1, _, h3⟩
      · rw [h1, h4, if_pos rfl]; simp only [List.length_append, List.length_cons, List.length_nil]; omega
      · rw [h1, h3]; simp
      · rw [h1, h3]; simp
    · rcases hst with ⟨h1, h2, _, h4⟩ | h | h
      · exact .inl ⟨h1, h2, h4⟩
      · exact .inr (.inl h)
      · exact .inr (.inr h)
  · obtain ⟨a, c1, k⟩ := ST.open k
    refine cond_false rfl (VSome.mk ⟨_, k.rd (by rfl), cond_false rfl ?_⟩)
    rw [hcut]
    have k := (ST.close k).pull1.drop
    exact ⟨o, co, rfl, k⟩
  · obtain ⟨a, c1, k⟩ := ST.open k
    refine cond_false rfl (VSome.mk ⟨_, k.rd (by rfl), cond_true rfl (VSome.mk (k.vst (Nat.le_of_ble_eq_true (by rfl)) fun h37 k => ?_))⟩)
    rw [hcut]
    have k := k.pull1.drop
    have k : St F h h37 [A.blk p #[.slice none 0 0, .bool true] 86, BV q pl.length cq pl, bytE.L o ps.length co ps] := k
    have k := ST.close (w := []) ((k.vnil 5 (sz := 1) (by omega)).pull1)
    exact ⟨o, co, rfl, k.pull1.drop⟩
end Go.Proofs.YtgdgebmlcgohhaaGreatDoor.F
/-! ## The laws of proto: comparing. -/
namespace Go.Proofs.YtgdgebmlcgohhaaGreatDoor.F
open Go Go.VC Go.Proofs
set_option linter.unusedSimpArgs false
set_option linter.unusedVariables false
set_option maxRecDepth 100000
attribute [local irreducible] CallsH RunsTo PureTo

variable {S F G : Nat → Prop} {h0 h h1 : Heap} {L R L' : List A} {a b a1 a2 na ea nb eb : Option Addr} {l c l1 c1 l2 c2 p t b1 nc ec nd ed : Nat} {bs cs bs1 bs2 w : List UInt8} {err e1 : Int} {v : Val} {bad bad1 sp : Bool}
theorem take_ne {α : Type} {xs ys : List α} {j : Nat} {x y : α} (hx : xs[j]? = some x) (hy : ys[j]? = some y) (h : x ≠ y) : xs ≠ ys := fun e => by
  subst e
  rw [hx] at hy
  exact h (Option.some.inj hy)
theorem take_eq {α : Type} {xs ys : List α} {j : Nat} {x y : α} (hx : xs[j]? = some x) (hy : ys[j]? = some y) (he : xs.take j = ys.take j) (h : x = y) : xs.take (j + 1) = ys.take (j + 1) := by rw [take_next hx, take_next hy, he, h]
theorem texts_eq {xs ys : List Bytes} (hs : RoX texE none_ h a l xs) (ht : RoX texE none_ h b l2 ys) (hb : l < 9223372036854775807) : CallsH Tryz.prog 57 #[.slice a l c, .slice b l2 c2] h (fun v h' => v = .bool (decide (xs = ys)) ∧ h' = h) := by
  refine vf57 _ _ _ _ _ _ h _ ?_
  unfold F57
  have hl := hs.len
  have hl2 := ht.len
  refine cond_split (fun hc => ?_) (fun hc => ?_)
  · have hne : (l : Int) ≠ l2 := by simpa using hc
    refine ⟨?_, rfl⟩
    rw [decide_eq_false (fun e => hne (by subst e; omega))]
  have hll : l = l2 := by
    have : (l : Int) = l2 := by simpa using hc
    omega
  subst hll
  clear hc
  refine ⟨fun n hh _ i => ∃ j : Nat, i = j ∧ j ≤ l ∧ n = l - j ∧ hh = h ∧ xs.take j = ys.take j, ⟨_, 0, rfl, by omega, rfl, rfl, rfl⟩, ?_⟩
  rintro n hh _ _ i ⟨j, rfl, hj, rfl, rfl, he⟩
  refine cond_split (fun hc => ?_) (fun hc => ?_)
  · have hjl : j < l := Int.ofNat_lt.1 (of_decide_eq_true hc)
    refine hs.one (.refl _ _) (by omega) (by omega) fun ad x hx hcx _ => ⟨_, hcx 0 _ rfl, ?_⟩
    refine ht.one (.refl _ _) (by omega) (by omega) fun ad y hy hcy _ => ⟨_, hcy 0 _ rfl, ?_⟩
    rw [Int.toNat_natCast] at hx hy
    rw [eqStr]
    refine cond_split (fun hd => ?_) (fun hd => ?_)
    · have hne : x ≠ y := by simpa using hd
      exact ⟨by rw [decide_eq_false (take_ne hx hy hne)], rfl⟩
    · have hxy : x = y := by simpa using hd
      exact ⟨_, by omega, j + 1, wrap_nat hjl (by omega), hjl, rfl, rfl, take_eq hx hy he hxy⟩
  · have hjl : j = l := by
      have : ¬ (j : Int) < l := of_decide_eq_false hc
      omega
    subst hjl
    rw [List.take_of_length_le (by omega), List.take_of_length_le (by omega)] at he
    exact ⟨by rw [decide_eq_true he], rfl⟩
theorem vals_eq {vs ws : List Val} (hs : Sl h a (vs.flatMap valV)) (hl : vs.length = l) (ht : Sl h b (ws.flatMap valV)) (hl2 : ws.length = l2) (hb : l < 9223372036854775807) : CallsH Tryz.prog 59 #[.slice a l c, .slice b l2 c2] h (fun v h' => v = .bool (decide (vs = ws)) ∧ h' = h) := by
  refine vf59 _ _ _ _ _ _ h _ ?_
  unfold F59
  refine cond_split (fun hc => ?_) (fun hc => ?_)
  · have hne : (l : Int) ≠ l2 := by simpa using hc
    refine ⟨?_, rfl⟩
    rw [decide_eq_false (fun e => hne (by subst e; omega))]
  have hll : l = l2 := by
    have : (l : Int) = l2 := by simpa using hc
    omega
  subst hll
  clear hc
  refine ⟨fun n hh _ i => ∃ j : Nat, i = j ∧ j ≤ l ∧ n = l - j ∧ hh = h ∧ vs.take j = ws.take j, ⟨_, 0, rfl, by omega, rfl, rfl, rfl⟩, ?_⟩
  rintro n hh _ _ i ⟨j, rfl, hj, rfl, rfl, he⟩
  refine cond_split (fun hc => ?_) (fun hc => ?_)
  · have hjl : j < l := Int.ofNat_lt.1 (of_decide_eq_true hc)
    refine valRow hs hl (by omega) (by omega) fun ad x hx c0 c1 c2 c3 => ⟨_, c0, _, c1, _, c2, _, c3, ?_⟩
    refine valRow ht hl2 (by omega) (by omega) fun ad y hy d0 d1 d2 d3 => ⟨_, d0, _, d1, _, d2, _, d3, ?_⟩
    rw [Int.toNat_natCast] at hx hy
    refine val_neq (x := x) (y := y) ⟨_, rfl, cond_split (fun hd => ?_) (fun hd => ?_)⟩
    · have hne : x ≠ y := by simpa using hd
      exact ⟨by rw [decide_eq_false (take_ne hx hy hne)], rfl⟩
    · have hxy : x = y := by simpa using hd
      exact ⟨_, by omega, j + 1, wrap_nat hjl (by omega), hjl, rfl, rfl, take_eq hx hy he hxy⟩
  · have hjl : j = l := by
      have : ¬ (j : Int) < l := of_decide_eq_false hc
      omega
    subst hjl
    rw [List.take_of_length_le (by omega), List.take_of_length_le (by omega)] at he
    exact ⟨by rw [decide_eq_true he], rfl⟩
theorem lists_eq {xs ys : List Bytes} (hs : RoX bytE none_ h a l xs) (ht : RoX bytE none_ h b l2 ys) (hb : l < 9223372036854775807) (hbs : ∀ x ∈ xs, x.length < 9223372036854775807) : CallsH Tryz.prog 13 #[.slice a l c, .slice b l2 c2] h (fun v h' => v = .bool (decide (xs = ys)) ∧ h' = h) := by
  refine vf13 _ _ _ _ _ _ h _ ?_
  unfold F13
  have hl := hs.len
  have hl2 := ht.len
  refine cond_split (fun hc => ?_) (fun hc => ?_)
  · have hne : (l : Int) ≠ l2 := by simpa using hc
    refine ⟨?_, rfl⟩
    rw [decide_eq_false (fun e => hne (by subst e; omega))]
  have hll : l = l2 := by
    have : (l : Int) = l2 := by simpa using hc
    omega
  subst hll
  clear hc
  refine ⟨fun n hh _ i => ∃ j : Nat, i = j ∧ j ≤ l ∧ n = l - j ∧ hh = h ∧ xs.take j = ys.take j, ⟨_, 0, rfl, by omega, rfl, rfl, rfl⟩, ?_⟩
  rintro n hh _ _ i ⟨j, rfl, hj, rfl, rfl, he⟩
  refine cond_split (fun hc => ?_) (fun hc => ?_)
  · have hjl : j < l := Int.ofNat_lt.1 (of_decide_eq_true hc)
    refine hs.one (.refl _ _) (by omega) (by omega) fun ad x hx hcx rx => ⟨_, _, _, hcx 0 _ rfl, ?_⟩
    refine ht.one (.refl _ _) (by omega) (by omega) fun ad y hy hcy ry => ⟨_, _, _, hcy 0 _ rfl, ?_⟩
    rw [Int.toNat_natCast] at hx hy
    refine CallsH.mono (same_spec rx.sl rfl ry.sl rfl (hbs _ (List.mem_of_getElem? hx))) ?_
    rintro _ _ ⟨rfl, rfl⟩
    refine ⟨_, rfl, cond_split (fun hd => ?_) (fun hd => ?_)⟩
    · have hne : x.bs ≠ y.bs := by simpa using hd
      exact ⟨by rw [decide_eq_false (take_ne hx hy hne)], rfl⟩
    · have hxy : x.bs = y.bs := by simpa using hd
      exact ⟨_, by omega, j + 1, wrap_nat hjl (by omega), hjl, rfl, rfl, take_eq hx hy he hxy⟩
  · have hjl : j = l := by
      have : ¬ (j : Int) < l := of_decide_eq_false hc
      omega
    subst hjl
    rw [List.take_of_length_le (by omega), List.take_of_length_le (by omega)] at he
    exact ⟨by rw [decide_eq_true he], rfl⟩
theorem ne_int (x y : Int) : (x != y) = decide (x ≠ y) := by
  by_cases h : x = y <;> simp [h]
theorem eq_int (x y : Int) : (x == y) = decide (x = y) := by
  by_cases h : x = y <;> simp [h]
theorem events_eq {xs ys : List Ev} (hs : RoX evE none_ h a l xs) (ht : RoX evE none_ h b l2 ys) (hb : l < 9223372036854775807) (hbs : ∀ x ∈ xs, x.vs.length < 9223372036854775807) : CallsH Tryz.prog 58 #[.slice a l c, .slice b l2 c2] h (fun v h' => v = .bool (decide (xs = ys)) ∧ h' = h) := by
  refine vf58 _ _ _ _ _ _ h _ ?_
  unfold F58
  have hl := hs.len
  have hl2 := ht.len
  refine cond_split (fun hc => ?_) (fun hc => ?_)
  · have hne : (l : Int) ≠ l2 := by simpa using hc
    refine ⟨?_, rfl⟩
    rw [decide_eq_false (fun e => hne (by subst e; omega))]
  have hll : l = l2 := by
    have : (l : Int) = l2 := by simpa using hc
    omega
  subst hll
  clear hc
  refine ⟨fun n hh _ i => ∃ j : Nat, i = j ∧ j ≤ l ∧ n = l - j ∧ hh = h ∧ xs.take j = ys.take j, ⟨_, 0, rfl, by omega, rfl, rfl, rfl⟩, ?_⟩
  rintro n hh _ _ i ⟨j, rfl, hj, rfl, rfl, he⟩
  refine cond_split (fun hc => ?_) (fun hc => ?_)
  · have hjl : j < l := Int.ofNat_lt.1 (of_decide_eq_true hc)
    refine hs.one (.refl _ _) (by omega) (by omega) fun ad x hx hcx rx => ⟨_, _, _, hcx 2 _ rfl, ?_⟩
    refine ht.one (.refl _ _) (by omega) (by omega) fun ad y hy hcy ry => ⟨_, _, _, hcy 2 _ rfl, ?_⟩
    rw [Int.toNat_natCast] at hx hy
    refine CallsH.mono (vals_eq rx.sl rfl ry.sl rfl (hbs _ (List.mem_of_getElem? hx))) ?_
    rintro _ _ ⟨rfl, rfl⟩
    refine ⟨_, rfl, cond_split (fun hd => ?_) (fun hd => ?_)⟩
    · have hne : x.e.vs ≠ y.e.vs := by simpa using hd
      exact ⟨by rw [decide_eq_false (take_ne hx hy fun e => hne (congrArg Ev.vs e))], rfl⟩
    have h1 : x.e.vs = y.e.vs := by simpa using hd
    refine hs.one (.refl _ _) (by omega) (by omega) fun ad x1 hx1 hcx1 _ => ⟨_, hcx1 0 _ rfl, ?_⟩
    refine ht.one (.refl _ _) (by omega) (by omega) fun ad y1 hy1 hcy1 _ => ⟨_, hcy1 0 _ rfl, ?_⟩
    rw [Int.toNat_natCast] at hx1 hy1
    have ex1 : x1.e = x.e := Option.some.inj (hx1.symm.trans hx)
    have ey1 : y1.e = y.e := Option.some.inj (hy1.symm.trans hy)
    rw [eqStr, ex1, ey1]
    refine cond_split (fun hd => ?_) (fun hd => ?_)
    · have hne : x.e.t ≠ y.e.t := by simpa using hd
      exact ⟨by rw [decide_eq_false (take_ne hx hy fun e => hne (congrArg Ev.t e))], rfl⟩
    have h2 : x.e.t = y.e.t := by simpa using hd
    refine hs.one (.refl _ _) (by omega) (by omega) fun ad x2 hx2 hcx2 _ => ⟨_, hcx2 1 _ rfl, ?_⟩
    refine ht.one (.refl _ _) (by omega) (by omega) fun ad y2 hy2 hcy2 _ => ⟨_, hcy2 1 _ rfl, ?_⟩
    rw [Int.toNat_natCast] at hx2 hy2
    have ex2 : x2.e = x.e := Option.some.inj (hx2.symm.trans hx)
    have ey2 : y2.e = y.e := Option.some.inj (hy2.symm.trans hy)
    rw [ex2, ey2, ne_int]
    refine cond_split (fun hd => ?_) (fun hd => ?_)
    · have hne : x.e.tm ≠ y.e.tm := of_decide_eq_true hd
      exact ⟨by rw [decide_eq_false (take_ne hx hy fun e => hne (congrArg Ev.tm e))], rfl⟩
    have h3 : x.e.tm = y.e.tm := by simpa using hd
    have hxy : x.e = y.e := by
      cases hxe : x.e; cases hye : y.e
      rw [hxe, hye] at h1 h2 h3
      simp only at h1 h2 h3
      rw [h1, h2, h3]
    exact ⟨_, by omega, j + 1, wrap_nat hjl (by omega), hjl, rfl, rfl, take_eq hx hy he hxy⟩
  · have hjl : j = l := by
      have : ¬ (j : Int) < l := of_decide_eq_false hc
      omega
    subst hjl
    rw [List.take_of_length_le (by omega), List.take_of_length_le (by omega)] at he
    exact ⟨by rw [decide_eq_true he], rfl⟩
theorem RqRo.in {q : Rq} (k : RqRo S h0 q na ea) (s : St S h0 h L) : RqRo none_ h q na ea := k.at s.ext fun _ h => h.elim
theorem RpRo.in {q : Rp} {ga ha na ra : Option Addr} (k : RpRo S h0 q ga ha na ra) (s : St S h0 h L) : RpRo none_ h q ga ha na ra := k.at s.ext fun _ h => h.elim
theorem requests_eq {q1 q2 : Rq} (hs : RqRo none_ h q1 na ea) (ht : RqRo none_ h q2 nb eb) (hb1 : q1.names.length < 9223372036854775807) (hb2 : q1.evs.length < 9223372036854775807) (hbs : ∀ x ∈ q1.evs, x.vs.length < 9223372036854775807) :
    CallsH Tryz.prog 20 #[aggQ q1 na nc ea ec, aggQ q2 nb nd eb ed] h (fun v h' => v = .bool (decide (q1 = q2)) ∧ Ext h h') := by
  refine vf20 _ _ _ _ _ _ _ _ _ _ _ _ _ _ _ _ _ _ _ _ h _ ?_
  unfold F20
  have k := St.fresh h
  have key : decide (q1 = q2) = (decide (q1.names = q2.names) && (decide (q1.evs = q2.evs) && (decide (q1.id = q2.id) && (decide (q1.k = q2.k) && (decide (q1.name = q2.name) && decide (q1.text = q2.text)))))) := by
    cases q1; cases q2
    rw [Bool.eq_iff_iff]
    simp [Rq.mk.injEq]
    constructor
    · rintro ⟨a, b, c, d, e, f⟩; exact ⟨e, f, a, b, c, d⟩
    · rintro ⟨e, f, a, b, c, d⟩; exact ⟨a, b, c, d, e, f⟩
  refine k.vnew fun b1 h2 k => k.vnew fun b3 h4 k => ⟨_, _, _, k.rd (by rfl), _, _, _, k.rd (by rfl), ?_⟩
  have hs := hs.in k
  have ht := ht.in k
  refine CallsH.mono (texts_eq (hs.names) (ht.names) hb1) ?_
  rintro _ _ ⟨rfl, rfl⟩
  refine ⟨_, rfl, _, _, _, k.rd (by rfl), _, _, _, k.rd (by rfl), ?_⟩
  refine CallsH.mono (events_eq (hs.evs) (ht.evs) hb2 hbs) ?_
  rintro _ _ ⟨rfl, rfl⟩
  refine ⟨_, rfl, ?_⟩
  have eid : (((q1.id : Nat) : Int) == ((q2.id : Nat) : Int)) = decide (q1.id = q2.id) := by rw [eq_int]; exact decide_eq_decide.2 Int.ofNat_inj
  rw [key]
  refine cond_split (fun h1 => ?_) (fun h1 => ⟨by rw [h1]; rfl, k.ext⟩)
  refine cond_split (fun h2 => ?_) (fun h2 => ⟨by rw [h2]; simp, k.ext⟩)
  refine ⟨_, k.rd (by rfl), _, k.rd (by rfl), cond_split (fun h3 => ?_) (fun h3 => ⟨by rw [← eid, h3]; simp, k.ext⟩)⟩
  refine ⟨_, k.rd (by rfl), _, k.rd (by rfl), cond_split (fun h4 => ?_) (fun h4 => ⟨by rw [← eq_int q1.k, h4]; simp, k.ext⟩)⟩
  refine ⟨_, k.rd (by rfl), _, k.rd (by rfl), ?_⟩
  rw [eqStr]
  refine cond_split (fun h5 => ?_) (fun h5 => ⟨by rw [h5]; simp, k.ext⟩)
  refine ⟨_, k.rd (by rfl), _, k.rd (by rfl), ?_⟩
  rw [eqStr, h1, h2, h5, ← eid, h3, ← eq_int q1.k, h4]
  exact ⟨by simp, k.ext⟩
/-! ### Replies -/
def statV (q : Rp) : List Value := [.int .i64 q.since, .int .i64 q.open_, .int .i64 q.nodes, .bool q.over]
theorem und32 : Tryz.prog.underlying 63 = some (.struct (Tryz.prog.fieldsOf 63)) := by kernel_rfl
def eqS (a b : Rp) : Bool := (a.since == b.since) && ((a.open_ == b.open_) && ((a.nodes == b.nodes) && ((a.over == b.over) && true)))
theorem stat_fields (x y : Rp) (w : World) : (Op.eqFields 9999 (statV x).toArray (statV y).toArray (Tryz.prog.fieldsOf 63).toList).run Tryz.prog w = .ok (eqS x y) w := by
  have e : (Tryz.prog.fieldsOf 63).toList = [Field.mk "Since" 2 0 false "" "" 0, Field.mk "Open" 3 1 false "" "" 8, Field.mk "Nodes" 3 2 false "" "" 16, Field.mk "Over" 4 3 false "" "" 24] := by kernel_rfl
  rw [e]
  unfold eqS
  exact eqF_cons rfl (by kernel_rfl) (by kernel_rfl) (run_equalIn_int w _ _ .i64 _ _ _ und2i) (eqF_cons rfl (by kernel_rfl) (by kernel_rfl) (run_equalIn_int w _ _ .i64 _ _ _ und3i) (eqF_cons rfl (by kernel_rfl) (by kernel_rfl) (run_equalIn_int w _ _ .i64 _ _ _ und3i) (eqF_cons rfl (by kernel_rfl) (by kernel_rfl) (run_equalIn_bool' w _ _ _ _ und4b) eqF_nil)))
theorem stat_eql {x y : Rp} {o1 o2 : Operand} {R : Value → Prop} (q : R (.bool (eqS x y))) : PureTo Tryz.prog (do eqGuard .eql 63 o1 o2 (.agg (statV x).toArray) (.agg (statV y).toArray); binOp .eql 63 (.agg (statV x).toArray) (.agg (statV y).toArray)) R :=
  eql_struct (fs := Tryz.prog.fieldsOf 63) und32 (by kernel_rfl) (by kernel_rfl) (stat_fields x y) q
theorem rp_key (q1 q2 : Rp) : decide (q1 = q2) = (decide (q1.errs = q2.errs) && (decide (q1.hits = q2.hits) && (decide (q1.rows = q2.rows) && (decide (q1.names = q2.names) && (decide (q1.id = q2.id) && ((q1.note == q2.note) && (decide (q1.err = q2.err) && (decide (q1.at_ = q2.at_) && eqS q1 q2)))))))) := by
  unfold eqS
  cases q1; cases q2
  rw [Bool.eq_iff_iff]
  simp [Rp.mk.injEq]
  constructor
  · rintro ⟨a, b, c, d, e, f, g, h, i, j, k, l⟩; exact ⟨e, f, h, g, a, b, c, d, i, j, k, l⟩
  · rintro ⟨e, f, h, g, a, b, c, d, i, j, k, l⟩; exact ⟨a, b, c, d, e, f, g, h, i, j, k, l⟩
theorem len_ne {α : Type} [DecidableEq α] {xs ys : List α} (h : ((xs.length : Int) != (ys.length : Int)) = true) : decide (xs = ys) = false :=
  decide_eq_false fun e => by subst e; simp at h
theorem len_eq {α : Type} {xs ys : List α} (h : ((xs.length : Int) != (ys.length : Int)) = false) : xs.length = ys.length := by
  have : (xs.length : Int) = ys.length := by simpa using h
  omega
/-- What is asked of a reply's size, to be compared. -/
structure RpSz (q : Rp) : Prop where
  errs : q.errs.length < 9223372036854775807
  hits : q.hits.length < 9223372036854775807
  names : q.names.length < 9223372036854775807
  rows : q.rows.length < 9223372036854775807
  hit : ∀ x ∈ q.hits, x.row.length < 9223372036854775807
  row : ∀ x ∈ q.rows, x.length < 9223372036854775807
set_option maxHeartbeats 1000000 in
theorem replies_eq {q1 q2 : Rp} {ga ha na ra gb hb nb rb : Option Addr} {gc hc nc rc gd hd nd rd : Nat} (hs : RpRo none_ h q1 ga ha na ra) (ht : RpRo none_ h q2 gb hb nb rb) (sz : RpSz q1) :
    CallsH Tryz.prog 21 #[aggP q1 ga gc ha hc na nc ra rc, aggP q2 gb gd hb hd nb nd rb rd] h (fun v h' => v = .bool (decide (q1 = q2)) ∧ Ext h h') := by
  refine vf21 _ _ _ _ _ _ _ _ _ _ _ _ _ _ _ _ _ _ _ _ _ _ _ _ _ _ _ _ _ _ _ _ _ _ _ _ _ _ _ _ h _ ?_
  unfold F21
  have k := St.fresh h
  rw [rp_key]
  refine k.vnew fun b1 h2 k => k.vnew fun b3 h4 k => ⟨_, _, _, k.rd (by rfl), _, _, _, k.rd (by rfl), ?_⟩
  have hs := hs.in k
  have ht := ht.in k
  refine cond_split (fun hl => ⟨by rw [len_ne hl]; rfl, k.ext⟩) (fun hl => ?_)
  have hl1 := len_eq hl
  clear hl
  refine ⟨_, _, _, k.rd (by rfl), _, _, _, k.rd (by rfl), cond_split (fun hl => ⟨by rw [len_ne hl]; simp, k.ext⟩) (fun hl => ?_)⟩
  have hl2 := len_eq hl
  clear hl
  refine ⟨_, _, _, k.rd (by rfl), _, _, _, k.rd (by rfl), cond_split (fun hl => ⟨by rw [len_ne hl]; simp, k.ext⟩) (fun hl => ?_)⟩
  have hl3 := len_eq hl
  clear hl
  refine ⟨fun n hh _ i => ∃ j : Nat, i = j ∧ j ≤ q1.errs.length ∧ n = q1.errs.length - j ∧ hh = h4 ∧ q1.errs.take j = q2.errs.take j, ⟨_, 0, rfl, by omega, rfl, rfl, rfl⟩, ?_⟩
  rintro n hh _ _ i ⟨j, rfl, hj, rfl, rfl, he⟩
  have z1 := sz.errs
  refine ⟨_, _, _, k.rd (by rfl), cond_split (fun hc => ?_) (fun hc => ?_)⟩
  · have hjl : j < q1.errs.length := Int.ofNat_lt.1 (of_decide_eq_true hc)
    refine ⟨_, _, _, k.rd (by rfl), hs.errs.one (.refl _ _) (by omega) (by omega) fun ad x hx hcx _ => ⟨_, hcx 0 _ rfl, _, _, _, k.rd (by rfl), ?_⟩⟩
    refine ht.errs.one (.refl _ _) (by omega) (by omega) fun ad y hy hcy _ => ⟨_, hcy 0 _ rfl, ?_⟩
    rw [Int.toNat_natCast] at hx hy
    rw [ne_int]
    refine cond_split (fun hd => ?_) (fun hd => ?_)
    · have hne : x ≠ y := of_decide_eq_true hd
      exact ⟨by rw [decide_eq_false (take_ne hx hy hne)]; rfl, k.ext⟩
    · have hxy : x = y := by simpa using hd
      exact ⟨_, by omega, j + 1, wrap_nat hjl (by omega), hjl, rfl, rfl, take_eq hx hy he hxy⟩
  have hjl : j = q1.errs.length := by
    have : ¬ (j : Int) < q1.errs.length := of_decide_eq_false hc
    omega
  subst hjl
  rw [List.take_of_length_le (by omega), List.take_of_length_le (by omega)] at he
  have q1e : decide (q1.errs = q2.errs) = true := decide_eq_true he
  rw [q1e, Bool.true_and]
  clear he hj hc q1e
  refine ⟨fun n h' _ i => ∃ j : Nat, i = j ∧ j ≤ q1.hits.length ∧ n = q1.hits.length - j ∧ h' = hh ∧ q1.hits.take j = q2.hits.take j, ⟨_, 0, rfl, by omega, rfl, rfl, rfl⟩, ?_⟩
  rintro n h' _ _ i ⟨j, rfl, hj, rfl, rfl, he⟩
  have z2 := sz.hits
  refine ⟨_, _, _, k.rd (by rfl), cond_split (fun hc => ?_) (fun hc => ?_)⟩
  · have hjl : j < q1.hits.length := Int.ofNat_lt.1 (of_decide_eq_true hc)
    refine ⟨_, _, _, k.rd (by rfl), hs.hits.one (.refl _ _) (by omega) (by omega) fun ad x hx hcx rx => ⟨_, _, _, hcx 1 _ rfl, _, _, _, k.rd (by rfl), ?_⟩⟩
    refine ht.hits.one (.refl _ _) (by omega) (by omega) fun ad y hy hcy ry => ⟨_, _, _, hcy 1 _ rfl, ?_⟩
    rw [Int.toNat_natCast] at hx hy
    refine CallsH.mono (vals_eq rx.sl rfl ry.sl rfl (sz.hit _ (List.mem_of_getElem? hx))) ?_
    rintro _ _ ⟨rfl, rfl⟩
    refine ⟨_, rfl, cond_split (fun hd => ?_) (fun hd => ?_)⟩
    · have hne : x.x.row ≠ y.x.row := by simpa using hd
      exact ⟨by rw [decide_eq_false (take_ne hx hy fun e => hne (congrArg Hi.row e))]; rfl, k.ext⟩
    have e1 : x.x.row = y.x.row := by simpa using hd
    refine ⟨_, _, _, k.rd (by rfl), hs.hits.one (.refl _ _) (by omega) (by omega) fun ad x1 hx1 hcx1 _ => ⟨_, hcx1 0 _ rfl, _, _, _, k.rd (by rfl), ?_⟩⟩
    refine ht.hits.one (.refl _ _) (by omega) (by omega) fun ad y1 hy1 hcy1 _ => ⟨_, hcy1 0 _ rfl, ?_⟩
    rw [Int.toNat_natCast] at hx1 hy1
    have ex1 : x1.x = x.x := Option.some.inj (hx1.symm.trans hx)
    have ey1 : y1.x = y.x := Option.some.inj (hy1.symm.trans hy)
    rw [eqStr, ex1, ey1]
    refine cond_split (fun hd => ?_) (fun hd => ?_)
    · have hne : x.x.q ≠ y.x.q := by simpa using hd
      exact ⟨by rw [decide_eq_false (take_ne hx hy fun e => hne (congrArg Hi.q e))]; rfl, k.ext⟩
    have e2 : x.x.q = y.x.q := by simpa using hd
    have hxy : x.x = y.x := by
      cases hxe : x.x; cases hye : y.x
      rw [hxe, hye] at e1 e2
      simp only at e1 e2
      rw [e1, e2]
    exact ⟨_, by omega, j + 1, wrap_nat hjl (by omega), hjl, rfl, rfl, take_eq hx hy he hxy⟩
  have hjl : j = q1.hits.length := by
    have : ¬ (j : Int) < q1.hits.length := of_decide_eq_false hc
    omega
  subst hjl
  rw [List.take_of_length_le (by omega), List.take_of_length_le (by omega)] at he
  have q1e : decide (q1.hits = q2.hits) = true := decide_eq_true he
  rw [q1e, Bool.true_and]
  clear he hj hc q1e
  refine ⟨fun n hh _ i => ∃ j : Nat, i = j ∧ j ≤ q1.rows.length ∧ n = q1.rows.length - j ∧ hh = h' ∧ q1.rows.take j = q2.rows.take j, ⟨_, 0, rfl, by omega, rfl, rfl, rfl⟩, ?_⟩
  rintro n hh _ _ i ⟨j, rfl, hj, rfl, rfl, he⟩
  have z3 := sz.rows
  refine ⟨_, _, _, k.rd (by rfl), cond_split (fun hc => ?_) (fun hc => ?_)⟩
  · have hjl : j < q1.rows.length := Int.ofNat_lt.1 (of_decide_eq_true hc)
    refine ⟨_, _, _, k.rd (by rfl), hs.rows.one (.refl _ _) (by omega) (by omega) fun ad x hx hcx rx => ⟨_, _, _, hcx 0 _ rfl, _, _, _, k.rd (by rfl), ?_⟩⟩
    refine ht.rows.one (.refl _ _) (by omega) (by omega) fun ad y hy hcy ry => ⟨_, _, _, hcy 0 _ rfl, ?_⟩
    rw [Int.toNat_natCast] at hx hy
    refine CallsH.mono (vals_eq rx.sl rfl ry.sl rfl (sz.row _ (List.mem_of_getElem? hx))) ?_
    rintro _ _ ⟨rfl, rfl⟩
    refine ⟨_, rfl, cond_split (fun hd => ?_) (fun hd => ?_)⟩
    · have hne : x.vs ≠ y.vs := by simpa using hd
      exact ⟨by rw [decide_eq_false (take_ne hx hy hne)]; rfl, k.ext⟩
    · have hxy : x.vs = y.vs := by simpa using hd
      exact ⟨_, by omega, j + 1, wrap_nat hjl (by omega), hjl, rfl, rfl, take_eq hx hy he hxy⟩
  have hjl : j = q1.rows.length := by
    have : ¬ (j : Int) < q1.rows.length := of_decide_eq_false hc
    omega
  subst hjl
  rw [List.take_of_length_le (by omega), List.take_of_length_le (by omega)] at he
  have q1e : decide (q1.rows = q2.rows) = true := decide_eq_true he
  rw [q1e, Bool.true_and]
  clear he hj hc q1e
  refine ⟨_, _, _, k.rd (by rfl), _, _, _, k.rd (by rfl), ?_⟩
  refine CallsH.mono (texts_eq (hs.names) (ht.names) sz.names) ?_
  rintro _ _ ⟨rfl, rfl⟩
  have eid : (((q1.id : Nat) : Int) == ((q2.id : Nat) : Int)) = decide (q1.id = q2.id) := by rw [eq_int]; exact decide_eq_decide.2 Int.ofNat_inj
  refine ⟨_, rfl, ?_⟩
  refine cond_split (fun h1 => ?_) (fun h1 => ⟨by rw [h1]; rfl, k.ext⟩)
  rw [h1, Bool.true_and]
  refine ⟨_, k.rd (by rfl), _, k.rd (by rfl), cond_split (fun h3 => ?_) (fun h3 => ⟨by rw [← eid, h3]; rfl, k.ext⟩)⟩
  rw [← eid, h3, Bool.true_and]
  refine ⟨_, k.rd (by rfl), _, k.rd (by rfl), cond_split (fun h4 => ?_) (fun h4 => ⟨by rw [h4]; rfl, k.ext⟩)⟩
  rw [h4, Bool.true_and]
  refine ⟨_, k.rd (by rfl), _, k.rd (by rfl), cond_split (fun h5 => ?_) (fun h5 => ⟨by rw [← eq_int q1.err, h5]; rfl, k.ext⟩)⟩
  rw [← eq_int q1.err, h5, Bool.true_and]
  refine ⟨_, k.rd (by rfl), _, k.rd (by rfl), cond_split (fun h6 => ?_) (fun h6 => ⟨by rw [← eq_int q1.at_, h6]; rfl, k.ext⟩)⟩
  rw [← eq_int q1.at_, h6, Bool.true_and]
  refine ⟨_, k.rd (by rfl), _, k.rd (by rfl), _, k.rd (by rfl), _, k.rd (by rfl), _, k.rd (by rfl), _, k.rd (by rfl), _, k.rd (by rfl), _, k.rd (by rfl), ?_⟩
  exact stat_eql (x := q1) (y := q2) ⟨_, rfl, rfl, k.ext⟩
end Go.Proofs.YtgdgebmlcgohhaaGreatDoor.F
/-! ## The laws of proto: what every statement asks ahead; frames that are cut again. -/
namespace Go.Proofs.YtgdgebmlcgohhaaGreatDoor.F
open Go Go.VC Go.Proofs
set_option linter.unusedSimpArgs false
set_option linter.unusedVariables false
set_option maxRecDepth 100000
attribute [local irreducible] CallsH RunsTo PureTo

variable {S F G : Nat → Prop} {h0 h h1 : Heap} {L R L' : List A} {a b a1 a2 na ea nb eb : Option Addr} {l c l1 c1 l2 c2 p t b1 nc ec nd ed : Nat} {bs cs bs1 bs2 w : List UInt8} {err e1 : Int} {v : Val} {bad bad1 sp : Bool}
theorem num4_be {n : Nat} (h : n < 4294967296) (x : Bytes) : num4 (be4 n ++ x) = n := by
  show un4 _ _ _ _ = n
  exact un4_be h
/-- A frame stands in front. -/
theorem next_frame {q : Bytes} (h : q.length ≤ 65528) (x : Bytes) : nextF (frameB q ++ x) = .got q x := by
  have hl := frameB_len q
  have e : frameB q ++ x = be4 q.length ++ (q ++ (be4 (adl (be4 q.length ++ q)) ++ x)) := by unfold frameB; simp only [List.append_assoc]
  have hn : num4 (frameB q ++ x) = q.length := by rw [e]; exact num4_be (by omega) _
  have e4 := be4_len q.length
  have e5 := be4_len (adl (be4 q.length ++ q))
  unfold nextF
  rw [hn, List.length_append, if_neg (by omega), if_neg (by omega), if_neg (by omega)]
  have e1 : (frameB q ++ x).take (q.length + 4) = be4 q.length ++ q := by
    have : frameB q ++ x = (be4 q.length ++ q) ++ (be4 (adl (be4 q.length ++ q)) ++ x) := by unfold frameB; simp only [List.append_assoc]
    rw [this]
    exact List.take_left' (by rw [List.length_append, e4]; omega)
  have e2 : (frameB q ++ x).drop (q.length + 4) = be4 (adl (be4 q.length ++ q)) ++ x := by
    have : frameB q ++ x = (be4 q.length ++ q) ++ (be4 (adl (be4 q.length ++ q)) ++ x) := by unfold frameB; simp only [List.append_assoc]
    rw [this]
    exact List.drop_left' (by rw [List.length_append, e4]; omega)
  have e3 : (frameB q ++ x).drop 4 = q ++ (be4 (adl (be4 q.length ++ q)) ++ x) := by rw [e]; exact List.drop_left' e4
  have e6 : (frameB q ++ x).drop (q.length + 8) = x := List.drop_left' hl
  rw [e1, e2, e3, e6, List.take_left' e5, List.take_left' rfl, if_neg (by simp)]
theorem cut_frame {q : Bytes} (h : q.length ≤ 65528) (x : Bytes) : cut (frameB q ++ x) = (q :: (cut x).1, (cut x).2) := cut_got (next_frame h x)
theorem cut_nil : cut [] = ([], [], false) := cut_more (by unfold nextF; exact if_pos (by simp))
theorem frame61 : frameB [97] = [0, 0, 0, 1, 97, 0, 104, 0, 99] := by decide +kernel
theorem feed61 : feedR [] false (frameB [97]) = ([[97]], 0, [], false) := by
  have h := cut_frame (q := [97]) (by simp) []
  rw [List.append_nil, cut_nil] at h
  unfold feedR
  rw [List.nil_append, h]; rfl
def q61 : Rq := ⟨1, 8, [113], [], [], []⟩
def p61 : Rp := ⟨7, false, 0, 0, [], [], [], [], 0, 0, 0, false⟩
theorem ask61 : (askR q61).2 = 0 ∧ (askR q61).1.length = 7 := by decide +kernel
theorem tell61 : (tellR p61).2 = 0 ∧ (tellR p61).1.length = 15 := by decide +kernel
theorem rng61 : rngQ q61 := ⟨by decide, by unfold short; decide, by unfold short; decide, ⟨by decide, by intro s hs; cases hs⟩, by decide, by intro s hs; cases hs⟩
theorem rngp61 : rngP p61 := ⟨by decide, by unfold rng64; decide, by unfold rng64; decide, ⟨by decide, by intro s hs; cases hs⟩, ⟨by decide, by intro s hs; cases hs⟩, ⟨by decide, by intro s hs; cases hs⟩, ⟨by decide, by intro s hs; cases hs⟩, by unfold rng64; decide, by unfold rng64; decide, by unfold rng64; decide⟩
theorem ok61 : RqOk q61 := ⟨by decide, by unfold rng64; decide, (by intro s hs; cases hs), by decide, by decide +kernel⟩
theorem okp61 : RpOk p61 := ⟨by decide, by unfold rng64; decide, by unfold rng64; decide, (by intro s hs; cases hs), (by intro s hs; cases hs), (by intro s hs; cases hs), by unfold rng64; decide, by unfold rng64; decide, by unfold rng64; decide, by decide +kernel⟩
theorem RoX.nil {α : Type} (E : El α) (F : Nat → Prop) (h : Heap) (a : Option Addr) : RoX E F h a 0 [] := ⟨[], .nil _ _ _, (by intro s hs; cases hs), rfl, rfl⟩
theorem asked61 : askedR (askR q61).1 = (q61, 0) := (ask_asked rng61 ask61.1).1
theorem told61 : toldR (tellR p61).1 = (p61, 0) := (tell_told rngp61 tell61.1).1
theorem ask61v : askR q61 = ((askR q61).1, 0) := Prod.ext rfl ask61.1
theorem tell61v : tellR p61 = ((tellR p61).1, 0) := Prod.ext rfl tell61.1
theorem _root_.Go.VC.St.add4 {x y z u : A} (k : St S h0 h R) (k' : St none_ h h1 [x, y, z, u]) : St S h0 h1 (x :: y :: z :: u :: R) := k.add k'
set_option maxHeartbeats 1000000 in
theorem begun_spec (hw : Wd none_ h) (hs : Spk none_ h) : CallsH Tryz.prog 5 #[] h (fun v h' => v = .bool true ∧ Ext h h') := by
  refine vf5 h _ ?_
  unfold F5
  have k := St.fresh h
  refine k.vnew fun b1 h2 k => ?_
  have hsl : Sl h2 (some ⟨b1, 0, none⟩) (bytesV [97]) := k.slB (b := b1)
  refine CallsH.mono (frame_spec hsl rfl) ?_
  rintro _ h4 ⟨a5, c5, rfl, k2⟩
  have er : frameR [97] = (frameB [97], 0) := by decide +kernel
  rw [er] at k2 ⊢
  have k := k.add1 k2
  refine ⟨_, _, _, _, rfl, k.vnew fun b7 h8 k => cond_false rfl ?_⟩
  have hs7 : Sl h8 (some ⟨b7, 0, none⟩) (bytesV [0, 0, 0, 1, 97, 0, 104, 0, 99]) := k.slB (b := b7)
  refine CallsH.mono (same_spec (k.sl (a := a5)) rfl hs7 rfl (by decide +kernel)) ?_
  rintro _ _ ⟨rfl, rfl⟩
  refine ⟨_, rfl, cond_false (by rw [frame61]; simp) ?_⟩
  refine CallsH.mono new_spec ?_
  rintro _ h13 ⟨p, rfl, k2⟩
  have k := k.add1 k2
  refine ⟨_, rfl, cond_false rfl ?_⟩
  obtain ⟨F', G, kF, kG, d, hF, back⟩ := k.frame2
  refine CallsH.mono (feed_spec kF (kG.ro d (a := a5)) rfl (by decide +kernel)) ?_
  rintro _ h16 ⟨x, cx, rfl, k2⟩
  have k := back k2
  clear back kF kG d hF
  rw [feed61] at k ⊢
  refine ⟨_, _, _, _, rfl, ?_⟩
  refine CallsH.mono (ask_spec (q := q61) (na := none) (ea := none) (nc := 0) (ec := 0) (hw.in k) (hs.in k) ok61 ⟨.nil _ _ _ _, .nil _ _ _ _⟩) ?_
  rintro _ h20 ⟨a21, c21, rfl, k2⟩
  have k := k.add1 k2
  rw [ask61v] at k ⊢
  refine ⟨_, _, _, _, rfl, ?_⟩
  have hle : (askR q61).1.length ≤ c21 := by
    obtain ⟨q, _, _⟩ := St.vec (a := a21) k
    exact q.le
  refine CallsH.mono (asked_spec (bs := (askR q61).1) (hw.in k) (hs.in k) (k.sl (a := a21)) rfl hle) ?_
  rintro _ h24 ⟨na, nc, ea, ec, rfl, k2⟩
  have k := k.add2 k2
  rw [asked61] at k ⊢
  refine ⟨_, _, _, _, _, _, _, _, _, _, _, rfl, k.vnew fun b32 h33 k => k.vall (by rfl) (by rfl) fun h34 k => cond_false rfl (cond_false rfl ?_)⟩
  have hro : RoX bytE none_ h34 x 1 [[97]] := El.ro (E := bytE) (k.sel 9 [5, 0, 1, 2, 3, 4, 6, 7, 8] rfl (by decide) (L' := [_, _, _, _, _, _, _, _, _]) (by rfl))
  refine hro.one (.refl _ _) (by omega) (by omega) fun ad s hs1 hc1 hr1 => ⟨_, _, _, hc1 0 _ rfl, ?_⟩
  have e1 : s.bs = [97] := (Option.some.inj hs1).symm
  rw [e1]
  refine cond_false rfl (hro.one (.refl _ _) (by omega) (by omega) fun ad s2 hs2 hc2 hr2 => ⟨_, _, _, hc2 0 _ rfl, ?_⟩)
  have e2 : s2.bs = [97] := (Option.some.inj hs2).symm
  have hr2 : Ro none_ h34 s2.a (bytesV [97]) := e2 ▸ hr2
  rw [e2]
  refine hr2.sl.one (f := byteV) (xs := [97]) rfl (by omega) (by simp) fun ad y hy hcy => ⟨_, hcy, ?_⟩
  have e3 : y = 97 := (Option.some.inj hy).symm
  subst e3
  refine cond_false rfl (cond_false rfl (cond_false rfl (cond_false (by rw [ask61.2]; rfl) ?_)))
  refine CallsH.mono (tell_spec (q := p61) (ga := none) (ha := none) (na := none) (ra := none) (gc := 0) (hc := 0) (nc := 0) (rc := 0) okp61 ⟨.nil _ _ _ _, .nil _ _ _ _, .nil _ _ _ _, .nil _ _ _ _⟩) ?_
  rintro _ h42 ⟨a43, c43, rfl, k2⟩
  have k := k.add1 k2
  rw [tell61v] at k ⊢
  refine ⟨_, _, _, _, rfl, ?_⟩
  have hle : (tellR p61).1.length ≤ c43 := by
    obtain ⟨q, _, _⟩ := St.vec (a := a43) k
    exact q.le
  refine CallsH.mono (told_spec (bs := (tellR p61).1) (k.sl (a := a43)) rfl hle) ?_
  rintro _ h46 ⟨ga, gc, ha, hc, na, nc, ra, rc, rfl, k2⟩
  have k := k.add4 k2
  rw [told61] at k ⊢
  refine ⟨_, _, _, _, _, _, _, _, _, _, _, _, _, _, _, _, _, _, _, _, _, rfl, ?_⟩
  refine k.vnew fun b60 h61 k => k.vall (by rfl) (by rfl) fun h62 k => ⟨_, k.rd (by rfl), cond_true rfl ⟨_, k.rd (by rfl), cond_true (by decide +kernel) ⟨_, k.rd (by rfl), cond_true rfl (cond_true rfl (cond_true rfl (cond_true (by rw [tell61.2]; rfl) ⟨_, k.rd (by rfl), rfl, k.ext⟩)))⟩⟩⟩
end Go.Proofs.YtgdgebmlcgohhaaGreatDoor.F
/-! ## The document's frames and streams. -/
namespace Go.Proofs.YtgdgebmlcgohhaaGreatDoor.F
open Go Go.VC Go.Proofs
set_option linter.unusedSimpArgs false
set_option linter.unusedVariables false
set_option maxRecDepth 100000
attribute [local irreducible] CallsH RunsTo PureTo

variable {S F G : Nat → Prop} {h0 h h1 : Heap} {L R L' : List A} {a b a1 a2 na ea nb eb ga ha nm ra : Option Addr} {l c l1 c1 l2 c2 p t b1 nc ec nd ed gc hc nk rc : Nat} {bs cs bs1 bs2 w raw m : List UInt8} {err e1 : Int} {v : Val} {bad bad1 sp : Bool} {q : Rq} {u : Rp}
/-! ### Room behind -/
def marksB (n : Nat) : Bytes := (List.range n).map fun i => UInt8.ofNat (181 + i)
def roomB (bs : Bytes) : Bytes := bs ++ marksB 70
theorem marksB_len (n : Nat) : (marksB n).length = n := by simp [marksB]
theorem marksB_next (n : Nat) : marksB (n + 1) = marksB n ++ [UInt8.ofNat (181 + n)] := by unfold marksB; rw [List.range_succ, List.map_append]; rfl
theorem roomB_len (bs : Bytes) : (roomB bs).length = bs.length + 70 := by simp [roomB, marksB_len]
theorem roomy_spec (hs : Sl h a (bytesV bs)) (hl : bs.length = l) (hb : l ≤ 1099511627776) : CallsH Tryz.prog 11 #[.slice a l c] h (fun v h' => ∃ a' c', v = .slice a' (roomB bs).length c' ∧ St none_ h h' [BV a' (roomB bs).length c' (roomB bs)]) := by
  subst hl
  refine vf11 _ _ _ h _ ?_
  unfold F11
  have k := (St.fresh h).vnil 5 (sz := 1) (by omega)
  have k : St none_ h h [BV none 0 0 []] := k
  refine app_bytes (s := bs) k hs (by omega) fun a3 c3 h2 k => ⟨_, _, _, rfl, ?_⟩
  rw [List.nil_append, Nat.zero_add] at k
  refine ⟨fun n hh x lx cx i => ∃ j : Nat, i = j ∧ j ≤ 70 ∧ n = 70 - j ∧ lx = (bs ++ marksB j).length ∧ St none_ h hh [BV x (bs ++ marksB j).length cx (bs ++ marksB j)], ⟨_, 0, rfl, by omega, rfl, by simp [marksB], by simpa [marksB] using k⟩, ?_⟩
  clear k
  rintro n hh _ x _ cx i ⟨j, rfl, hj, rfl, rfl, k⟩
  refine cond_split (fun hc => ?_) (fun hc => ?_)
  · have hj7 : j < 70 := by
      have : (j : Int) < 70 := of_decide_eq_true hc
      omega
    have eb : (.int .u8 (IntKind.u8.wrap (IntKind.i64.wrap (181 + (j : Int)))) : Value) = byteV (UInt8.ofNat (181 + j)) := by
      rw [byteV_of, wrap_u8, wrap_id (by omega) (by omega)]; congr 1
    rw [eb]
    have hml := marksB_len j
    refine k.vnew fun b11 h12 k => app_byte k (by rw [List.length_append]; omega) fun a15 c15 h14 k => ⟨_, _, _, rfl, 70 - (j + 1), by omega, j + 1, wrap_nat hj7 (by omega), by omega, rfl, ?_, ?_⟩
    · rw [marksB_next]; simp only [List.length_append, List.length_singleton]; omega
    · rw [List.append_assoc, ← marksB_next] at k
      have e : (bs ++ marksB j).length + 1 = (bs ++ marksB (j + 1)).length := by rw [marksB_next]; simp only [List.length_append, List.length_singleton]; omega
      rw [e] at k
      exact k
  · have hj7 : j = 70 := by
      have : ¬ (j : Int) < 70 := of_decide_eq_false hc
      omega
    subst hj7
    exact ⟨x, cx, rfl, k⟩
/-! ### Sums, numbers, frames -/
theorem be4_adl (bs : Bytes) : be4 (adl bs) = [UInt8.ofNat ((sums bs).2 / 256), UInt8.ofNat (sums bs).2, UInt8.ofNat ((sums bs).1 / 256), UInt8.ofNat (sums bs).1] := by
  have hlt := sums_lt bs
  have e : ∀ m n : Nat, m % 256 = n % 256 → UInt8.ofNat m = UInt8.ofNat n := fun m n h => by
    apply UInt8.toNat_inj.1
    rw [UInt8.toNat_ofNat', UInt8.toNat_ofNat']; exact h
  unfold be4 adl
  rw [e (((sums bs).2 * 65536 + (sums bs).1) / 16777216) ((sums bs).2 / 256) (by omega), e (((sums bs).2 * 65536 + (sums bs).1) / 65536) (sums bs).2 (by omega), e (((sums bs).2 * 65536 + (sums bs).1) / 256) ((sums bs).1 / 256) (by omega), e ((sums bs).2 * 65536 + (sums bs).1) (sums bs).1 (by omega)]
theorem sum_step {s : Nat × Nat} (x : UInt8) (h1 : s.1 < 65521) (h2 : s.2 < 65521) :
    Int.tmod (IntKind.i64.wrap ((s.1 : Int) + IntKind.i64.wrap (x.toNat : Int))) 65521 = ((sumStep s x).1 : Int) ∧ Int.tmod (IntKind.i64.wrap ((s.2 : Int) + ((sumStep s x).1 : Int))) 65521 = ((sumStep s x).2 : Int) := by
  have hx := x.toNat_lt
  have h3 := (sumStep_lt s x).1
  constructor
  · rw [wrap_id (n := (x.toNat : Int)) (by omega) (by omega), wrap_id (by omega) (by omega)]
    have : (s.1 : Int) + (x.toNat : Int) = ((s.1 + x.toNat : Nat) : Int) := by omega
    rw [this]; rfl
  · rw [wrap_id (by omega) (by omega)]
    have : (s.2 : Int) + ((sumStep s x).1 : Int) = ((s.2 + (sumStep s x).1 : Nat) : Int) := by omega
    rw [this]; rfl
theorem dfour_spec {n : Nat} (hn : n < 4294967296) : CallsH Tryz.prog 78 #[.int .i64 (n : Int)] h (fun v h' => ∃ a', v = .slice a' 4 4 ∧ St none_ h h' [BV a' 4 4 (be4 n)]) := by
  refine vf78 _ h _ ?_
  unfold F78
  have e3 : (.int .u8 (IntKind.u8.wrap (IntKind.i64.wrap (Int.tdiv (n : Int) 16777216))) : Value) = byteV (UInt8.ofNat (n / 16777216)) := by
    have e : Int.tdiv (n : Int) 16777216 = ((n / 16777216 : Nat) : Int) := rfl
    rw [byteV_of, e, wrap_id (by omega) (by omega), wrap_u8]
  have e2 : (.int .u8 (IntKind.u8.wrap (Int.tmod (IntKind.i64.wrap (Int.tdiv (n : Int) 65536)) 256)) : Value) = byteV (UInt8.ofNat (n / 65536)) := by
    have e : Int.tdiv (n : Int) 65536 = ((n / 65536 : Nat) : Int) := rfl
    have e' : Int.tmod ((n / 65536 : Nat) : Int) 256 = ((n / 65536 % 256 : Nat) : Int) := rfl
    rw [byteV_of, e, wrap_id (by omega) (by omega), e', wrap_u8]; congr 1; omega
  have e1 : (.int .u8 (IntKind.u8.wrap (Int.tmod (IntKind.i64.wrap (Int.tdiv (n : Int) 256)) 256)) : Value) = byteV (UInt8.ofNat (n / 256)) := by
    have e : Int.tdiv (n : Int) 256 = ((n / 256 : Nat) : Int) := rfl
    have e' : Int.tmod ((n / 256 : Nat) : Int) 256 = ((n / 256 % 256 : Nat) : Int) := rfl
    rw [byteV_of, e, wrap_id (by omega) (by omega), e', wrap_u8]; congr 1; omega
  have e0 : (.int .u8 (IntKind.u8.wrap (Int.tmod (n : Int) 256)) : Value) = byteV (UInt8.ofNat n) := by
    have e : Int.tmod (n : Int) 256 = ((n % 256 : Nat) : Int) := rfl
    rw [byteV_of, e, wrap_u8]; congr 1; omega
  rw [e3, e2, e1, e0]
  refine ⟨by omega, by omega, by omega, by omega, by omega, by omega, (St.fresh h).vnew (cs := (bytesV (be4 n)).toArray) fun b11 h12 k => ⟨_, rfl, ?_⟩⟩
  exact k.blkvec (n := 4) (sz := 1) rfl (by omega) (by omega)
theorem dof_spec (hs : Sl h a (bytesV w)) (hl : w.length = l) (h4 : 4 ≤ l) (hb : l < 9223372036854775807) : CallsH Tryz.prog 124 #[.slice a l c, .int .i64 0] h (fun v h' => v = .int .i64 (num4 w : Nat) ∧ h' = h) := by
  obtain ⟨b0, b1, b2, b3, r, rfl⟩ := split4 (w := w) (by omega)
  refine vf124 _ _ _ _ h _ ?_
  unfold F124
  have h0 := b0.toNat_lt; have h1 := b1.toNat_lt; have h2 := b2.toNat_lt; have h3 := b3.toNat_lt
  have e2 : num4 (b0 :: b1 :: b2 :: b3 :: r) = un4 b0 b1 b2 b3 := rfl
  refine ⟨fun n hh x i => hh = h ∧ ∃ j : Nat, i = j ∧ j ≤ 4 ∧ n = 4 - j ∧ x = (match j with | 0 => 0 | 1 => (b0.toNat : Int) | 2 => ((b0.toNat * 256 + b1.toNat : Nat) : Int) | 3 => ((b0.toNat * 65536 + b1.toNat * 256 + b2.toNat : Nat) : Int) | _ => ((b0.toNat * 16777216 + b1.toNat * 65536 + b2.toNat * 256 + b3.toNat : Nat) : Int)), ⟨_, rfl, 0, rfl, by omega, rfl, rfl⟩, ?_⟩
  rintro n hh _ x i ⟨rfl, j, rfl, hj, rfl, rfl⟩
  refine cond_split (fun hc => ?_) (fun hc => ?_)
  · have hj4 : j < 4 := by
      have : (j : Int) < 4 := of_decide_eq_true hc
      omega
    have ej : IntKind.i64.wrap ((0 : Int) + (j : Int)) = (j : Int) := by rw [wrap_id (by omega) (by omega)]; omega
    rw [ej]
    refine hs.one (f := byteV) hl (by omega) (by omega) fun ad y hy hcy => ⟨_, hcy, 4 - (j + 1), by omega, rfl, j + 1, wrap_nat hj4 (by omega), hj4, rfl, ?_⟩
    rw [Int.toNat_natCast] at hy
    have hy8 := y.toNat_lt
    rw [wrap_id (n := (y.toNat : Int)) (by omega) (by omega)]
    match j, hj4, hy with
    | 0, _, hy =>
      cases hy
      show IntKind.i64.wrap (IntKind.i64.wrap (0 * 256) + _) = _
      rw [wrap_id (n := 0 * 256) (by omega) (by omega), wrap_id (by omega) (by omega)]; simp
    | 1, _, hy =>
      cases hy
      show IntKind.i64.wrap (IntKind.i64.wrap ((b0.toNat : Int) * 256) + _) = ((b0.toNat * 256 + b1.toNat : Nat) : Int)
      rw [wrap_id (n := (b0.toNat : Int) * 256) (by omega) (by omega), wrap_id (by omega) (by omega)]; omega
    | 2, _, hy =>
      cases hy
      show IntKind.i64.wrap (IntKind.i64.wrap (((b0.toNat * 256 + b1.toNat : Nat) : Int) * 256) + _) = ((b0.toNat * 65536 + b1.toNat * 256 + b2.toNat : Nat) : Int)
      rw [wrap_id (n := ((b0.toNat * 256 + b1.toNat : Nat) : Int) * 256) (by omega) (by omega), wrap_id (by omega) (by omega)]; omega
    | 3, _, hy =>
      cases hy
      show IntKind.i64.wrap (IntKind.i64.wrap (((b0.toNat * 65536 + b1.toNat * 256 + b2.toNat : Nat) : Int) * 256) + _) = ((b0.toNat * 16777216 + b1.toNat * 65536 + b2.toNat * 256 + b3.toNat : Nat) : Int)
      rw [wrap_id (n := ((b0.toNat * 65536 + b1.toNat * 256 + b2.toNat : Nat) : Int) * 256) (by omega) (by omega), wrap_id (by omega) (by omega)]; omega
  · have hj4 : j = 4 := by
      have : ¬ (j : Int) < 4 := of_decide_eq_false hc
      omega
    subst hj4
    rw [e2, un4_eq]
    exact ⟨rfl, rfl⟩
theorem copy_bytes (k : St S h0 h R) {x : Option Addr} {cx : Nat} (hs : Sl h x (bytesV bs)) (hl : bs.length = l) (hb : l ≤ 140737488355328) {K : KV}
    (q : ∀ a' c' h', St S h0 h' (BV a' l c' bs :: R) → K (.slice a' l c') h') : RunsTo Tryz.prog (Builtin.append_ #[36, 36] 36 #[.slice none 0 0, .slice x l cx]) h K := by
  subst hl
  have k := (k.vnil 5 (sz := 1) (by omega)).re (y := BV none 0 0 []) rfl
  have := app_bytes (s := bs) (cx := cx) k hs (by omega) (K := K) fun a' c' h' k => by
    rw [Nat.zero_add, List.nil_append] at k
    rw [Nat.zero_add]
    exact q a' c' h' k
  exact this
theorem sum_diff {x y : Bytes} (hx : x.length = 4) (hy : y.length = 4) : ∀ j, j ≤ 4 → (x.take j = y.take j ↔ ∀ i, i < j → x[i]? = y[i]?) := by
  intro j hj
  constructor
  · intro h i hi
    have := congrArg (·[i]?) h
    simp only [List.getElem?_take, if_pos hi] at this
    exact this
  · intro h
    apply List.ext_getElem?
    intro i
    rw [List.getElem?_take, List.getElem?_take]
    split
    · exact h i ‹_›
    · rfl
end Go.Proofs.YtgdgebmlcgohhaaGreatDoor.F
