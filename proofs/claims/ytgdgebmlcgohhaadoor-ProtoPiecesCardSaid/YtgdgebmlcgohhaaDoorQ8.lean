/- Package proto: the program's reader: lists. Printed by q8.py. Conditions: none. -/
import Derived.Test.YtgdgebmlcgohhaaDoorQ7
namespace Go.Proofs.YtgdgebmlcgohhaaDoor.F
open Go Go.VC Go.Proofs
set_option linter.unusedSimpArgs false
set_option linter.unusedVariables false
set_option maxRecDepth 100000
attribute [local irreducible] CallsH RunsTo PureTo

variable {S F G : Nat → Prop} {h0 h h1 : Heap} {L R L' : List A} {a b a1 a2 : Option Addr} {l c l1 c1 l2 c2 p t : Nat} {bs cs bs1 bs2 : List UInt8} {bad bad1 bad2 : Bool} {v : Val}
theorem texsP_step (k0 : Holds [RP t p a l c bad] F h) (r : RdP F h a l c bs) : CallsH Tryd.prog 49 #[.pointer (some ⟨p, 0, none⟩), .func (.func 50) #[.pointer (some ⟨p, 0, none⟩)] #[]] h
    (fun v h' => ∃ (xs : List (Bytes)) (b : Option Addr) (cc : Nat) (a1 : Option Addr) (l1 c1 : Nat) (bs1 : Bytes) (bad1 : Bool), v = .slice b xs.length cc ∧ Nxt a l c bs a1 l1 c1 bs1 ∧ StepO (lisO (texO)) bs bad xs bs1 bad1 ∧ xs.length ≤ l ∧ St F h h' [RP t p a1 l1 c1 bad1, texE.L b xs.length cc xs]) := by
  refine vf49 _ _ h _ ?_
  unfold F49
  have k := St.start k0
  have hbig := r.big
  obtain ⟨F', G, kF, kG, d, hF, back⟩ := k.frameA
  refine CallsH.mono (numP_step kF (r.at k.ext hF)) ?_
  rintro _ h2 ⟨n, a1, l1, c1, bs1, bad1, rfl, nx1, s1, hn64, _, k2⟩
  have k := back k2
  clear back kF kG d hF
  have r1 := r.nxt nx1
  have hl1 := r1.len
  have hle1 := nx1.le
  refine ⟨_, rfl, fun h' => St F h h' [RP t p a1 l1 c1 (bad1 || decide (n < 0) || decide (n > (l1 : Int)))], ?_, ?_⟩
  · refine cond_split (fun hc => ?_) (fun hc => ?_)
    · refine VSome.mk (k.vst (Nat.le_of_ble_eq_true (by rfl)) fun _ k => ?_)
      rw [hc, Bool.or_true, Bool.true_or]; exact k
    · refine VSome.mk ⟨_, _, _, k.rd (by rfl), cond_split (fun hc2 => ?_) (fun hc2 => ?_)⟩
      · refine VSome.mk (k.vst (Nat.le_of_ble_eq_true (by rfl)) fun _ k => ?_)
        rw [hc2, Bool.or_true]; exact k
      · rw [hc, hc2, Bool.or_false, Bool.or_false]; exact k
  clear k
  rintro h11 _ k
  generalize hb2 : (bad1 || decide (n < 0) || decide (n > (l1 : Int))) = bad2 at k
  have hb3 : bad2 = false → 0 ≤ n ∧ n ≤ l1 := fun h => by
    rw [h] at hb2
    simp only [Bool.or_eq_false_iff, decide_eq_false_iff_not] at hb2
    omega
  refine ⟨fun m h' x b ll cc => ∃ (xs : List (Bytes)) (a2 : Option Addr) (l2 c2 : Nat) (bs2 : Bytes) (bad3 : Bool), ll = xs.length ∧ x = n - (xs.length : Int) ∧ m = n.toNat - xs.length ∧ (bad2 = false → xs.length ≤ n.toNat) ∧ (bad2 = true → xs = []) ∧ Nxt a1 l1 c1 bs1 a2 l2 c2 bs2 ∧ StepO (repO (texO) xs.length) bs1 bad2 xs bs2 bad3 ∧
      St F h h' [RP t p a2 l2 c2 bad3, texE.L b xs.length cc xs], ⟨_, [], a1, l1, c1, bs1, bad2, rfl, by simp, rfl, fun _ => Nat.zero_le _, fun _ => rfl, .refl, .ret _, (El.nil texE k).pull1⟩, ?_⟩
  clear k
  rintro m h15 _ x b ll cc ⟨xs, a2, l2, c2, bs2, bad3, rfl, rfl, rfl, q1, q2, nx2, s2, k⟩
  have hxl : xs.length ≤ l1 := by
    cases hb4 : bad2
    · have := q1 hb4; have := hb3 hb4; omega
    · rw [q2 hb4]; exact Nat.zero_le _
  have fin : (bad3 = true ∨ n ≤ xs.length) → ∃ (xs' : List (Bytes)) (b' : Option Addr) (cc' : Nat) (a1 : Option Addr) (l1 c1 : Nat) (bs1 : Bytes) (bad1 : Bool), (Value.slice b xs.length cc) = .slice b' xs'.length cc' ∧ Nxt a l c bs a1 l1 c1 bs1 ∧ StepO (lisO (texO)) bs bad xs' bs1 bad1 ∧ xs'.length ≤ l ∧ St F h h15 [RP t p a1 l1 c1 bad1, texE.L b' xs'.length cc' xs'] := fun hend =>
    ⟨xs, b, cc, a2, l2, c2, bs2, bad3, rfl, nx1.trans nx2, s1.bind (many_fin (by rw [hl1]; exact hb2.symm) s2 q1 hend), by omega, k⟩
  refine cond_split (fun hc => ?_) (fun hc => ?_)
  · have hgt : n - (xs.length : Int) > 0 := of_decide_eq_true hc
    refine VSome.mk ⟨_, k.rd (by rfl), ?_⟩
    cases hb4 : bad3
    · refine cond_true rfl ?_
      subst hb4
      have hb5 : bad2 = false := by
        rcases s2 with ⟨_, h⟩ | ⟨h, _⟩ | ⟨_, h, _⟩
        · cases h
        · exact h
        · cases h
      have hq := hb3 hb5
      obtain ⟨F', G, kF, kG, d, hF, back⟩ := k.frameA
      refine CallsH.mono (texP_step kF ((r1.nxt nx2).at k.ext hF)) ?_
      rintro _ h23 ⟨s, a3, l3, c3, bs3, bad4, rfl, nx3, s3, k2⟩
      have k := back k2
      clear back kF kG d hF
      refine ⟨_, rfl, _, rfl, k.vnew fun bb h29 k => ?_⟩
      have k := (k.all0).sel 4 [1, 0, 3, 2] rfl (by decide) (L' := [A.blk bb (texE.cells s).toArray texE.e, texE.own s, texE.L b xs.length cc xs, _]) (by rfl)
      refine El.app (E := texE) T23 k (by omega) fun b' cc' h' k => ⟨_, _, _, rfl, n.toNat - (xs.length + 1), by omega, xs ++ [texE.val s], a3, l3, c3, bs3, bad4, by simp, ?_, by simp, fun _ => by rw [List.length_append]; simp only [List.length_singleton]; omega, fun h => by (rw [hb5] at h; cases h), nx2.trans nx3, ?_, ?_⟩
      · rw [wrap_id (by omega) (by omega), List.length_append]; simp only [List.length_singleton]; omega
      · rw [List.length_append]; exact s2.snoc s3
      · rw [List.length_append]; exact k.pull1
    · exact cond_false rfl (fin (.inl hb4))
  · have hle : ¬ n - (xs.length : Int) > 0 := of_decide_eq_false hc
    exact fin (.inr (by omega))
theorem valsP_step (k0 : Holds [RP t p a l c bad] F h) (r : RdP F h a l c bs) : CallsH Tryd.prog 83 #[.pointer (some ⟨p, 0, none⟩), .func (.func 84) #[.pointer (some ⟨p, 0, none⟩)] #[]] h
    (fun v h' => ∃ (xs : List (Val)) (b : Option Addr) (cc : Nat) (a1 : Option Addr) (l1 c1 : Nat) (bs1 : Bytes) (bad1 : Bool), v = .slice b xs.length cc ∧ Nxt a l c bs a1 l1 c1 bs1 ∧ StepO (lisO (valO)) bs bad xs bs1 bad1 ∧ xs.length ≤ l ∧ St F h h' [RP t p a1 l1 c1 bad1, valE.L b xs.length cc xs]) := by
  refine vf83 _ _ h _ ?_
  unfold F83
  have k := St.start k0
  have hbig := r.big
  obtain ⟨F', G, kF, kG, d, hF, back⟩ := k.frameA
  refine CallsH.mono (numP_step kF (r.at k.ext hF)) ?_
  rintro _ h2 ⟨n, a1, l1, c1, bs1, bad1, rfl, nx1, s1, hn64, _, k2⟩
  have k := back k2
  clear back kF kG d hF
  have r1 := r.nxt nx1
  have hl1 := r1.len
  have hle1 := nx1.le
  refine ⟨_, rfl, fun h' => St F h h' [RP t p a1 l1 c1 (bad1 || decide (n < 0) || decide (n > (l1 : Int)))], ?_, ?_⟩
  · refine cond_split (fun hc => ?_) (fun hc => ?_)
    · refine VSome.mk (k.vst (Nat.le_of_ble_eq_true (by rfl)) fun _ k => ?_)
      rw [hc, Bool.or_true, Bool.true_or]; exact k
    · refine VSome.mk ⟨_, _, _, k.rd (by rfl), cond_split (fun hc2 => ?_) (fun hc2 => ?_)⟩
      · refine VSome.mk (k.vst (Nat.le_of_ble_eq_true (by rfl)) fun _ k => ?_)
        rw [hc2, Bool.or_true]; exact k
      · rw [hc, hc2, Bool.or_false, Bool.or_false]; exact k
  clear k
  rintro h11 _ k
  generalize hb2 : (bad1 || decide (n < 0) || decide (n > (l1 : Int))) = bad2 at k
  have hb3 : bad2 = false → 0 ≤ n ∧ n ≤ l1 := fun h => by
    rw [h] at hb2
    simp only [Bool.or_eq_false_iff, decide_eq_false_iff_not] at hb2
    omega
  refine ⟨fun m h' x b ll cc => ∃ (xs : List (Val)) (a2 : Option Addr) (l2 c2 : Nat) (bs2 : Bytes) (bad3 : Bool), ll = xs.length ∧ x = n - (xs.length : Int) ∧ m = n.toNat - xs.length ∧ (bad2 = false → xs.length ≤ n.toNat) ∧ (bad2 = true → xs = []) ∧ Nxt a1 l1 c1 bs1 a2 l2 c2 bs2 ∧ StepO (repO (valO) xs.length) bs1 bad2 xs bs2 bad3 ∧
      St F h h' [RP t p a2 l2 c2 bad3, valE.L b xs.length cc xs], ⟨_, [], a1, l1, c1, bs1, bad2, rfl, by simp, rfl, fun _ => Nat.zero_le _, fun _ => rfl, .refl, .ret _, (El.nil valE k).pull1⟩, ?_⟩
  clear k
  rintro m h15 _ x b ll cc ⟨xs, a2, l2, c2, bs2, bad3, rfl, rfl, rfl, q1, q2, nx2, s2, k⟩
  have hxl : xs.length ≤ l1 := by
    cases hb4 : bad2
    · have := q1 hb4; have := hb3 hb4; omega
    · rw [q2 hb4]; exact Nat.zero_le _
  have fin : (bad3 = true ∨ n ≤ xs.length) → ∃ (xs' : List (Val)) (b' : Option Addr) (cc' : Nat) (a1 : Option Addr) (l1 c1 : Nat) (bs1 : Bytes) (bad1 : Bool), (Value.slice b xs.length cc) = .slice b' xs'.length cc' ∧ Nxt a l c bs a1 l1 c1 bs1 ∧ StepO (lisO (valO)) bs bad xs' bs1 bad1 ∧ xs'.length ≤ l ∧ St F h h15 [RP t p a1 l1 c1 bad1, valE.L b' xs'.length cc' xs'] := fun hend =>
    ⟨xs, b, cc, a2, l2, c2, bs2, bad3, rfl, nx1.trans nx2, s1.bind (many_fin (by rw [hl1]; exact hb2.symm) s2 q1 hend), by omega, k⟩
  refine cond_split (fun hc => ?_) (fun hc => ?_)
  · have hgt : n - (xs.length : Int) > 0 := of_decide_eq_true hc
    refine VSome.mk ⟨_, k.rd (by rfl), ?_⟩
    cases hb4 : bad3
    · refine cond_true rfl ?_
      subst hb4
      have hb5 : bad2 = false := by
        rcases s2 with ⟨_, h⟩ | ⟨h, _⟩ | ⟨_, h, _⟩
        · cases h
        · exact h
        · cases h
      have hq := hb3 hb5
      obtain ⟨F', G, kF, kG, d, hF, back⟩ := k.frameA
      refine CallsH.mono (valP_step kF ((r1.nxt nx2).at k.ext hF)) ?_
      rintro _ h23 ⟨s, a3, l3, c3, bs3, bad4, rfl, nx3, s3, k2⟩
      have k := back k2
      clear back kF kG d hF
      refine ⟨_, _, _, _, rfl, _, _, _, _, rfl, k.vnew fun bb h29 k => ?_⟩
      have k := (k.all0).sel 4 [1, 0, 3, 2] rfl (by decide) (L' := [A.blk bb (valE.cells s).toArray valE.e, valE.own s, valE.L b xs.length cc xs, _]) (by rfl)
      refine El.app (E := valE) T25 k (by omega) fun b' cc' h' k => ⟨_, _, _, rfl, n.toNat - (xs.length + 1), by omega, xs ++ [valE.val s], a3, l3, c3, bs3, bad4, by simp, ?_, by simp, fun _ => by rw [List.length_append]; simp only [List.length_singleton]; omega, fun h => by (rw [hb5] at h; cases h), nx2.trans nx3, ?_, ?_⟩
      · rw [wrap_id (by omega) (by omega), List.length_append]; simp only [List.length_singleton]; omega
      · rw [List.length_append]; exact s2.snoc s3
      · rw [List.length_append]; exact k.pull1
    · exact cond_false rfl (fin (.inl hb4))
  · have hle : ¬ n - (xs.length : Int) > 0 := of_decide_eq_false hc
    exact fin (.inr (by omega))
theorem evsP_step (hw : Wd F h) (k0 : Holds [RP t p a l c bad] F h) (r : RdP F h a l c bs) : CallsH Tryd.prog 75 #[.pointer (some ⟨p, 0, none⟩), .func (.func 76) #[.pointer (some ⟨p, 0, none⟩)] #[]] h
    (fun v h' => ∃ (xs : List (Ev)) (b : Option Addr) (cc : Nat) (a1 : Option Addr) (l1 c1 : Nat) (bs1 : Bytes) (bad1 : Bool), v = .slice b xs.length cc ∧ Nxt a l c bs a1 l1 c1 bs1 ∧ StepO (lisO (evO)) bs bad xs bs1 bad1 ∧ xs.length ≤ l ∧ St F h h' [RP t p a1 l1 c1 bad1, evE.L b xs.length cc xs]) := by
  refine vf75 _ _ h _ ?_
  unfold F75
  have k := St.start k0
  have hbig := r.big
  obtain ⟨F', G, kF, kG, d, hF, back⟩ := k.frameA
  refine CallsH.mono (numP_step kF (r.at k.ext hF)) ?_
  rintro _ h2 ⟨n, a1, l1, c1, bs1, bad1, rfl, nx1, s1, hn64, _, k2⟩
  have k := back k2
  clear back kF kG d hF
  have r1 := r.nxt nx1
  have hl1 := r1.len
  have hle1 := nx1.le
  refine ⟨_, rfl, fun h' => St F h h' [RP t p a1 l1 c1 (bad1 || decide (n < 0) || decide (n > (l1 : Int)))], ?_, ?_⟩
  · refine cond_split (fun hc => ?_) (fun hc => ?_)
    · refine VSome.mk (k.vst (Nat.le_of_ble_eq_true (by rfl)) fun _ k => ?_)
      rw [hc, Bool.or_true, Bool.true_or]; exact k
    · refine VSome.mk ⟨_, _, _, k.rd (by rfl), cond_split (fun hc2 => ?_) (fun hc2 => ?_)⟩
      · refine VSome.mk (k.vst (Nat.le_of_ble_eq_true (by rfl)) fun _ k => ?_)
        rw [hc2, Bool.or_true]; exact k
      · rw [hc, hc2, Bool.or_false, Bool.or_false]; exact k
  clear k
  rintro h11 _ k
  generalize hb2 : (bad1 || decide (n < 0) || decide (n > (l1 : Int))) = bad2 at k
  have hb3 : bad2 = false → 0 ≤ n ∧ n ≤ l1 := fun h => by
    rw [h] at hb2
    simp only [Bool.or_eq_false_iff, decide_eq_false_iff_not] at hb2
    omega
  refine ⟨fun m h' x b ll cc => ∃ (xs : List (Ev)) (a2 : Option Addr) (l2 c2 : Nat) (bs2 : Bytes) (bad3 : Bool), ll = xs.length ∧ x = n - (xs.length : Int) ∧ m = n.toNat - xs.length ∧ (bad2 = false → xs.length ≤ n.toNat) ∧ (bad2 = true → xs = []) ∧ Nxt a1 l1 c1 bs1 a2 l2 c2 bs2 ∧ StepO (repO (evO) xs.length) bs1 bad2 xs bs2 bad3 ∧
      St F h h' [RP t p a2 l2 c2 bad3, evE.L b xs.length cc xs], ⟨_, [], a1, l1, c1, bs1, bad2, rfl, by simp, rfl, fun _ => Nat.zero_le _, fun _ => rfl, .refl, .ret _, (El.nil evE k).pull1⟩, ?_⟩
  clear k
  rintro m h15 _ x b ll cc ⟨xs, a2, l2, c2, bs2, bad3, rfl, rfl, rfl, q1, q2, nx2, s2, k⟩
  have hxl : xs.length ≤ l1 := by
    cases hb4 : bad2
    · have := q1 hb4; have := hb3 hb4; omega
    · rw [q2 hb4]; exact Nat.zero_le _
  have fin : (bad3 = true ∨ n ≤ xs.length) → ∃ (xs' : List (Ev)) (b' : Option Addr) (cc' : Nat) (a1 : Option Addr) (l1 c1 : Nat) (bs1 : Bytes) (bad1 : Bool), (Value.slice b xs.length cc) = .slice b' xs'.length cc' ∧ Nxt a l c bs a1 l1 c1 bs1 ∧ StepO (lisO (evO)) bs bad xs' bs1 bad1 ∧ xs'.length ≤ l ∧ St F h h15 [RP t p a1 l1 c1 bad1, evE.L b' xs'.length cc' xs'] := fun hend =>
    ⟨xs, b, cc, a2, l2, c2, bs2, bad3, rfl, nx1.trans nx2, s1.bind (many_fin (by rw [hl1]; exact hb2.symm) s2 q1 hend), by omega, k⟩
  refine cond_split (fun hc => ?_) (fun hc => ?_)
  · have hgt : n - (xs.length : Int) > 0 := of_decide_eq_true hc
    refine VSome.mk ⟨_, k.rd (by rfl), ?_⟩
    cases hb4 : bad3
    · refine cond_true rfl ?_
      subst hb4
      have hb5 : bad2 = false := by
        rcases s2 with ⟨_, h⟩ | ⟨h, _⟩ | ⟨_, h, _⟩
        · cases h
        · exact h
        · cases h
      have hq := hb3 hb5
      obtain ⟨F', G, kF, kG, d, hF, back⟩ := k.frame2
      refine CallsH.mono (evP_step (hw.at k.ext hF) kF ((r1.nxt nx2).at k.ext hF)) ?_
      rintro _ h23 ⟨s, a3, l3, c3, bs3, bad4, rfl, nx3, s3, _, k2⟩
      have k := back k2
      clear back kF kG d hF
      refine ⟨_, _, _, _, _, rfl, _, _, _, _, _, rfl, k.vnew fun bb h29 k => ?_⟩
      have k := k.sel 4 [0, 2, 3, 1] rfl (by decide) (L' := [A.blk bb (evE.cells s).toArray evE.e, evE.own s, evE.L b xs.length cc xs, _]) (by rfl)
      refine El.app (E := evE) T24 k (by omega) fun b' cc' h' k => ⟨_, _, _, rfl, n.toNat - (xs.length + 1), by omega, xs ++ [evE.val s], a3, l3, c3, bs3, bad4, by simp, ?_, by simp, fun _ => by rw [List.length_append]; simp only [List.length_singleton]; omega, fun h => by (rw [hb5] at h; cases h), nx2.trans nx3, ?_, ?_⟩
      · rw [wrap_id (by omega) (by omega), List.length_append]; simp only [List.length_singleton]; omega
      · rw [List.length_append]; exact s2.snoc s3
      · rw [List.length_append]; exact k.pull1
    · exact cond_false rfl (fin (.inl hb4))
  · have hle : ¬ n - (xs.length : Int) > 0 := of_decide_eq_false hc
    exact fin (.inr (by omega))
theorem rowP_step (k0 : Holds [RP t p a l c bad] F h) (r : RdP F h a l c bs) : CallsH Tryd.prog 52 #[.pointer (some ⟨p, 0, none⟩)] h
    (fun v h' => ∃ (s : Sr) (a1 : Option Addr) (l1 c1 : Nat) (bs1 : Bytes) (bad1 : Bool), v = .slice s.a s.vs.length s.c ∧ Nxt a l c bs a1 l1 c1 bs1 ∧ StepO (lisO valO) bs bad s.vs bs1 bad1 ∧ St F h h' [RP t p a1 l1 c1 bad1, valE.L s.a s.vs.length s.c s.vs]) := by
  refine vf52 _ h _ ?_
  unfold F52
  refine CallsH.mono (valsP_step k0 r) ?_
  rintro _ h2 ⟨xs, b, c2, a1, l1, c1, bs1, bad1, rfl, nx1, s1, _, k⟩
  exact ⟨_, _, _, rfl, ⟨b, c2, xs⟩, a1, l1, c1, bs1, bad1, rfl, nx1, s1, k⟩
theorem rowsP_step (k0 : Holds [RP t p a l c bad] F h) (r : RdP F h a l c bs) : CallsH Tryd.prog 51 #[.pointer (some ⟨p, 0, none⟩), .func (.func 52) #[.pointer (some ⟨p, 0, none⟩)] #[]] h
    (fun v h' => ∃ (xs : List (List Val)) (b : Option Addr) (cc : Nat) (a1 : Option Addr) (l1 c1 : Nat) (bs1 : Bytes) (bad1 : Bool), v = .slice b xs.length cc ∧ Nxt a l c bs a1 l1 c1 bs1 ∧ StepO (lisO (lisO valO)) bs bad xs bs1 bad1 ∧ xs.length ≤ l ∧ St F h h' [RP t p a1 l1 c1 bad1, rowE.L b xs.length cc xs]) := by
  refine vf51 _ _ h _ ?_
  unfold F51
  have k := St.start k0
  have hbig := r.big
  obtain ⟨F', G, kF, kG, d, hF, back⟩ := k.frameA
  refine CallsH.mono (numP_step kF (r.at k.ext hF)) ?_
  rintro _ h2 ⟨n, a1, l1, c1, bs1, bad1, rfl, nx1, s1, hn64, _, k2⟩
  have k := back k2
  clear back kF kG d hF
  have r1 := r.nxt nx1
  have hl1 := r1.len
  have hle1 := nx1.le
  refine ⟨_, rfl, fun h' => St F h h' [RP t p a1 l1 c1 (bad1 || decide (n < 0) || decide (n > (l1 : Int)))], ?_, ?_⟩
  · refine cond_split (fun hc => ?_) (fun hc => ?_)
    · refine VSome.mk (k.vst (Nat.le_of_ble_eq_true (by rfl)) fun _ k => ?_)
      rw [hc, Bool.or_true, Bool.true_or]; exact k
    · refine VSome.mk ⟨_, _, _, k.rd (by rfl), cond_split (fun hc2 => ?_) (fun hc2 => ?_)⟩
      · refine VSome.mk (k.vst (Nat.le_of_ble_eq_true (by rfl)) fun _ k => ?_)
        rw [hc2, Bool.or_true]; exact k
      · rw [hc, hc2, Bool.or_false, Bool.or_false]; exact k
  clear k
  rintro h11 _ k
  generalize hb2 : (bad1 || decide (n < 0) || decide (n > (l1 : Int))) = bad2 at k
  have hb3 : bad2 = false → 0 ≤ n ∧ n ≤ l1 := fun h => by
    rw [h] at hb2
    simp only [Bool.or_eq_false_iff, decide_eq_false_iff_not] at hb2
    omega
  refine ⟨fun m h' x b ll cc => ∃ (xs : List (List Val)) (a2 : Option Addr) (l2 c2 : Nat) (bs2 : Bytes) (bad3 : Bool), ll = xs.length ∧ x = n - (xs.length : Int) ∧ m = n.toNat - xs.length ∧ (bad2 = false → xs.length ≤ n.toNat) ∧ (bad2 = true → xs = []) ∧ Nxt a1 l1 c1 bs1 a2 l2 c2 bs2 ∧ StepO (repO (lisO valO) xs.length) bs1 bad2 xs bs2 bad3 ∧
      St F h h' [RP t p a2 l2 c2 bad3, rowE.L b xs.length cc xs], ⟨_, [], a1, l1, c1, bs1, bad2, rfl, by simp, rfl, fun _ => Nat.zero_le _, fun _ => rfl, .refl, .ret _, (El.nil rowE k).pull1⟩, ?_⟩
  clear k
  rintro m h15 _ x b ll cc ⟨xs, a2, l2, c2, bs2, bad3, rfl, rfl, rfl, q1, q2, nx2, s2, k⟩
  have hxl : xs.length ≤ l1 := by
    cases hb4 : bad2
    · have := q1 hb4; have := hb3 hb4; omega
    · rw [q2 hb4]; exact Nat.zero_le _
  have fin : (bad3 = true ∨ n ≤ xs.length) → ∃ (xs' : List (List Val)) (b' : Option Addr) (cc' : Nat) (a1 : Option Addr) (l1 c1 : Nat) (bs1 : Bytes) (bad1 : Bool), (Value.slice b xs.length cc) = .slice b' xs'.length cc' ∧ Nxt a l c bs a1 l1 c1 bs1 ∧ StepO (lisO (lisO valO)) bs bad xs' bs1 bad1 ∧ xs'.length ≤ l ∧ St F h h15 [RP t p a1 l1 c1 bad1, rowE.L b' xs'.length cc' xs'] := fun hend =>
    ⟨xs, b, cc, a2, l2, c2, bs2, bad3, rfl, nx1.trans nx2, s1.bind (many_fin (by rw [hl1]; exact hb2.symm) s2 q1 hend), by omega, k⟩
  refine cond_split (fun hc => ?_) (fun hc => ?_)
  · have hgt : n - (xs.length : Int) > 0 := of_decide_eq_true hc
    refine VSome.mk ⟨_, k.rd (by rfl), ?_⟩
    cases hb4 : bad3
    · refine cond_true rfl ?_
      subst hb4
      have hb5 : bad2 = false := by
        rcases s2 with ⟨_, h⟩ | ⟨h, _⟩ | ⟨_, h, _⟩
        · cases h
        · exact h
        · cases h
      have hq := hb3 hb5
      obtain ⟨F', G, kF, kG, d, hF, back⟩ := k.frame2
      refine CallsH.mono (rowP_step kF ((r1.nxt nx2).at k.ext hF)) ?_
      rintro _ h23 ⟨s, a3, l3, c3, bs3, bad4, rfl, nx3, s3, k2⟩
      have k := back k2
      clear back kF kG d hF
      refine ⟨_, _, _, rfl, _, _, _, rfl, k.vnew fun bb h29 k => ?_⟩
      have k := k.sel 4 [0, 2, 3, 1] rfl (by decide) (L' := [A.blk bb (rowE.cells s).toArray rowE.e, rowE.own s, rowE.L b xs.length cc xs, _]) (by rfl)
      refine El.app (E := rowE) TR30 k (by omega) fun b' cc' h' k => ⟨_, _, _, rfl, n.toNat - (xs.length + 1), by omega, xs ++ [rowE.val s], a3, l3, c3, bs3, bad4, by simp, ?_, by simp, fun _ => by rw [List.length_append]; simp only [List.length_singleton]; omega, fun h => by (rw [hb5] at h; cases h), nx2.trans nx3, ?_, ?_⟩
      · rw [wrap_id (by omega) (by omega), List.length_append]; simp only [List.length_singleton]; omega
      · rw [List.length_append]; exact s2.snoc s3
      · rw [List.length_append]; exact k.pull1
    · exact cond_false rfl (fin (.inl hb4))
  · have hle : ¬ n - (xs.length : Int) > 0 := of_decide_eq_false hc
    exact fin (.inr (by omega))
theorem hitP_step (k0 : Holds [RP t p a l c bad] F h) (r : RdP F h a l c bs) : CallsH Tryd.prog 48 #[.pointer (some ⟨p, 0, none⟩)] h
    (fun v h' => ∃ (s : Sx) (a1 : Option Addr) (l1 c1 : Nat) (bs1 : Bytes) (bad1 : Bool), v = .agg #[.string (bA s.x.q), .slice s.a s.x.row.length s.c] ∧ Nxt a l c bs a1 l1 c1 bs1 ∧ StepO hitO bs bad s.x bs1 bad1 ∧ St F h h' [RP t p a1 l1 c1 bad1, valE.L s.a s.x.row.length s.c s.x.row]) := by
  refine vf48 _ h _ ?_
  unfold F48
  have k := St.start k0
  refine k.vnew fun b1 h2 k => ?_
  obtain ⟨F', G, kF, kG, d, hF, back⟩ := k.pull1.frameA
  refine CallsH.mono (texP_step kF (r.at k.ext hF)) ?_
  rintro _ h4 ⟨q, a1, l1, c1, bs1, bad1, rfl, nx1, s1, k2⟩
  have k := back k2
  clear back kF kG d hF
  refine ⟨_, rfl, ?_⟩
  obtain ⟨F', G, kF, kG, d, hF, back⟩ := k.frame2
  refine CallsH.mono (rowP_step kF ((r.nxt nx1).at k.ext hF)) ?_
  rintro _ h7 ⟨s, a2, l2, c2, bs2, bad2, rfl, nx2, s2, k2⟩
  have k := back k2
  refine ⟨_, _, _, rfl, k.vall (by rfl) (by rfl) fun h9 k => ⟨_, k.rd (by rfl), _, _, _, k.rd (by rfl), ⟨s.a, s.c, ⟨q, s.vs⟩⟩, a2, l2, c2, bs2, bad2, rfl, nx1.trans nx2, s1.bind (s2.bind (.ret _)), k.only2⟩⟩
theorem hitsP_step (k0 : Holds [RP t p a l c bad] F h) (r : RdP F h a l c bs) : CallsH Tryd.prog 47 #[.pointer (some ⟨p, 0, none⟩), .func (.func 48) #[.pointer (some ⟨p, 0, none⟩)] #[]] h
    (fun v h' => ∃ (xs : List (Hi)) (b : Option Addr) (cc : Nat) (a1 : Option Addr) (l1 c1 : Nat) (bs1 : Bytes) (bad1 : Bool), v = .slice b xs.length cc ∧ Nxt a l c bs a1 l1 c1 bs1 ∧ StepO (lisO (hitO)) bs bad xs bs1 bad1 ∧ xs.length ≤ l ∧ St F h h' [RP t p a1 l1 c1 bad1, hitE.L b xs.length cc xs]) := by
  refine vf47 _ _ h _ ?_
  unfold F47
  have k := St.start k0
  have hbig := r.big
  obtain ⟨F', G, kF, kG, d, hF, back⟩ := k.frameA
  refine CallsH.mono (numP_step kF (r.at k.ext hF)) ?_
  rintro _ h2 ⟨n, a1, l1, c1, bs1, bad1, rfl, nx1, s1, hn64, _, k2⟩
  have k := back k2
  clear back kF kG d hF
  have r1 := r.nxt nx1
  have hl1 := r1.len
  have hle1 := nx1.le
  refine ⟨_, rfl, fun h' => St F h h' [RP t p a1 l1 c1 (bad1 || decide (n < 0) || decide (n > (l1 : Int)))], ?_, ?_⟩
  · refine cond_split (fun hc => ?_) (fun hc => ?_)
    · refine VSome.mk (k.vst (Nat.le_of_ble_eq_true (by rfl)) fun _ k => ?_)
      rw [hc, Bool.or_true, Bool.true_or]; exact k
    · refine VSome.mk ⟨_, _, _, k.rd (by rfl), cond_split (fun hc2 => ?_) (fun hc2 => ?_)⟩
      · refine VSome.mk (k.vst (Nat.le_of_ble_eq_true (by rfl)) fun _ k => ?_)
        rw [hc2, Bool.or_true]; exact k
      · rw [hc, hc2, Bool.or_false, Bool.or_false]; exact k
  clear k
  rintro h11 _ k
  generalize hb2 : (bad1 || decide (n < 0) || decide (n > (l1 : Int))) = bad2 at k
  have hb3 : bad2 = false → 0 ≤ n ∧ n ≤ l1 := fun h => by
    rw [h] at hb2
    simp only [Bool.or_eq_false_iff, decide_eq_false_iff_not] at hb2
    omega
  refine ⟨fun m h' x b ll cc => ∃ (xs : List (Hi)) (a2 : Option Addr) (l2 c2 : Nat) (bs2 : Bytes) (bad3 : Bool), ll = xs.length ∧ x = n - (xs.length : Int) ∧ m = n.toNat - xs.length ∧ (bad2 = false → xs.length ≤ n.toNat) ∧ (bad2 = true → xs = []) ∧ Nxt a1 l1 c1 bs1 a2 l2 c2 bs2 ∧ StepO (repO (hitO) xs.length) bs1 bad2 xs bs2 bad3 ∧
      St F h h' [RP t p a2 l2 c2 bad3, hitE.L b xs.length cc xs], ⟨_, [], a1, l1, c1, bs1, bad2, rfl, by simp, rfl, fun _ => Nat.zero_le _, fun _ => rfl, .refl, .ret _, (El.nil hitE k).pull1⟩, ?_⟩
  clear k
  rintro m h15 _ x b ll cc ⟨xs, a2, l2, c2, bs2, bad3, rfl, rfl, rfl, q1, q2, nx2, s2, k⟩
  have hxl : xs.length ≤ l1 := by
    cases hb4 : bad2
    · have := q1 hb4; have := hb3 hb4; omega
    · rw [q2 hb4]; exact Nat.zero_le _
  have fin : (bad3 = true ∨ n ≤ xs.length) → ∃ (xs' : List (Hi)) (b' : Option Addr) (cc' : Nat) (a1 : Option Addr) (l1 c1 : Nat) (bs1 : Bytes) (bad1 : Bool), (Value.slice b xs.length cc) = .slice b' xs'.length cc' ∧ Nxt a l c bs a1 l1 c1 bs1 ∧ StepO (lisO (hitO)) bs bad xs' bs1 bad1 ∧ xs'.length ≤ l ∧ St F h h15 [RP t p a1 l1 c1 bad1, hitE.L b' xs'.length cc' xs'] := fun hend =>
    ⟨xs, b, cc, a2, l2, c2, bs2, bad3, rfl, nx1.trans nx2, s1.bind (many_fin (by rw [hl1]; exact hb2.symm) s2 q1 hend), by omega, k⟩
  refine cond_split (fun hc => ?_) (fun hc => ?_)
  · have hgt : n - (xs.length : Int) > 0 := of_decide_eq_true hc
    refine VSome.mk ⟨_, k.rd (by rfl), ?_⟩
    cases hb4 : bad3
    · refine cond_true rfl ?_
      subst hb4
      have hb5 : bad2 = false := by
        rcases s2 with ⟨_, h⟩ | ⟨h, _⟩ | ⟨_, h, _⟩
        · cases h
        · exact h
        · cases h
      have hq := hb3 hb5
      obtain ⟨F', G, kF, kG, d, hF, back⟩ := k.frame2
      refine CallsH.mono (hitP_step kF ((r1.nxt nx2).at k.ext hF)) ?_
      rintro _ h23 ⟨s, a3, l3, c3, bs3, bad4, rfl, nx3, s3, k2⟩
      have k := back k2
      clear back kF kG d hF
      refine ⟨_, _, _, _, rfl, _, _, _, _, rfl, k.vnew fun bb h29 k => ?_⟩
      have k := k.sel 4 [0, 2, 3, 1] rfl (by decide) (L' := [A.blk bb (hitE.cells s).toArray hitE.e, hitE.own s, hitE.L b xs.length cc xs, _]) (by rfl)
      refine El.app (E := hitE) T29 k (by omega) fun b' cc' h' k => ⟨_, _, _, rfl, n.toNat - (xs.length + 1), by omega, xs ++ [hitE.val s], a3, l3, c3, bs3, bad4, by simp, ?_, by simp, fun _ => by rw [List.length_append]; simp only [List.length_singleton]; omega, fun h => by (rw [hb5] at h; cases h), nx2.trans nx3, ?_, ?_⟩
      · rw [wrap_id (by omega) (by omega), List.length_append]; simp only [List.length_singleton]; omega
      · rw [List.length_append]; exact s2.snoc s3
      · rw [List.length_append]; exact k.pull1
    · exact cond_false rfl (fin (.inl hb4))
  · have hle : ¬ n - (xs.length : Int) > 0 := of_decide_eq_false hc
    exact fin (.inr (by omega))
theorem errP_step {tq q : Nat} (k0 : Holds [RP t p a l c bad, A.blk q #[.pointer (some ⟨p, 0, none⟩)] tq] F h) (r : RdP F h a l c bs) : CallsH Tryd.prog 46 #[.pointer (some ⟨q, 0, none⟩)] h
    (fun v h' => ∃ (x : Int) (a1 : Option Addr) (l1 c1 : Nat) (bs1 : Bytes) (bad1 : Bool), v = .int .i64 x ∧ Nxt a l c bs a1 l1 c1 bs1 ∧ StepO numO bs bad x bs1 bad1 ∧ St F h h' [RP t p a1 l1 c1 bad1, A.blk q #[.pointer (some ⟨p, 0, none⟩)] tq]) := by
  refine vf46 _ h _ ?_
  unfold F46
  have k := St.start k0
  refine VSome.mk ⟨_, k.rd (by rfl), ?_⟩
  obtain ⟨F', G, kF, kG, d, hF, back⟩ := k.frameA
  refine CallsH.mono (numP_step kF (r.at k.ext hF)) ?_
  rintro _ h4 ⟨x, a1, l1, c1, bs1, bad1, rfl, nx1, s1, _, _, k2⟩
  exact ⟨_, rfl, x, a1, l1, c1, bs1, bad1, rfl, nx1, s1, back k2⟩
theorem errsP_step {tq q : Nat} (k0 : Holds [RP t p a l c bad, A.blk q #[.pointer (some ⟨p, 0, none⟩)] tq] F h) (r : RdP F h a l c bs) : CallsH Tryd.prog 45 #[.pointer (some ⟨p, 0, none⟩), .func (.func 46) #[] #[.pointer (some ⟨q, 0, none⟩)]] h
    (fun v h' => ∃ (xs : List (Int)) (b : Option Addr) (cc : Nat) (a1 : Option Addr) (l1 c1 : Nat) (bs1 : Bytes) (bad1 : Bool), v = .slice b xs.length cc ∧ Nxt a l c bs a1 l1 c1 bs1 ∧ StepO (lisO (numO)) bs bad xs bs1 bad1 ∧ xs.length ≤ l ∧ St F h h' [RP t p a1 l1 c1 bad1, A.blk q #[.pointer (some ⟨p, 0, none⟩)] tq, errE.L b xs.length cc xs]) := by
  refine vf45 _ _ h _ ?_
  unfold F45
  have k := St.start k0
  have hbig := r.big
  obtain ⟨F', G, kF, kG, d, hF, back⟩ := k.frameA
  refine CallsH.mono (numP_step kF (r.at k.ext hF)) ?_
  rintro _ h2 ⟨n, a1, l1, c1, bs1, bad1, rfl, nx1, s1, hn64, _, k2⟩
  have k := back k2
  clear back kF kG d hF
  have r1 := r.nxt nx1
  have hl1 := r1.len
  have hle1 := nx1.le
  refine ⟨_, rfl, fun h' => St F h h' [RP t p a1 l1 c1 (bad1 || decide (n < 0) || decide (n > (l1 : Int))), A.blk q #[.pointer (some ⟨p, 0, none⟩)] tq], ?_, ?_⟩
  · refine cond_split (fun hc => ?_) (fun hc => ?_)
    · refine VSome.mk (k.vst (Nat.le_of_ble_eq_true (by rfl)) fun _ k => ?_)
      rw [hc, Bool.or_true, Bool.true_or]; exact k
    · refine VSome.mk ⟨_, _, _, k.rd (by rfl), cond_split (fun hc2 => ?_) (fun hc2 => ?_)⟩
      · refine VSome.mk (k.vst (Nat.le_of_ble_eq_true (by rfl)) fun _ k => ?_)
        rw [hc2, Bool.or_true]; exact k
      · rw [hc, hc2, Bool.or_false, Bool.or_false]; exact k
  clear k
  rintro h11 _ k
  generalize hb2 : (bad1 || decide (n < 0) || decide (n > (l1 : Int))) = bad2 at k
  have hb3 : bad2 = false → 0 ≤ n ∧ n ≤ l1 := fun h => by
    rw [h] at hb2
    simp only [Bool.or_eq_false_iff, decide_eq_false_iff_not] at hb2
    omega
  refine ⟨fun m h' x b ll cc => ∃ (xs : List (Int)) (a2 : Option Addr) (l2 c2 : Nat) (bs2 : Bytes) (bad3 : Bool), ll = xs.length ∧ x = n - (xs.length : Int) ∧ m = n.toNat - xs.length ∧ (bad2 = false → xs.length ≤ n.toNat) ∧ (bad2 = true → xs = []) ∧ Nxt a1 l1 c1 bs1 a2 l2 c2 bs2 ∧ StepO (repO (numO) xs.length) bs1 bad2 xs bs2 bad3 ∧
      St F h h' [RP t p a2 l2 c2 bad3, A.blk q #[.pointer (some ⟨p, 0, none⟩)] tq, errE.L b xs.length cc xs], ⟨_, [], a1, l1, c1, bs1, bad2, rfl, by simp, rfl, fun _ => Nat.zero_le _, fun _ => rfl, .refl, .ret _, (El.nil errE k).pull2.pull2⟩, ?_⟩
  clear k
  rintro m h15 _ x b ll cc ⟨xs, a2, l2, c2, bs2, bad3, rfl, rfl, rfl, q1, q2, nx2, s2, k⟩
  have hxl : xs.length ≤ l1 := by
    cases hb4 : bad2
    · have := q1 hb4; have := hb3 hb4; omega
    · rw [q2 hb4]; exact Nat.zero_le _
  have fin : (bad3 = true ∨ n ≤ xs.length) → ∃ (xs' : List (Int)) (b' : Option Addr) (cc' : Nat) (a1 : Option Addr) (l1 c1 : Nat) (bs1 : Bytes) (bad1 : Bool), (Value.slice b xs.length cc) = .slice b' xs'.length cc' ∧ Nxt a l c bs a1 l1 c1 bs1 ∧ StepO (lisO (numO)) bs bad xs' bs1 bad1 ∧ xs'.length ≤ l ∧ St F h h15 [RP t p a1 l1 c1 bad1, A.blk q #[.pointer (some ⟨p, 0, none⟩)] tq, errE.L b' xs'.length cc' xs'] := fun hend =>
    ⟨xs, b, cc, a2, l2, c2, bs2, bad3, rfl, nx1.trans nx2, s1.bind (many_fin (by rw [hl1]; exact hb2.symm) s2 q1 hend), by omega, k⟩
  refine cond_split (fun hc => ?_) (fun hc => ?_)
  · have hgt : n - (xs.length : Int) > 0 := of_decide_eq_true hc
    refine VSome.mk ⟨_, k.rd (by rfl), ?_⟩
    cases hb4 : bad3
    · refine cond_true rfl ?_
      subst hb4
      have hb5 : bad2 = false := by
        rcases s2 with ⟨_, h⟩ | ⟨h, _⟩ | ⟨_, h, _⟩
        · cases h
        · exact h
        · cases h
      have hq := hb3 hb5
      obtain ⟨F', G, kF, kG, d, hF, back⟩ := k.frameB
      refine CallsH.mono (errP_step kF ((r1.nxt nx2).at k.ext hF)) ?_
      rintro _ h23 ⟨s, a3, l3, c3, bs3, bad4, rfl, nx3, s3, k2⟩
      have k := back k2
      clear back kF kG d hF
      refine ⟨_, rfl, _, rfl, k.vnew fun bb h29 k => ?_⟩
      have k := (k.all0).sel 5 [1, 0, 4, 2, 3] rfl (by decide) (L' := [A.blk bb (errE.cells s).toArray errE.e, errE.own s, errE.L b xs.length cc xs, _, _]) (by rfl)
      refine El.app (E := errE) T28 k (by omega) fun b' cc' h' k => ⟨_, _, _, rfl, n.toNat - (xs.length + 1), by omega, xs ++ [errE.val s], a3, l3, c3, bs3, bad4, by simp, ?_, by simp, fun _ => by rw [List.length_append]; simp only [List.length_singleton]; omega, fun h => by (rw [hb5] at h; cases h), nx2.trans nx3, ?_, ?_⟩
      · rw [wrap_id (by omega) (by omega), List.length_append]; simp only [List.length_singleton]; omega
      · rw [List.length_append]; exact s2.snoc s3
      · rw [List.length_append]; exact k.pull2.pull2
    · exact cond_false rfl (fin (.inl hb4))
  · have hle : ¬ n - (xs.length : Int) > 0 := of_decide_eq_false hc
    exact fin (.inr (by omega))
end Go.Proofs.YtgdgebmlcgohhaaDoor.F
