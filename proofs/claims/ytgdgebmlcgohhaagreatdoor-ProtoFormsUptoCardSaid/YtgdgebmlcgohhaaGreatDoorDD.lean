/- The document reads a reply. Conditions: none. -/
import Derived.Test.YtgdgebmlcgohhaaGreatDoorDC
namespace Go.Proofs.YtgdgebmlcgohhaaGreatDoor.F
open Go Go.VC Go.Proofs
set_option linter.unusedSimpArgs false
set_option linter.unusedVariables false
set_option maxRecDepth 100000
attribute [local irreducible] CallsH RunsTo PureTo

variable {S F G : Nat → Prop} {h0 h h1 : Heap} {L R L' : List A} {a b a1 a2 : Option Addr} {l c l1 c1 l2 c2 p t b1 : Nat} {bs cs bs1 bs2 : List UInt8} {err e1 : Int} {v : Val} {bad bad1 bad2 : Bool} {q q2 : Rp}
theorem loopC {x : Bool} {ad : Addr} {bad : Bool} {STEP REST : Prop} (hb : cellH h ad = some (.bool bad)) (step : x = true → bad = false → STEP) (rest : x = false ∨ bad = true → REST) :
    cond x (∃ b : Bool, cellH h ad = some (.bool b) ∧ cond (!b) STEP REST) REST := by
  cases x
  · exact rest (.inl rfl)
  · refine ⟨bad, hb, ?_⟩
    cases bad
    · exact step rfl rfl
    · exact rest (.inr rfl)
set_option maxHeartbeats 4000000 in
theorem dtold_spec (hsl : Sl h a (bytesV bs)) (hl : bs.length = l) (hlc : l ≤ c) : CallsH Tryz.prog 36 #[.slice a l c] h
    (fun v h' => ∃ ga gc ha hc na nc ra rc, v = .tuple #[aggP (toldR bs).1 ga gc ha hc na nc ra rc, .int .i64 (toldR bs).2] ∧ St none_ h h' [errE.L ga (toldR bs).1.errs.length gc (toldR bs).1.errs, hitE.L ha (toldR bs).1.hits.length hc (toldR bs).1.hits, texE.L na (toldR bs).1.names.length nc (toldR bs).1.names, rowE.L ra (toldR bs).1.rows.length rc (toldR bs).1.rows]) := by
  refine vf36 _ _ _ h _ ?_
  unfold F36
  have k := St.fresh h
  refine k.vnew fun b1 h2 k => ?_
  have out : ∀ {h' : Heap} {R : List A} (e : Int), St none_ h h' R → toldR bs = (noRp, e) → ∃ ga gc ha hc na nc ra rc, (Value.tuple #[aggP noRp none 0 none 0 none 0 none 0, .int .i64 e]) = .tuple #[aggP (toldR bs).1 ga gc ha hc na nc ra rc, .int .i64 (toldR bs).2] ∧
      St none_ h h' [errE.L ga (toldR bs).1.errs.length gc (toldR bs).1.errs, hitE.L ha (toldR bs).1.hits.length hc (toldR bs).1.hits, texE.L na (toldR bs).1.names.length nc (toldR bs).1.names, rowE.L ra (toldR bs).1.rows.length rc (toldR bs).1.rows] := fun {h' R} e k hr => by
    rw [hr]
    have k := St.dropL (L := R) (R := []) (by rw [List.append_nil]; exact k)
    exact ⟨none, 0, none, 0, none, 0, none, 0, rfl, El.nil errE (El.nil hitE (El.nil texE (El.nil rowE k)))⟩
  refine cond_split (fun hc => ?_) (fun hc => ?_)
  · have hc : 65528 < bs.length := by
      have : (l : Int) > 65528 := of_decide_eq_true hc
      omega
    exact k.vall (by rfl) (by rfl) fun _ k => ⟨_, k.rd (by rfl), _, k.rd (by rfl), _, k.rd (by rfl), _, k.rd (by rfl), _, _, _, k.rd (by rfl), _, _, _, k.rd (by rfl), _, _, _, k.rd (by rfl), _, _, _, k.rd (by rfl), _, k.rd (by rfl), _, k.rd (by rfl), _, k.rd (by rfl), _, k.rd (by rfl), out 2 k (if_pos hc)⟩
  have hle : ¬ 65528 < bs.length := by
    have : ¬ (l : Int) > 65528 := of_decide_eq_false hc
    omega
  clear hc
  refine k.vnew fun b16 h17 k => k.vnew fun b18 h19 k => ?_
  have r : RdP none_ h a l c bs := ⟨hsl.ro, hl, hlc, by omega⟩
  have k : St none_ h h19 [A.blk b18 (rpV noRp none 0 none 0 none 0 none 0).toArray 65, RP 158 b16 a l c false, A.blk b1 (rpV noRp none 0 none 0 none 0 none 0).toArray 65] := k
  have k := k.pull1
  have nx0 : Nxt a l c bs a l c bs := .refl
  obtain ⟨F', G, kF, kG, d, hF, back⟩ := k.frameA
  refine CallsH.mono (truD_step kF ((r.nxt nx0).at k.ext hF)) ?_
  rintro _ _ ⟨note, a1, l1, c1, bs1, bad1, rfl, nx1, s1, k2⟩
  have k := back k2
  clear back kF kG d hF
  replace nx1 := nx0.trans nx1
  refine ⟨_, rfl, k.vst (Nat.le_of_ble_eq_true (by rfl)) fun _ k => ?_⟩
  have k := k.reB (b := b18) (rpV ⟨0, note, 0, 0, [], [], [], [], 0, 0, 0, false⟩ none 0 none 0 none 0 none 0).toArray (by rfl)
  obtain ⟨F', G, kF, kG, d, hF, back⟩ := k.frameA
  refine CallsH.mono (idD_step kF ((r.nxt nx1).at k.ext hF)) ?_
  rintro _ _ ⟨id, a2, l2, c2, bs2, bad2, rfl, nx2, s2, _, k2⟩
  have k := back k2
  clear back kF kG d hF
  replace nx2 := nx1.trans nx2
  refine ⟨_, rfl, k.vst (Nat.le_of_ble_eq_true (by rfl)) fun _ k => ?_⟩
  have k := k.reB (b := b18) (rpV ⟨id, note, 0, 0, [], [], [], [], 0, 0, 0, false⟩ none 0 none 0 none 0 none 0).toArray (by rfl)
  obtain ⟨F', G, kF, kG, d, hF, back⟩ := k.frameA
  refine CallsH.mono (numD_step kF ((r.nxt nx2).at k.ext hF)) ?_
  rintro _ _ ⟨er, a3, l3, c3, bs3, bad3, rfl, nx3, s3, _, _, k2⟩
  have k := back k2
  clear back kF kG d hF
  replace nx3 := nx2.trans nx3
  refine ⟨_, rfl, k.vst (Nat.le_of_ble_eq_true (by rfl)) fun _ k => ?_⟩
  have k := k.reB (b := b18) (rpV ⟨id, note, er, 0, [], [], [], [], 0, 0, 0, false⟩ none 0 none 0 none 0 none 0).toArray (by rfl)
  obtain ⟨F', G, kF, kG, d, hF, back⟩ := k.frameA
  refine CallsH.mono (numD_step kF ((r.nxt nx3).at k.ext hF)) ?_
  rintro _ _ ⟨at_, a4, l4, c4, bs4, bad4, rfl, nx4, s4, _, _, k2⟩
  have k := back k2
  clear back kF kG d hF
  replace nx4 := nx3.trans nx4
  refine ⟨_, rfl, k.vst (Nat.le_of_ble_eq_true (by rfl)) fun _ k => ?_⟩
  have k := k.reB (b := b18) (rpV ⟨id, note, er, at_, [], [], [], [], 0, 0, 0, false⟩ none 0 none 0 none 0 none 0).toArray (by rfl)
  have k := (El.nil errE k)
  have k := k.sel 4 [1, 2, 0, 3] rfl (by decide) (L' := [_, _, _, _]) (by rfl)
  obtain ⟨F', G, kF, kG, d, hF, back⟩ := k.frameA
  refine CallsH.mono (manyD_step kF ((r.nxt nx4).at k.ext hF)) ?_
  rintro _ _ ⟨n5, x5, a5, l5, c5, bs5, badA5, badB5, rfl, nx5, sn5, hb5, q5, qz5, p5, pl5, k2⟩
  have k := back k2
  clear back kF kG d hF
  replace nx5 := nx4.trans nx5
  have ll5 := nx5.le
  refine ⟨_, rfl, fun m h' i => ∃ (xs : List Int) (la : Option Addr) (lc : Nat) (a' : Option Addr) (l' c' : Nat) (bs' : Bytes) (bad' : Bool), i = (xs.length : Int) ∧ m = x5.toNat - xs.length ∧ xs.length ≤ x5.toNat ∧ Nxt a l c bs a' l' c' bs' ∧ StepO (repO (numO) xs.length) bs5 badB5 xs bs' bad' ∧
      St none_ h h' [RP 158 b16 a' l' c' bad', A.blk b18 (rpV ⟨id, note, er, at_, xs, [], [], [], 0, 0, 0, false⟩ la lc none 0 none 0 none 0).toArray 65, errE.L la xs.length lc xs, A.blk b1 (rpV noRp none 0 none 0 none 0 none 0).toArray 65], ⟨_, [], none, 0, a5, l5, c5, bs5, badB5, rfl, rfl, Nat.zero_le _, nx5, .ret _, k⟩, ?_⟩
  clear k
  rintro mm5 hh5 _ i5 ⟨xs5, la5, lc5, aa5, al5, ac5, bb5, bd5, rfl, rfl, hxl5, ny5, sx5, k⟩
  refine loopC (k.rd (by rfl)) (fun hlt hbad => ?_) (fun hend => ?_)
  · replace hlt : (xs5.length : Int) < x5 := of_decide_eq_true hlt
    have e1 : ∀ y : Int, xs5.length + 1 = (xs5 ++ [y]).length := fun y => by simp
    obtain ⟨F', G, kF, kG, d, hF, back⟩ := k.frameA
    refine CallsH.mono (numD_step kF ((r.nxt ny5).at k.ext hF)) ?_
    rintro _ _ ⟨y, a2', l2', c2', bs2', bad2', rfl, nz, sy, _, _, k2⟩
    have k := back k2
    clear back kF kG d hF
    refine ⟨_, rfl, _, _, _, k.rd (by rfl), k.vnew fun bb _ k => ?_⟩
    have k := (k.all0).sel 6 [1, 0, 4, 2, 3, 5] rfl (by decide) (L' := [A.blk bb (errE.cells y).toArray errE.e, errE.own y, _, _, _, _]) (by rfl)
    have nz := ny5.trans nz
    refine El.app (E := errE) T28 k (by omega) fun la' lc' _ k => ⟨_, _, _, rfl, ?_⟩
    have k : St none_ h _ (errE.L la' (xs5.length + 1) lc' (xs5 ++ [y]) :: _) := k
    rw [e1 y] at k ⊢
    refine k.vst (Nat.le_of_ble_eq_true (by rfl)) fun _ k => ?_
    have k := k.reB (b := b18) (rpV ⟨id, note, er, at_, xs5 ++ [y], [], [], [], 0, 0, 0, false⟩ la' lc' none 0 none 0 none 0).toArray (by rfl)
    have k := k.sel 4 [1, 2, 0, 3] rfl (by decide) (L' := [_, _, _, _]) (by rfl)
    refine ⟨x5.toNat - (xs5.length + 1), by omega, xs5 ++ [y], la', lc', a2', l2', c2', bs2', bad2', ?_, by simp, by rw [List.length_append]; simp only [List.length_singleton]; omega, nz, ?_, k⟩
    · rw [wrap_id (by omega) (by omega), List.length_append]; rfl
    · subst hbad; rw [List.length_append]; exact sx5.snoc sy
  have s5 := many_end sn5 hb5 q5 sx5 (fun _ => hxl5) (hend.elim (fun h => .inr (by have : ¬ (xs5.length : Int) < x5 := of_decide_eq_false h; omega)) .inl)
  clear hend
  replace nx5 := ny5
  unfold G36a
  have k := (El.nil hitE k)
  have k := k.sel 5 [1, 2, 3, 0, 4] rfl (by decide) (L' := [_, _, _, _, _]) (by rfl)
  obtain ⟨F', G, kF, kG, d, hF, back⟩ := k.frameA
  refine CallsH.mono (manyD_step kF ((r.nxt nx5).at k.ext hF)) ?_
  rintro _ _ ⟨n6, x6, a6, l6, c6, bs6, badA6, badB6, rfl, nx6, sn6, hb6, q6, qz6, p6, pl6, k2⟩
  have k := back k2
  clear back kF kG d hF
  replace nx6 := nx5.trans nx6
  have ll6 := nx6.le
  refine ⟨_, rfl, fun m h' i => ∃ (xs : List Hi) (la : Option Addr) (lc : Nat) (a' : Option Addr) (l' c' : Nat) (bs' : Bytes) (bad' : Bool), i = (xs.length : Int) ∧ m = x6.toNat - xs.length ∧ xs.length ≤ x6.toNat ∧ Nxt a l c bs a' l' c' bs' ∧ StepO (repO (hitO) xs.length) bs6 badB6 xs bs' bad' ∧
      St none_ h h' [RP 158 b16 a' l' c' bad', A.blk b18 (rpV ⟨id, note, er, at_, xs5, xs, [], [], 0, 0, 0, false⟩ la5 lc5 la lc none 0 none 0).toArray 65, errE.L la5 xs5.length lc5 xs5, hitE.L la xs.length lc xs, A.blk b1 (rpV noRp none 0 none 0 none 0 none 0).toArray 65], ⟨_, [], none, 0, a6, l6, c6, bs6, badB6, rfl, rfl, Nat.zero_le _, nx6, .ret _, k⟩, ?_⟩
  clear k
  rintro mm6 hh6 _ i6 ⟨xs6, la6, lc6, aa6, al6, ac6, bb6, bd6, rfl, rfl, hxl6, ny6, sx6, k⟩
  refine loopC (k.rd (by rfl)) (fun hlt hbad => ?_) (fun hend => ?_)
  · replace hlt : (xs6.length : Int) < x6 := of_decide_eq_true hlt
    have e1 : ∀ y : Hi, xs6.length + 1 = (xs6 ++ [y]).length := fun y => by simp
    obtain ⟨F', G, kF, kG, d, hF, back⟩ := k.frameA
    refine CallsH.mono (texD_step kF ((r.nxt ny6).at k.ext hF)) ?_
    rintro _ _ ⟨y, a1', l1', c1', bs1', bad1', rfl, nx1', sy1, k2⟩
    have k := back k2
    clear back kF kG d hF
    replace nx1' := ny6.trans nx1'
    refine ⟨_, rfl, ?_⟩
    obtain ⟨F', G, kF, kG, d, hF, back⟩ := k.frame2
    refine CallsH.mono (valsD_step kF ((r.nxt nx1').at k.ext hF)) ?_
    rintro _ _ ⟨row, ya, yc, a2', l2', c2', bs2', bad2', rfl, nz, sy2, _, k2⟩
    have k := back k2
    clear back kF kG d hF
    refine ⟨_, _, _, rfl, _, _, _, k.rd (by rfl), k.vnew fun bb _ k => ?_⟩
    have k := k.sel 7 [0, 2, 5, 1, 3, 4, 6] rfl (by decide) (L' := [A.blk bb (hitE.cells ⟨ya, yc, ⟨y, row⟩⟩).toArray hitE.e, hitE.own ⟨ya, yc, ⟨y, row⟩⟩, _, _, _, _, _]) (by rfl)
    have nz := nx1'.trans nz
    refine El.app (E := hitE) T29 k (by omega) fun la' lc' _ k => ⟨_, _, _, rfl, ?_⟩
    have k : St none_ h _ (hitE.L la' (xs6.length + 1) lc' (xs6 ++ [⟨y, row⟩]) :: _) := k
    rw [e1 ⟨y, row⟩] at k ⊢
    refine k.vst (Nat.le_of_ble_eq_true (by rfl)) fun _ k => ?_
    have k := k.reB (b := b18) (rpV ⟨id, note, er, at_, xs5, xs6 ++ [⟨y, row⟩], [], [], 0, 0, 0, false⟩ la5 lc5 la' lc' none 0 none 0).toArray (by rfl)
    have k := k.sel 5 [1, 2, 3, 0, 4] rfl (by decide) (L' := [_, _, _, _, _]) (by rfl)
    refine ⟨x6.toNat - (xs6.length + 1), by omega, xs6 ++ [⟨y, row⟩], la', lc', a2', l2', c2', bs2', bad2', ?_, by simp, by rw [List.length_append]; simp only [List.length_singleton]; omega, nz, ?_, k⟩
    · rw [wrap_id (by omega) (by omega), List.length_append]; rfl
    · subst hbad; rw [List.length_append]; exact sx6.snoc (sy1.bind (sy2.bind (.ret _)))
  have s6 := many_end sn6 hb6 q6 sx6 (fun _ => hxl6) (hend.elim (fun h => .inr (by have : ¬ (xs6.length : Int) < x6 := of_decide_eq_false h; omega)) .inl)
  clear hend
  replace nx6 := ny6
  unfold G36b
  obtain ⟨F', G, kF, kG, d, hF, back⟩ := k.frame2
  refine CallsH.mono (texsD_step kF ((r.nxt nx6).at k.ext hF)) ?_
  rintro _ _ ⟨xs7, la7, lc7, a7, l7, c7, bs7, bad7, rfl, nx7, s7, _, k2⟩
  have k := back k2
  clear back kF kG d hF
  replace nx7 := nx6.trans nx7
  refine ⟨_, _, _, rfl, k.vst (Nat.le_of_ble_eq_true (by rfl)) fun _ k => ?_⟩
  have k := k.reB (b := b18) (rpV ⟨id, note, er, at_, xs5, xs6, xs7, [], 0, 0, 0, false⟩ la5 lc5 la6 lc6 la7 lc7 none 0).toArray (by rfl)
  have k := k.sel 6 [0, 2, 3, 4, 1, 5] rfl (by decide) (L' := [_, _, _, _, _, _]) (by rfl)
  have k := (El.nil rowE k)
  have k := k.sel 7 [1, 2, 3, 4, 5, 0, 6] rfl (by decide) (L' := [_, _, _, _, _, _, _]) (by rfl)
  obtain ⟨F', G, kF, kG, d, hF, back⟩ := k.frameA
  refine CallsH.mono (manyD_step kF ((r.nxt nx7).at k.ext hF)) ?_
  rintro _ _ ⟨n8, x8, a8, l8, c8, bs8, badA8, badB8, rfl, nx8, sn8, hb8, q8, qz8, p8, pl8, k2⟩
  have k := back k2
  clear back kF kG d hF
  replace nx8 := nx7.trans nx8
  have ll8 := nx8.le
  refine ⟨_, rfl, fun m h' i => ∃ (xs : List (List Val)) (la : Option Addr) (lc : Nat) (a' : Option Addr) (l' c' : Nat) (bs' : Bytes) (bad' : Bool), i = (xs.length : Int) ∧ m = x8.toNat - xs.length ∧ xs.length ≤ x8.toNat ∧ Nxt a l c bs a' l' c' bs' ∧ StepO (repO (lisO valO) xs.length) bs8 badB8 xs bs' bad' ∧
      St none_ h h' [RP 158 b16 a' l' c' bad', A.blk b18 (rpV ⟨id, note, er, at_, xs5, xs6, xs7, xs, 0, 0, 0, false⟩ la5 lc5 la6 lc6 la7 lc7 la lc).toArray 65, errE.L la5 xs5.length lc5 xs5, hitE.L la6 xs6.length lc6 xs6, texE.L la7 xs7.length lc7 xs7, rowE.L la xs.length lc xs, A.blk b1 (rpV noRp none 0 none 0 none 0 none 0).toArray 65], ⟨_, [], none, 0, a8, l8, c8, bs8, badB8, rfl, rfl, Nat.zero_le _, nx8, .ret _, k⟩, ?_⟩
  clear k
  rintro mm8 hh8 _ i8 ⟨xs8, la8, lc8, aa8, al8, ac8, bb8, bd8, rfl, rfl, hxl8, ny8, sx8, k⟩
  refine loopC (k.rd (by rfl)) (fun hlt hbad => ?_) (fun hend => ?_)
  · replace hlt : (xs8.length : Int) < x8 := of_decide_eq_true hlt
    have e1 : ∀ y : (List Val), xs8.length + 1 = (xs8 ++ [y]).length := fun y => by simp
    obtain ⟨F', G, kF, kG, d, hF, back⟩ := k.frame2
    refine CallsH.mono (valsD_step kF ((r.nxt ny8).at k.ext hF)) ?_
    rintro _ _ ⟨row, ya, yc, a2', l2', c2', bs2', bad2', rfl, nz, sy, _, k2⟩
    have k := back k2
    clear back kF kG d hF
    refine ⟨_, _, _, rfl, _, _, _, k.rd (by rfl), k.vnew fun bb _ k => ?_⟩
    have k := k.sel 9 [0, 2, 7, 1, 3, 4, 5, 6, 8] rfl (by decide) (L' := [A.blk bb (rowE.cells ⟨ya, yc, row⟩).toArray rowE.e, rowE.own ⟨ya, yc, row⟩, _, _, _, _, _, _, _]) (by rfl)
    have nz := ny8.trans nz
    refine El.app (E := rowE) TR30 k (by omega) fun la' lc' _ k => ⟨_, _, _, rfl, ?_⟩
    have k : St none_ h _ (rowE.L la' (xs8.length + 1) lc' (xs8 ++ [row]) :: _) := k
    rw [e1 row] at k ⊢
    refine k.vst (Nat.le_of_ble_eq_true (by rfl)) fun _ k => ?_
    have k := k.reB (b := b18) (rpV ⟨id, note, er, at_, xs5, xs6, xs7, xs8 ++ [row], 0, 0, 0, false⟩ la5 lc5 la6 lc6 la7 lc7 la' lc').toArray (by rfl)
    have k := k.sel 7 [1, 2, 3, 4, 5, 0, 6] rfl (by decide) (L' := [_, _, _, _, _, _, _]) (by rfl)
    refine ⟨x8.toNat - (xs8.length + 1), by omega, xs8 ++ [row], la', lc', a2', l2', c2', bs2', bad2', ?_, by simp, by rw [List.length_append]; simp only [List.length_singleton]; omega, nz, ?_, k⟩
    · rw [wrap_id (by omega) (by omega), List.length_append]; rfl
    · subst hbad; rw [List.length_append]; exact sx8.snoc sy
  have s8 := many_end sn8 hb8 q8 sx8 (fun _ => hxl8) (hend.elim (fun h => .inr (by have : ¬ (xs8.length : Int) < x8 := of_decide_eq_false h; omega)) .inl)
  clear hend
  replace nx8 := ny8
  unfold G36c
  obtain ⟨F', G, kF, kG, d, hF, back⟩ := k.frameA
  refine CallsH.mono (numD_step kF ((r.nxt nx8).at k.ext hF)) ?_
  rintro _ _ ⟨since, a9, l9, c9, bs9, bad9, rfl, nx9, s9, _, _, k2⟩
  have k := back k2
  clear back kF kG d hF
  replace nx9 := nx8.trans nx9
  refine ⟨_, rfl, k.vst (Nat.le_of_ble_eq_true (by rfl)) fun _ k => ?_⟩
  have k := k.reB (b := b18) (rpV ⟨id, note, er, at_, xs5, xs6, xs7, xs8, since, 0, 0, false⟩ la5 lc5 la6 lc6 la7 lc7 la8 lc8).toArray (by rfl)
  obtain ⟨F', G, kF, kG, d, hF, back⟩ := k.frameA
  refine CallsH.mono (numD_step kF ((r.nxt nx9).at k.ext hF)) ?_
  rintro _ _ ⟨open_, a10, l10, c10, bs10, bad10, rfl, nx10, s10, _, _, k2⟩
  have k := back k2
  clear back kF kG d hF
  replace nx10 := nx9.trans nx10
  refine ⟨_, rfl, k.vst (Nat.le_of_ble_eq_true (by rfl)) fun _ k => ?_⟩
  have k := k.reB (b := b18) (rpV ⟨id, note, er, at_, xs5, xs6, xs7, xs8, since, open_, 0, false⟩ la5 lc5 la6 lc6 la7 lc7 la8 lc8).toArray (by rfl)
  obtain ⟨F', G, kF, kG, d, hF, back⟩ := k.frameA
  refine CallsH.mono (numD_step kF ((r.nxt nx10).at k.ext hF)) ?_
  rintro _ _ ⟨nodes, a11, l11, c11, bs11, bad11, rfl, nx11, s11, _, _, k2⟩
  have k := back k2
  clear back kF kG d hF
  replace nx11 := nx10.trans nx11
  refine ⟨_, rfl, k.vst (Nat.le_of_ble_eq_true (by rfl)) fun _ k => ?_⟩
  have k := k.reB (b := b18) (rpV ⟨id, note, er, at_, xs5, xs6, xs7, xs8, since, open_, nodes, false⟩ la5 lc5 la6 lc6 la7 lc7 la8 lc8).toArray (by rfl)
  obtain ⟨F', G, kF, kG, d, hF, back⟩ := k.frameA
  refine CallsH.mono (truD_step kF ((r.nxt nx11).at k.ext hF)) ?_
  rintro _ _ ⟨over, a12, l12, c12, bs12, bad12, rfl, nx12, s12, k2⟩
  have k := back k2
  clear back kF kG d hF
  replace nx12 := nx11.trans nx12
  refine ⟨_, rfl, k.vst (Nat.le_of_ble_eq_true (by rfl)) fun _ k => ?_⟩
  have k := k.reB (b := b18) (rpV ⟨id, note, er, at_, xs5, xs6, xs7, xs8, since, open_, nodes, over⟩ la5 lc5 la6 lc6 la7 lc7 la8 lc8).toArray (by rfl)
  have sA : StepO toldO bs false ⟨id, note, er, at_, xs5, xs6, xs7, xs8, since, open_, nodes, over⟩ bs12 bad12 := s1.bind (s2.bind (s3.bind (s4.bind (s5.bind (s6.bind (s7.bind (s8.bind (s9.bind (s10.bind (s11.bind (s12.bind (.ret _))))))))))))
  obtain ⟨f1, f2⟩ := told_fin hle sA
  have hl3 := nx12.len hl
  refine ⟨_, k.rd (by rfl), ?_⟩
  cases hb3 : bad12
  rotate_left
  · exact cond_true rfl (k.vall (by rfl) (by rfl) fun _ k => ⟨_, k.rd (by rfl), _, k.rd (by rfl), _, k.rd (by rfl), _, k.rd (by rfl), _, _, _, k.rd (by rfl), _, _, _, k.rd (by rfl), _, _, _, k.rd (by rfl), _, _, _, k.rd (by rfl), _, k.rd (by rfl), _, k.rd (by rfl), _, k.rd (by rfl), _, k.rd (by rfl), out 301 k (f1 (.inl hb3))⟩)
  refine cond_false rfl ⟨_, _, _, k.rd (by rfl), cond_split (fun hc => ?_) (fun hc => ?_)⟩
  · have hc : (l12 : Int) > 0 := of_decide_eq_true hc
    have hne : bs12 ≠ [] := fun e => by rw [e] at hl3; simp at hl3; omega
    exact k.vall (by rfl) (by rfl) fun _ k => ⟨_, k.rd (by rfl), _, k.rd (by rfl), _, k.rd (by rfl), _, k.rd (by rfl), _, _, _, k.rd (by rfl), _, _, _, k.rd (by rfl), _, _, _, k.rd (by rfl), _, _, _, k.rd (by rfl), _, k.rd (by rfl), _, k.rd (by rfl), _, k.rd (by rfl), _, k.rd (by rfl), out 301 k (f1 (.inr hne))⟩
  · have hc0 : ¬ (l12 : Int) > 0 := of_decide_eq_false hc
    have he : bs12 = [] := List.eq_nil_of_length_eq_zero (by omega)
    rw [f2 hb3 he]
    refine ⟨_, k.rd (by rfl), _, k.rd (by rfl), _, k.rd (by rfl), _, k.rd (by rfl), _, _, _, k.rd (by rfl), _, _, _, k.rd (by rfl), _, _, _, k.rd (by rfl), _, _, _, k.rd (by rfl), _, k.rd (by rfl), _, k.rd (by rfl), _, k.rd (by rfl), _, k.rd (by rfl), k.vall (by rfl) (by rfl) fun _ k => ⟨_, k.rd (by rfl), _, k.rd (by rfl), _, k.rd (by rfl), _, k.rd (by rfl), _, _, _, k.rd (by rfl), _, _, _, k.rd (by rfl), _, _, _, k.rd (by rfl), _, _, _, k.rd (by rfl), _, k.rd (by rfl), _, k.rd (by rfl), _, k.rd (by rfl), _, k.rd (by rfl), la5, lc5, la6, lc6, la7, lc7, la8, lc8, rfl, ?_⟩⟩
    exact (k.sel 7 [2, 3, 4, 5, 0, 1, 6] rfl (by decide) (L' := [_, _, _, _, _, _, _]) (by rfl)).only4
end Go.Proofs.YtgdgebmlcgohhaaGreatDoor.F
