/- The document reads a request. Conditions: none. -/
import Derived.Test.YtgdgebmlcgohhaaGreatDoorDB
namespace Go.Proofs.YtgdgebmlcgohhaaGreatDoor.F
open Go Go.VC Go.Proofs
set_option linter.unusedSimpArgs false
set_option linter.unusedVariables false
set_option maxRecDepth 100000
attribute [local irreducible] CallsH RunsTo PureTo

variable {S F G : Nat → Prop} {h0 h h1 : Heap} {L R L' : List A} {a b a1 a2 na ea : Option Addr} {l c l1 c1 l2 c2 p t nc ec b1 : Nat} {bs cs bs1 bs2 : List UInt8} {err e1 : Int} {v : Val} {bad bad1 bad2 : Bool} {q q2 : Rq}
/-- Does a kind speak of a field? -/
def sp (i : Nat) (k : Int) : Bool := (spk k).contains i
theorem sp_of {k : Int} {is : List Nat} (h : spk k = is) (i : Nat) : sp i k = is.contains i := by unfold sp; rw [h]
set_option maxHeartbeats 1000000 in
theorem dspeaks_spec (k : Int) : CallsH Tryz.prog 77 #[.int .i64 k] h (fun v h' => v = .tuple #[.bool (sp 0 k), .bool (sp 1 k), .bool (sp 2 k), .bool (sp 3 k)] ∧ h' = h) := by
  refine vf77 _ h _ ?_
  unfold F77
  by_cases e2 : k = 2
  · subst e2
    exact ⟨rfl, rfl⟩
  by_cases e3 : k = 3
  · subst e3
    exact ⟨rfl, rfl⟩
  by_cases e8 : k = 8
  · subst e8
    exact ⟨rfl, rfl⟩
  by_cases e11 : k = 11
  · subst e11
    exact ⟨rfl, rfl⟩
  by_cases e1 : k = 1
  · subst e1
    exact ⟨rfl, rfl⟩
  by_cases e9 : k = 9
  · subst e9
    exact ⟨rfl, rfl⟩
  by_cases e10 : k = 10
  · subst e10
    exact ⟨rfl, rfl⟩
  by_cases e5 : k = 5
  · subst e5
    exact ⟨rfl, rfl⟩
  by_cases e12 : k = 12
  · subst e12
    exact ⟨rfl, rfl⟩
  by_cases e4 : k = 4
  · subst e4
    exact ⟨rfl, rfl⟩
  have f2 : (k == (2 : Int)) = false := by simpa using e2
  have f3 : (k == (3 : Int)) = false := by simpa using e3
  have f8 : (k == (8 : Int)) = false := by simpa using e8
  have f11 : (k == (11 : Int)) = false := by simpa using e11
  have f1 : (k == (1 : Int)) = false := by simpa using e1
  have f9 : (k == (9 : Int)) = false := by simpa using e9
  have f10 : (k == (10 : Int)) = false := by simpa using e10
  have f5 : (k == (5 : Int)) = false := by simpa using e5
  have f12 : (k == (12 : Int)) = false := by simpa using e12
  have f4 : (k == (4 : Int)) = false := by simpa using e4
  refine cond_false f2 (cond_false f3 (cond_false f8 (cond_false f1 (cond_false f2 (cond_false f9 (cond_false f5 (cond_false f4 ?_)))))))
  rw [f11, f10, f12]
  have es : spk k = [] := by
    unfold spk
    rw [if_neg (by omega), if_neg (by omega), if_neg (by omega), if_neg (by omega), if_neg (by omega), if_neg (by omega)]
  rw [sp_of es, sp_of es, sp_of es, sp_of es]
  exact ⟨rfl, rfl⟩
noncomputable def optG (i : Nat) (k : Int) (q : Rq) : Po Rq := if sp i k = true then getF i q else retO q
noncomputable def allG (k : Int) (q : Rq) : Po Rq := bindO (bindO (bindO (optG 0 k q) (optG 1 k)) (optG 2 k)) (optG 3 k)
theorem optG_yes {i : Nat} {k : Int} (h : sp i k = true) : optG i k = getF i := by funext q; exact if_pos h
theorem optG_no {i : Nat} {k : Int} (h : sp i k = false) : optG i k = retO := by funext q; exact if_neg (by rw [h]; simp)
theorem allG_eq (k : Int) (q : Rq) : allG k q = getsF (spk k) q := by
  unfold allG
  rcases spk_cases k with e | e | e | e | e | e | e
  · rw [optG_no (sp_of e 0), optG_yes (sp_of e 1), optG_no (sp_of e 2), optG_no (sp_of e 3), e, retO_bind, bindO_ret, bindO_ret]
    exact (bindO_ret _).symm
  · rw [optG_yes (sp_of e 0), optG_yes (sp_of e 1), optG_no (sp_of e 2), optG_no (sp_of e 3), e, bindO_ret, bindO_ret]
    show bindO (getF 0 q) (getF 1) = bindO (getF 0 q) fun q => bindO (getF 1 q) retO
    congr 1; funext q; exact (bindO_ret _).symm
  · rw [optG_yes (sp_of e 0), optG_no (sp_of e 1), optG_no (sp_of e 2), optG_no (sp_of e 3), e, bindO_ret, bindO_ret, bindO_ret]
    exact (bindO_ret _).symm
  · rw [optG_no (sp_of e 0), optG_no (sp_of e 1), optG_no (sp_of e 2), optG_yes (sp_of e 3), e, retO_bind, retO_bind, retO_bind]
    exact (bindO_ret _).symm
  · rw [optG_no (sp_of e 0), optG_no (sp_of e 1), optG_yes (sp_of e 2), optG_no (sp_of e 3), e, retO_bind, retO_bind, bindO_ret]
    exact (bindO_ret _).symm
  · rw [optG_no (sp_of e 0), optG_no (sp_of e 1), optG_yes (sp_of e 2), optG_yes (sp_of e 3), e, retO_bind, retO_bind]
    show bindO (getF 2 q) (getF 3) = bindO (getF 2 q) fun q => bindO (getF 3 q) retO
    congr 1; funext q; exact (bindO_ret _).symm
  · rw [optG_no (sp_of e 0), optG_no (sp_of e 1), optG_no (sp_of e 2), optG_no (sp_of e 3), e, bindO_ret, bindO_ret, bindO_ret]
    rfl
set_option maxHeartbeats 1000000 in
theorem dasked_spec (hsl : Sl h a (bytesV bs)) (hl : bs.length = l) (hlc : l ≤ c) : CallsH Tryz.prog 31 #[.slice a l c] h
    (fun v h' => ∃ na nc ea ec, v = .tuple #[aggQ (askedR bs).1 na nc ea ec, .int .i64 (askedR bs).2] ∧ St none_ h h' [texE.L na (askedR bs).1.names.length nc (askedR bs).1.names, evE.L ea (askedR bs).1.evs.length ec (askedR bs).1.evs]) := by
  refine vf31 _ _ _ h _ ?_
  unfold F31
  have k := St.fresh h
  refine k.vnew fun b1 h2 k => ?_
  have out : ∀ {h' : Heap} {R : List A} (e : Int), St none_ h h' R → askedR bs = (noRq, e) → ∃ na nc ea ec, (Value.tuple #[aggQ noRq none 0 none 0, .int .i64 e]) = .tuple #[aggQ (askedR bs).1 na nc ea ec, .int .i64 (askedR bs).2] ∧ St none_ h h' [texE.L na (askedR bs).1.names.length nc (askedR bs).1.names, evE.L ea (askedR bs).1.evs.length ec (askedR bs).1.evs] := fun e k hr => by
    rw [hr]
    exact ⟨none, 0, none, 0, rfl, (El.nil texE (El.nil evE k)).only2⟩
  refine cond_split (fun hc => ?_) (fun hc => ?_)
  · have hc : 65528 < bs.length := by
      have : (l : Int) > 65528 := of_decide_eq_true hc
      omega
    exact k.vall (by rfl) (by rfl) fun _ k => ⟨_, k.rd (by rfl), _, k.rd (by rfl), _, k.rd (by rfl), _, k.rd (by rfl), _, _, _, k.rd (by rfl), _, _, _, k.rd (by rfl), out 2 k (if_pos hc)⟩
  have hle : ¬ 65528 < bs.length := by
    have : ¬ (l : Int) > 65528 := of_decide_eq_false hc
    omega
  clear hc
  refine k.vnew fun b10 h11 k => ?_
  have r : RdP none_ h a l c bs := ⟨hsl.ro, hl, hlc, by omega⟩
  have k : St none_ h h11 [RP 158 b10 a l c false, RqB b1 noRq none 0 none 0] := k
  obtain ⟨F', G, kF, kG, d, hF, back⟩ := k.frameA
  refine CallsH.mono (offD_step (n := 1) kF (r.at k.ext hF)) ?_
  rintro _ h13 ⟨y, b, c2, a1, l1, c1, bs1, bad1, rfl, nx1, st, rb, hz, _, k2⟩
  have k4 := back k2
  clear back kF kG d hF
  refine ⟨_, _, _, rfl, _, k4.rd (by rfl), ?_⟩
  rcases take1 st hz with ⟨rfl, rfl, hn⟩ | ⟨rfl, _, x, rfl, rfl⟩
  · have e := (asked_fin (q := noRq) (bs1 := []) (bad1 := true) hle (.fail fun _ => by unfold askedO bindO; rw [hn rfl])).1 (.inl rfl)
    exact cond_true rfl (k4.vall (by rfl) (by rfl) fun _ k => ⟨_, k.rd (by rfl), _, k.rd (by rfl), _, k.rd (by rfl), _, k.rd (by rfl), _, _, _, k.rd (by rfl), _, _, _, k.rd (by rfl), out 301 k e⟩)
  have s1 : StepO oneO (x :: bs1) false x bs1 false := .ok rfl
  have hs : Sl h13 b (bytesV [x]) := ((rb _ _ r.ro).mod k4.ext).sl
  refine cond_false rfl (hs.one (f := byteV) (xs := [x]) rfl (by omega) (by simp) fun ad z hz hcz => ⟨_, hcz, ?_⟩)
  cases hz
  have ex : IntKind.i64.wrap (x.toNat : Int) = (x.toNat : Int) := by have := x.toNat_lt; rw [wrap_id (by omega) (by omega)]
  refine k4.vnew fun b25 h26 k => ?_
  clear k4 hs st hz hcz
  rw [ex]
  refine k.vall (by rfl) (by rfl) fun h27 k => ⟨_, k.rd (by rfl), ?_⟩
  refine CallsH.mono (dspeaks_spec _) ?_
  rintro _ _ ⟨rfl, rfl⟩
  refine ⟨_, _, _, _, rfl, ?_⟩
  obtain ⟨F', G, kF, kG, d, hF, back⟩ := k.pull1.frameA
  refine CallsH.mono (idD_step kF ((r.nxt nx1).at k.ext hF)) ?_
  rintro _ h36 ⟨n, a2, l2, c2, bs2, bad2, rfl, nx2, s2, hn, k2⟩
  have k := back k2
  clear back kF kG d hF
  refine ⟨_, rfl, k.vst (Nat.le_of_ble_eq_true (by rfl)) fun h38 k => ?_⟩
  have k : St none_ h h38 [RP 158 b10 a2 l2 c2 bad2, RqB b25 ⟨n, x.toNat, [], [], [], []⟩ none 0 none 0, RqB b1 noRq none 0 none 0] := k
  have nx2 := nx1.trans nx2
  clear nx1
  have k5 := (RqA.close (q := ⟨n, x.toNat, [], [], [], []⟩) (El.nil texE (El.nil evE k.pull1) |>.pull2)).pull1
  generalize hQ : (⟨n, (x.toNat : Int), [], [], [], []⟩ : Rq) = q0 at *
  have hq0 : q0.k = x.toNat := by rw [← hQ]
  generalize hK : (x.toNat : Int) = K at *
  have k := k5
  clear k5
  refine ⟨fun h' => ∃ (q3 : Rq) (a3 : Option Addr) (l3 c3 : Nat) (bs3 : Bytes) (bad3 : Bool), q3.k = K ∧ Nxt a l c (x :: bs1) a3 l3 c3 bs3 ∧ StepO (optG 0 K q0) bs2 bad2 q3 bs3 bad3 ∧ St none_ h h' [RP 158 b10 a3 l3 c3 bad3, RqA b25 q3, RqB b1 noRq none 0 none 0], ?_, ?_⟩
  · cases hsp : sp 0 K
    · refine cond_false rfl ⟨q0, a2, l2, c2, bs2, bad2, hq0, nx2, ?_, k⟩
      rw [optG_no hsp]; exact .ret _
    · refine cond_true rfl ?_
      obtain ⟨F', G, kF, kG, d, hF, back⟩ := k.frameA
      refine CallsH.mono (texD_step kF ((r.nxt nx2).at k.ext hF)) ?_
      rintro _ h41 ⟨s, a4, l4, c4, bs4, bad4, rfl, nx4, s4, k2⟩
      obtain ⟨na, nc, ea, ec, k⟩ := RqA.open (back k2).pull1
      refine ⟨_, rfl, k.vst (Nat.le_of_ble_eq_true (by rfl)) fun h43 k => ⟨{ q0 with name := s }, a4, l4, c4, bs4, bad4, hq0, nx2.trans nx4, ?_, ?_⟩⟩
      · skip
        rw [optG_yes hsp]
        exact s4.bind (.ret _)
      · exact (RqA.close (q := { q0 with name := s }) k).pull1
  clear k
  rintro h44 _ ⟨q3, a3, l3, c3, bs3, bad3, hk3, nx3, s3, k⟩
  refine ⟨fun h' => ∃ (q3 : Rq) (a3 : Option Addr) (l3 c3 : Nat) (bs3 : Bytes) (bad3 : Bool), q3.k = K ∧ Nxt a l c (x :: bs1) a3 l3 c3 bs3 ∧ StepO (bindO (optG 0 K q0) (optG 1 K)) bs2 bad2 q3 bs3 bad3 ∧ St none_ h h' [RP 158 b10 a3 l3 c3 bad3, RqA b25 q3, RqB b1 noRq none 0 none 0], ?_, ?_⟩
  · cases hsp : sp 1 K
    · refine cond_false rfl ⟨q3, a3, l3, c3, bs3, bad3, hk3, nx3, ?_, k⟩
      rw [optG_no hsp]; exact s3.bind (.ret _)
    · refine cond_true rfl ?_
      obtain ⟨F', G, kF, kG, d, hF, back⟩ := k.frameA
      refine CallsH.mono (texD_step kF ((r.nxt nx3).at k.ext hF)) ?_
      rintro _ h41 ⟨s, a4, l4, c4, bs4, bad4, rfl, nx4, s4, k2⟩
      obtain ⟨na, nc, ea, ec, k⟩ := RqA.open (back k2).pull1
      refine ⟨_, rfl, k.vst (Nat.le_of_ble_eq_true (by rfl)) fun h43 k => ⟨{ q3 with text := s }, a4, l4, c4, bs4, bad4, hk3, nx3.trans nx4, ?_, ?_⟩⟩
      · skip
        rw [optG_yes hsp]
        exact s3.bind (s4.bind (.ret _))
      · exact (RqA.close (q := { q3 with text := s }) k).pull1
  clear k
  clear hk3 nx3 s3
  rintro h44 _ ⟨q3, a3, l3, c3, bs3, bad3, hk3, nx3, s3, k⟩
  refine ⟨fun h' => ∃ (q3 : Rq) (a3 : Option Addr) (l3 c3 : Nat) (bs3 : Bytes) (bad3 : Bool), q3.k = K ∧ Nxt a l c (x :: bs1) a3 l3 c3 bs3 ∧ StepO (bindO (bindO (optG 0 K q0) (optG 1 K)) (optG 2 K)) bs2 bad2 q3 bs3 bad3 ∧ St none_ h h' [RP 158 b10 a3 l3 c3 bad3, RqA b25 q3, RqB b1 noRq none 0 none 0], ?_, ?_⟩
  · cases hsp : sp 2 K
    · refine cond_false rfl ⟨q3, a3, l3, c3, bs3, bad3, hk3, nx3, ?_, k⟩
      rw [optG_no hsp]; exact s3.bind (.ret _)
    · refine cond_true rfl ?_
      obtain ⟨F', G, kF, kG, d, hF, back⟩ := k.frame2
      refine CallsH.mono (texsD_step kF ((r.nxt nx3).at k.ext hF)) ?_
      rintro _ h41 ⟨s, b5, cc5, a4, l4, c4, bs4, bad4, rfl, nx4, s4, _, k2⟩
      obtain ⟨na, nc, ea, ec, k⟩ := RqA.open (back k2).pull2
      refine ⟨_, _, _, rfl, k.vst (Nat.le_of_ble_eq_true (by rfl)) fun h43 k => ⟨{ q3 with names := s }, a4, l4, c4, bs4, bad4, hk3, nx3.trans nx4, ?_, ?_⟩⟩
      · skip
        rw [optG_yes hsp]
        exact s3.bind (s4.bind (.ret _))
      · have k := (k.sel 6 [1, 0, 4, 2, 3, 5] rfl (by decide) (L' := [_, _, _, _, _, _]) (by rfl)).drop
        exact (RqA.close (q := { q3 with names := s }) k).pull1
  clear k
  clear hk3 nx3 s3
  rintro h44 _ ⟨q3, a3, l3, c3, bs3, bad3, hk3, nx3, s3, k⟩
  refine ⟨fun h' => ∃ (q3 : Rq) (a3 : Option Addr) (l3 c3 : Nat) (bs3 : Bytes) (bad3 : Bool), q3.k = K ∧ Nxt a l c (x :: bs1) a3 l3 c3 bs3 ∧ StepO (allG K q0) bs2 bad2 q3 bs3 bad3 ∧ St none_ h h' [RP 158 b10 a3 l3 c3 bad3, RqA b25 q3, RqB b1 noRq none 0 none 0], ?_, ?_⟩
  · cases hsp : sp 3 K
    · refine cond_false rfl ⟨q3, a3, l3, c3, bs3, bad3, hk3, nx3, ?_, k⟩
      unfold allG
      rw [optG_no hsp]; exact s3.bind (.ret _)
    · refine cond_true rfl ?_
      obtain ⟨F', G, kF, kG, d, hF, back⟩ := k.frame2
      refine CallsH.mono (evsD_step kF ((r.nxt nx3).at k.ext hF)) ?_
      rintro _ h41 ⟨s, b5, cc5, a4, l4, c4, bs4, bad4, rfl, nx4, s4, _, _, k2⟩
      obtain ⟨na, nc, ea, ec, k⟩ := RqA.open (back k2).pull2
      refine ⟨_, _, _, rfl, k.vst (Nat.le_of_ble_eq_true (by rfl)) fun h43 k => ⟨{ q3 with evs := s }, a4, l4, c4, bs4, bad4, hk3, nx3.trans nx4, ?_, ?_⟩⟩
      · skip
        unfold allG
        rw [optG_yes hsp]
        exact s3.bind (s4.bind (.ret _))
      · have k := (k.sel 6 [2, 0, 1, 4, 3, 5] rfl (by decide) (L' := [_, _, _, _, _, _]) (by rfl)).drop
        exact (RqA.close (q := { q3 with evs := s }) k).pull1
  clear k
  clear hk3 nx3 s3
  rintro h44 _ ⟨q3, a3, l3, c3, bs3, bad3, hk3, nx3, s3, k⟩
  have hl3 := nx3.len hl
  have sA : known K → StepO askedO (x :: bs1) false q3 bs3 bad3 := fun hk => s1.bind (s2.bind (by rw [hK, if_pos hk, hQ, ← allG_eq]; exact s3))
  have no : ¬ known K → askedR (x :: bs1) = (noRq, 301) := fun hk => (asked_fin hle (s1.bind (s2.bind (y := noRq) (bs2 := []) (bad2 := true) (.fail fun _ => by rw [hK, if_neg hk]; rfl)))).1 (.inl rfl)
  have bd : bad3 = true ∨ bs3 ≠ [] → askedR (x :: bs1) = (noRq, 301) := fun hb => by
    by_cases hk : known K
    · exact (asked_fin hle (sA hk)).1 hb
    · exact no hk
  obtain ⟨na, nc, ea, ec, k⟩ := RqA.open k.pull1
  refine ⟨_, k.rd (by rfl), ?_⟩
  cases hb3 : bad3
  rotate_left
  · exact cond_true rfl (k.vall (by rfl) (by rfl) fun _ k => ⟨_, k.rd (by rfl), _, k.rd (by rfl), _, k.rd (by rfl), _, k.rd (by rfl), _, _, _, k.rd (by rfl), _, _, _, k.rd (by rfl), out 301 k (bd (.inl hb3))⟩)
  refine cond_false rfl ⟨_, _, _, k.rd (by rfl), cond_split (fun hc => ?_) (fun hc => ?_)⟩
  · have hc : (l3 : Int) > 0 := of_decide_eq_true hc
    have hne : bs3 ≠ [] := fun e => by rw [e] at hl3; simp at hl3; omega
    exact k.vall (by rfl) (by rfl) fun _ k => ⟨_, k.rd (by rfl), _, k.rd (by rfl), _, k.rd (by rfl), _, k.rd (by rfl), _, _, _, k.rd (by rfl), _, _, _, k.rd (by rfl), out 301 k (bd (.inr hne))⟩
  have hc : ¬ (l3 : Int) > 0 := of_decide_eq_false hc
  have he : bs3 = [] := List.eq_nil_of_length_eq_zero (by omega)
  refine ⟨_, k.rd (by rfl), cond_split (fun hc => ?_) (fun hc => ?_)⟩
  · have h1 : K < 1 := by rw [← hk3]; exact of_decide_eq_true hc
    exact k.vall (by rfl) (by rfl) fun _ k => ⟨_, k.rd (by rfl), _, k.rd (by rfl), _, k.rd (by rfl), _, k.rd (by rfl), _, _, _, k.rd (by rfl), _, _, _, k.rd (by rfl), out 301 k (no fun hk => by unfold known at hk; omega)⟩
  have h1 : ¬ K < 1 := by rw [← hk3]; exact of_decide_eq_false hc
  refine ⟨_, k.rd (by rfl), cond_split (fun hc => ?_) (fun hc => ?_)⟩
  · have h1 : K > 12 := by rw [← hk3]; exact of_decide_eq_true hc
    exact k.vall (by rfl) (by rfl) fun _ k => ⟨_, k.rd (by rfl), _, k.rd (by rfl), _, k.rd (by rfl), _, k.rd (by rfl), _, _, _, k.rd (by rfl), _, _, _, k.rd (by rfl), out 301 k (no fun hk => by unfold known at hk; omega)⟩
  have h12 : ¬ K > 12 := by rw [← hk3]; exact of_decide_eq_false hc
  have hk : known K := by unfold known; omega
  rw [(asked_fin hle (sA hk)).2 hb3 he]
  refine ⟨_, k.rd (by rfl), _, k.rd (by rfl), _, k.rd (by rfl), _, k.rd (by rfl), _, _, _, k.rd (by rfl), _, _, _, k.rd (by rfl), ?_⟩
  refine k.vall (by rfl) (by rfl) fun h95 k => ⟨_, k.rd (by rfl), _, k.rd (by rfl), _, k.rd (by rfl), _, k.rd (by rfl), _, _, _, k.rd (by rfl), _, _, _, k.rd (by rfl), na, nc, ea, ec, rfl, ?_⟩
  exact (k.sel 5 [1, 2, 0, 3, 4] rfl (by decide) (L' := [_, _, _, _, _]) (by rfl)).only2
end Go.Proofs.YtgdgebmlcgohhaaGreatDoor.F
