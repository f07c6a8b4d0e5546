/- Package wire: events are read by the document. Conditions: none. -/
import Derived.Test.YtofaihacmoacjaaDoorW9
namespace Go.Proofs.YtofaihacmoacjaaDoor.F
open Go Go.VC Go.Proofs
set_option linter.unusedSimpArgs false
set_option linter.unusedVariables false
set_option maxRecDepth 100000
attribute [local irreducible] CallsH RunsTo PureTo

variable {S F G : Nat → Prop} {h0 h h1 : Heap} {L R L' : List A} {a b : Option Addr} {l c l2 c2 p t at_ : Nat} {bs cs : List UInt8} {e : Int} {ev : Ev} {v : Val}
theorem rnumber_step {lo hi : Int} (k : Holds [RdrA t p a l c at_ e] F h) (r : RdOk F h a l c bs at_) : CallsH Tryd.prog 54 #[.pointer (some ⟨p, 0, none⟩), .int .i64 lo, .int .i64 hi] h
    (fun v h' => ∃ x at2 e2, v = .int .i64 x ∧ at2 ≤ l ∧ StepR (numb lo hi) bs at_ e x at2 e2 ∧ (e2 ≠ 0 → x = 0) ∧ St F h h' [RdrA t p a l c at2 e2]) := by
  refine vf54 _ _ _ h _ ?_
  unfold F54
  have k := St.start k
  refine VSome.mk ⟨_, k.rd (by rfl), cond_split (fun hc => ?_) (fun hc => ?_)⟩
  · have hc : e ≠ 0 := by simpa using hc
    exact ⟨0, at_, e, rfl, r.at_, .stay hc, fun _ => rfl, k⟩
  have hc : e = 0 := by simpa using hc
  subst hc
  refine VSome.mk ⟨_, _, _, k.rd (by rfl), VSome.mk ⟨_, k.rd (by rfl), ?_⟩⟩
  have hlc := r.lc
  have hat := r.at_
  refine r.ro.bcut r.len (lo := at_) (hi := l) (mx := c) rfl rfl rfl r.at_ (by omega) r.lc (by omega) fun a' r2 hlen => ?_
  rw [drop_take_all r.len] at r2 hlen
  have hbig := r.big
  refine CallsH.mono (rint_spec r2.sl hlen (by omega) (by omega)) ?_
  rintro _ h2 ⟨rfl, m⟩
  have k := k.next m
  cases hg : getN (bs.drop at_) with
  | err e2 =>
    have he2 : e2 ≠ 0 := by have := getN_bad hg; omega
    refine ⟨_, _, _, rfl, cond_true (by simpa using he2) ?_⟩
    obtain ⟨F', G, k1, kG, d, hF, back⟩ := k.frameA
    refine CallsH.mono (rfault_spec k1 e2) ?_
    rintro _ h2 ⟨rfl, k2⟩
    have k := back k2
    rw [if_pos rfl] at k
    exact ⟨rfl, 0, at_, e2, rfl, r.at_, .inr (.inr ⟨rfl, numb_bad hg, he2⟩), fun _ => rfl, k⟩
  | ok x n =>
    have hle := Form.num.le hg
    rw [hlen] at hle
    refine ⟨_, _, _, rfl, cond_false rfl ?_⟩
    refine VSome.mk ⟨_, k.rd (by rfl), VSome.mk (k.vst (Nat.le_of_ble_eq_true (by rfl)) fun h3 k => ?_)⟩
    have e1 : IntKind.i64.wrap ((at_ : Int) + (n : Int)) = ((at_ + n : Nat) : Int) := by rw [wrap_id (by omega) (by omega)]; omega
    rw [e1] at k
    have k : St F h h3 [RdrA t p a l c (at_ + n) 0] := k
    refine cond_split (fun hc => ?_) (fun hc => ?_)
    · have hx : x < lo ∨ hi < x := .inl (of_decide_eq_true hc)
      obtain ⟨F', G, k1, kG, d, hF, back⟩ := k.frameA
      refine CallsH.mono (rfault_spec k1 31) ?_
      rintro _ h2 ⟨rfl, k2⟩
      have k := back k2
      rw [if_pos rfl] at k
      refine ⟨rfl, 0, at_ + n, 31, rfl, by omega, .inr (.inr ⟨rfl, ?_, by omega⟩), fun _ => rfl, k⟩
      unfold numb
      rw [hg]
      exact if_pos hx
    have h1 : ¬ x < lo := of_decide_eq_false hc
    refine cond_split (fun hc => ?_) (fun hc => ?_)
    · have hx : x < lo ∨ hi < x := .inr (of_decide_eq_true hc)
      obtain ⟨F', G, k1, kG, d, hF, back⟩ := k.frameA
      refine CallsH.mono (rfault_spec k1 31) ?_
      rintro _ h2 ⟨rfl, k2⟩
      have k := back k2
      rw [if_pos rfl] at k
      refine ⟨rfl, 0, at_ + n, 31, rfl, by omega, .inr (.inr ⟨rfl, ?_, by omega⟩), fun _ => rfl, k⟩
      unfold numb
      rw [hg]
      exact if_pos hx
    have h2 : ¬ hi < x := of_decide_eq_false hc
    refine ⟨x, at_ + n, 0, rfl, by omega, .inr (.inl ⟨rfl, n, ?_, rfl, rfl⟩), fun h => absurd rfl h, k⟩
    unfold numb
    rw [hg]
    exact if_neg (by omega)
theorem rone_step (k : Holds [RdrA t p a l c at_ e] F h) (r : RdOk F h a l c bs at_) : CallsH Tryd.prog 81 #[.pointer (some ⟨p, 0, none⟩)] h
    (fun v h' => ∃ (x : UInt8) (at2 : Nat) (e2 : Int), v = .int .u8 (x.toNat : Int) ∧ at2 ≤ l ∧ StepR (oneR 0 255) bs at_ e x at2 e2 ∧ St F h h' [RdrA t p a l c at2 e2]) := by
  refine vf81 _ h _ ?_
  unfold F81
  have k := St.start k
  have hat := r.at_
  have hlen := r.len
  have hbig := r.big
  refine VSome.mk ⟨_, k.rd (by rfl), cond_split (fun hc => ?_) (fun hc => ?_)⟩
  · have hc : e ≠ 0 := by simpa using hc
    exact ⟨0, at_, e, rfl, r.at_, .stay hc, k⟩
  have hc : e = 0 := by simpa using hc
  subst hc
  refine VSome.mk ⟨_, k.rd (by rfl), VSome.mk ⟨_, _, _, k.rd (by rfl), cond_split (fun hc => ?_) (fun hc => ?_)⟩⟩
  · have hc : at_ = l := by
      have : (at_ : Int) = l := by simpa using hc
      omega
    obtain ⟨F', G, k1, kG, d, hF, back⟩ := k.frameA
    refine CallsH.mono (rfault_spec k1 30) ?_
    rintro _ h2 ⟨rfl, k2⟩
    have k := back k2
    rw [if_pos rfl] at k
    refine ⟨rfl, 0, at_, 30, rfl, hat, .inr (.inr ⟨rfl, ?_, by omega⟩), k⟩
    rw [List.drop_of_length_le (by omega)]; rfl
  have hc : at_ ≠ l := by
    have : (at_ : Int) ≠ l := by simpa using hc
    omega
  refine VSome.mk ⟨_, k.rd (by rfl), VSome.mk (k.vst (Nat.le_of_ble_eq_true (by rfl)) fun h3 k => ?_)⟩
  have e1 : IntKind.i64.wrap ((at_ : Int) + 1) = ((at_ + 1 : Nat) : Int) := by rw [wrap_id (by omega) (by omega)]; omega
  rw [e1] at k
  have k : St F h h3 [RdrA t p a l c (at_ + 1) 0] := k
  refine VSome.mk ⟨_, _, _, k.rd (by rfl), VSome.mk ⟨_, k.rd (by rfl), ?_⟩⟩
  have e2 : IntKind.i64.wrap (((at_ + 1 : Nat) : Int) - 1) = (at_ : Int) := by rw [wrap_id (by omega) (by omega)]; omega
  rw [e2]
  refine (r.ro.mod k.ext).sl.one (f := byteV) hlen (by omega) (by omega) fun ad x hx hcx => ⟨_, hcx, x, at_ + 1, 0, rfl, by omega, .inr (.inl ⟨rfl, 1, ?_, rfl, rfl⟩), k⟩
  rw [Int.toNat_natCast] at hx
  rw [drop_of hx]
  have := x.toNat_lt
  exact if_neg (by omega)
theorem rtext_step {lo hi : Int} (k : Holds [RdrA t p a l c at_ e] F h) (r : RdOk F h a l c bs at_) (hlo : 0 ≤ lo) (hhi : 0 ≤ hi) (hhi2 : hi ≤ 1099511627776) : CallsH Tryd.prog 52 #[.pointer (some ⟨p, 0, none⟩), .int .i64 lo, .int .i64 hi] h
    (fun v h' => ∃ s at2 e2, v = .string (bA s) ∧ at2 ≤ l ∧ StepR (textR lo hi) bs at_ e s at2 e2 ∧ St F h h' [RdrA t p a l c at2 e2]) := by
  refine vf52 _ _ _ h _ ?_
  unfold F52
  refine CallsH.mono (rnumber_step k r) ?_
  rintro _ h2 ⟨n, at2, e2, rfl, hat, s1, hz, k⟩
  have hn := s1.rng hz hlo hhi (by omega)
  obtain ⟨N, rfl⟩ : ∃ N : Nat, n = N := ⟨n.toNat, by omega⟩
  have hlen := r.len
  have hbig := r.big
  have hlc := r.lc
  refine ⟨_, rfl, VSome.mk ⟨_, k.rd (by rfl), cond_split (fun hc => ?_) (fun hc => ?_)⟩⟩
  · have hc : e2 ≠ 0 := by simpa using hc
    exact ⟨[], at2, e2, rfl, hat, s1.bind (.stay hc), k⟩
  have hc : e2 = 0 := by simpa using hc
  subst hc
  refine VSome.mk ⟨_, _, _, k.rd (by rfl), VSome.mk ⟨_, k.rd (by rfl), ?_⟩⟩
  have ew : IntKind.i64.wrap ((l : Int) - (at2 : Int)) = ((l - at2 : Nat) : Int) := by rw [wrap_id (by omega) (by omega)]; omega
  have hdl : (bs.drop at2).length = l - at2 := by rw [List.length_drop, hlen]
  rw [ew]
  refine cond_split (fun hc => ?_) (fun hc => ?_)
  · have hc : l - at2 < N := by
      have : (N : Int) > ((l - at2 : Nat) : Int) := of_decide_eq_true hc
      omega
    obtain ⟨F', G, k1, kG, d, hF, back⟩ := k.frameA
    refine CallsH.mono (rfault_spec k1 30) ?_
    rintro _ h2 ⟨rfl, k2⟩
    have k := back k2
    rw [if_pos rfl] at k
    refine ⟨rfl, [], at2, 30, rfl, hat, s1.bind (.inr (.inr ⟨rfl, ?_, by omega⟩)), k⟩
    unfold takeB
    rw [Int.toNat_natCast, if_pos (by omega)]
  have hc : N ≤ l - at2 := by
    have : ¬ (N : Int) > ((l - at2 : Nat) : Int) := of_decide_eq_false hc
    omega
  refine VSome.mk ⟨_, k.rd (by rfl), VSome.mk (k.vst (Nat.le_of_ble_eq_true (by rfl)) fun h4 k => ?_)⟩
  have e1 : IntKind.i64.wrap ((at2 : Int) + (N : Int)) = ((at2 + N : Nat) : Int) := by rw [wrap_id (by omega) (by omega)]; omega
  rw [e1] at k
  have k : St F h h4 [RdrA t p a l c (at2 + N) 0] := k
  refine VSome.mk ⟨_, _, _, k.rd (by rfl), VSome.mk ⟨_, k.rd (by rfl), VSome.mk ⟨_, k.rd (by rfl), ?_⟩⟩⟩
  have e2 : IntKind.i64.wrap (((at2 + N : Nat) : Int) - (N : Int)) = (at2 : Int) := by rw [wrap_id (by omega) (by omega)]; omega
  refine (r.ro.mod k.ext).bcut hlen (lo := at2) (hi := at2 + N) (mx := c) e2 rfl rfl (by omega) (by omega) (by omega) (by omega) fun a' r2 hl2 => ?_
  have e3 : (bs.take (at2 + N)).drop at2 = (bs.drop at2).take N := by rw [List.drop_take]; congr 1; omega
  rw [e3] at r2 hl2
  refine bytes_text und30 (by kernel_rfl) und9 r2.sl hl2 ⟨_, rfl, (bs.drop at2).take N, at2 + N, 0, rfl, by omega, s1.bind (.inr (.inl ⟨rfl, N, ?_, rfl, rfl⟩)), k⟩
  unfold takeB
  rw [Int.toNat_natCast, if_neg (by omega)]
/-- A byte of any kind, then one that is asked for. -/
theorem StepR.narrow {lo hi : Nat} {x : UInt8} {at2 : Nat} {e2 : Int} (h : StepR (oneR 0 255) bs at_ e x at2 e2) (hx : e2 = 0 → lo ≤ x.toNat ∧ x.toNat ≤ hi) : StepR (oneR lo hi) bs at_ e x at2 e2 := by
  rcases h with h | ⟨h1, n, h2, h3, h4⟩ | ⟨h1, h2, h3⟩
  · exact .inl h
  · refine .inr (.inl ⟨h1, n, ?_, h3, h4⟩)
    cases hd : bs.drop at_ with
    | nil => rw [hd] at h2; cases h2
    | cons c r =>
      rw [hd] at h2
      have hb := c.toNat_lt
      have h2 : (if c.toNat < 0 ∨ 255 < c.toNat then Rd.err 31 else .ok c 1) = Rd.ok x n := h2
      rw [if_neg (by omega)] at h2
      cases h2
      have := hx h4
      exact if_neg (by omega)
  · refine .inr (.inr ⟨h1, ?_, h3⟩)
    cases hd : bs.drop at_ with
    | nil => rw [hd] at h2; exact h2
    | cons c r =>
      rw [hd] at h2
      have hb := c.toNat_lt
      have h2 : (if c.toNat < 0 ∨ 255 < c.toNat then Rd.err 31 else .ok c 1) = (Rd.err e2 : Rd UInt8) := h2
      rw [if_neg (by omega)] at h2
      cases h2
/-- A byte of another kind is a fault. -/
theorem StepR.wide {lo hi : Nat} {x : UInt8} {at2 : Nat} {y : UInt8} (h : StepR (oneR 0 255) bs at_ e x at2 0) (hx : x.toNat < lo ∨ hi < x.toNat) : StepR (oneR lo hi) bs at_ e y at2 31 := by
  rcases h with ⟨h, _, h2⟩ | ⟨h1, n, h2, h3, h4⟩ | ⟨_, _, h3⟩
  · exact absurd h2.symm h
  · refine .inr (.inr ⟨h1, ?_, by omega⟩)
    cases hd : bs.drop at_ with
    | nil => rw [hd] at h2; cases h2
    | cons c r =>
      rw [hd] at h2
      have hb := c.toNat_lt
      have h2 : (if c.toNat < 0 ∨ 255 < c.toNat then Rd.err 31 else .ok c 1) = Rd.ok x n := h2
      rw [if_neg (by omega)] at h2
      cases h2
      exact if_pos hx
  · exact absurd rfl h3
theorem rvalue_step (k : Holds [RdrA t p a l c at_ e] F h) (r : RdOk F h a l c bs at_) : CallsH Tryd.prog 55 #[.pointer (some ⟨p, 0, none⟩)] h
    (fun v h' => ∃ (x : Val) (at2 : Nat) (e2 : Int), v = aggV x ∧ at2 ≤ l ∧ StepR valR bs at_ e x at2 e2 ∧ St F h h' [RdrA t p a l c at2 e2]) := by
  refine vf55 _ h _ ?_
  unfold F55
  have k := St.start k
  refine k.vnew fun b1 h2 k => ?_
  obtain ⟨F', G, k1, kG, d, hF, back⟩ := k.pull1.frameA
  refine CallsH.mono (rone_step k1 (r.at k.ext hF r.at_)) ?_
  rintro _ h3 ⟨x, at2, e2, rfl, hat2, s1, k2⟩
  have k := back k2
  clear back k1 kG d hF
  have ex : IntKind.i64.wrap (x.toNat : Int) = (x.toNat : Int) := by have := x.toNat_lt; rw [wrap_id (by omega) (by omega)]
  refine ⟨_, rfl, VSome.mk ⟨_, k.rd (by rfl), cond_split (fun hc => ?_) (fun hc => ?_)⟩⟩
  · have hc : e2 ≠ 0 := by simpa using hc
    refine k.vall (by rfl) (by rfl) fun h6 k => ⟨_, k.rd (by rfl), _, k.rd (by rfl), _, k.rd (by rfl), _, k.rd (by rfl), noVal, at2, e2, rfl, hat2, ?_, k.only⟩
    exact ((s1.narrow fun h => absurd h hc).bind (y := noVal) (StepR.stay hc))
  have hc : e2 = 0 := by simpa using hc
  subst hc
  rw [ex]
  refine k.vnew fun b6 h4 k => k.vall (by rfl) (by rfl) fun h5 k => ?_
  refine ⟨fun h' => ∃ (v : Val) (at2 : Nat) (e2 : Int), at2 ≤ l ∧ StepR valR bs at_ e v at2 e2 ∧ St F h h' [RdrA t p a l c at2 e2, A.blk b6 (valV v).toArray 83, A.blk b1 zeroV 83], ?_, ?_⟩
  rotate_left
  · clear k
    rintro h' _ ⟨v, at3, e3, hat3, s2, k⟩
    refine ⟨_, k.rd (by rfl), _, k.rd (by rfl), _, k.rd (by rfl), _, k.rd (by rfl), k.vall (by rfl) (by rfl) fun h6 k => ⟨_, k.rd (by rfl), _, k.rd (by rfl), _, k.rd (by rfl), _, k.rd (by rfl), v, at3, e3, rfl, hat3, s2, k.only⟩⟩
  refine cond_split (fun hc => ?_) (fun hc => ?_)
  · have hx : x.toNat = 1 := by
      have : (x.toNat : Int) = 1 := by simpa using hc
      omega
    obtain ⟨F', G, k1, kG, d, hF, back⟩ := k.pull1.frameA
    refine CallsH.mono (rnumber_step k1 (r.at k.ext hF hat2)) ?_
    rintro _ h6 ⟨n, at3, e3, rfl, hat3, s2, hz, k2⟩
    have k := back k2
    refine ⟨_, rfl, k.vst (Nat.le_of_ble_eq_true (by rfl)) fun h7 k => ⟨⟨1, n, [], false⟩, at3, e3, hat3, (s1.narrow fun _ => by omega).bind ?_, ?_⟩⟩
    · rw [if_pos hx]
      exact s2.bind (.ret _)
    · rw [hx] at k; exact k
  have hx1 : x.toNat ≠ 1 := by
    have : (x.toNat : Int) ≠ 1 := by simpa using hc
    omega
  clear hc
  refine cond_split (fun hc => ?_) (fun hc => ?_)
  · have hx : x.toNat = 2 := by
      have : (x.toNat : Int) = 2 := by simpa using hc
      omega
    obtain ⟨F', G, k1, kG, d, hF, back⟩ := k.pull1.frameA
    refine CallsH.mono (rtext_step k1 (r.at k.ext hF hat2) (by omega) (by omega) (by omega)) ?_
    rintro _ h6 ⟨s, at3, e3, rfl, hat3, s2, k2⟩
    have k := back k2
    refine ⟨_, rfl, k.vst (Nat.le_of_ble_eq_true (by rfl)) fun h7 k => ⟨⟨2, 0, s, false⟩, at3, e3, hat3, (s1.narrow fun _ => by omega).bind ?_, ?_⟩⟩
    · rw [if_neg hx1, if_pos hx]
      exact s2.bind (.ret _)
    · rw [hx] at k; exact k
  have hx2 : x.toNat ≠ 2 := by
    have : (x.toNat : Int) ≠ 2 := by simpa using hc
    omega
  clear hc
  refine cond_split (fun hc => ?_) (fun hc => ?_)
  · have hx : x.toNat = 3 := by
      have : (x.toNat : Int) = 3 := by simpa using hc
      omega
    obtain ⟨F', G, k1, kG, d, hF, back⟩ := k.pull1.frameA
    refine CallsH.mono (rone_step k1 (r.at k.ext hF hat2)) ?_
    rintro _ h6 ⟨y, at3, e3, rfl, hat3, s2, k2⟩
    have k := back k2
    clear back k1 kG d hF
    have eb : ((y.toNat : Int) == 1) = decide (y.toNat = 1) := by rw [Bool.eq_iff_iff]; simp; omega
    refine ⟨_, rfl, fun h' => ∃ (e4 : Int), StepR (oneR 0 1) bs at2 0 y at3 e4 ∧ St F h h' [RdrA t p a l c at3 e4, A.blk b6 #[.int .i64 (x.toNat : Int), .int .i64 0, .string (ByteArray.mk #[]), .bool false] 83, A.blk b1 zeroV 83], ?_, ?_⟩
    · refine cond_split (fun hc => ?_) (fun hc => ?_)
      · have hy : 1 < y.toNat := by
          have : (y.toNat : Int) > 1 := of_decide_eq_true hc
          omega
        obtain ⟨F', G, k1, kG, d, hF, back⟩ := k.frameA
        refine CallsH.mono (rfault_spec k1 31) ?_
        rintro _ h7 ⟨rfl, k2⟩
        refine ⟨rfl, _, ?_, back k2⟩
        by_cases he : e3 = 0
        · subst he
          rw [if_pos rfl]
          exact s2.wide (.inr hy)
        · rw [if_neg he]
          exact s2.narrow fun h => absurd h he
      · have hy : ¬ 1 < y.toNat := by
          have : ¬ (y.toNat : Int) > 1 := of_decide_eq_false hc
          omega
        exact ⟨e3, s2.narrow fun _ => by omega, k⟩
    · clear k s2
      rintro h' _ ⟨e4, s2, k⟩
      rw [eb]
      refine (k.vst (Nat.le_of_ble_eq_true (by rfl)) fun h7 k => ⟨⟨3, 0, [], decide (y.toNat = 1)⟩, at3, e4, hat3, (s1.narrow fun _ => by omega).bind ?_, ?_⟩)
      · rw [if_neg hx1, if_neg hx2]
        exact s2.bind (.ret _)
      · rw [hx] at k; exact k
  · have hx3 : x.toNat ≠ 3 := by
      have : (x.toNat : Int) ≠ 3 := by simpa using hc
      omega
    obtain ⟨F', G, k1, kG, d, hF, back⟩ := k.pull1.frameA
    refine CallsH.mono (rfault_spec k1 31) ?_
    rintro _ h7 ⟨rfl, k2⟩
    have k := back k2
    rw [if_pos rfl] at k
    have s3 : StepR (oneR 1 3) bs at_ e x at2 31 := s1.wide (by omega)
    exact ⟨rfl, ⟨x.toNat, 0, [], false⟩, at2, 31, hat2, s3.bind (.stay (by omega)), k⟩
theorem rdecode_spec (hs : Sl h a (bytesV bs)) (hl : bs.length = l) (hlc : l ≤ c) (hb : l ≤ 140737488363520) : CallsH Tryd.prog 19 #[.slice a l c] h
    (fun v h' => ∃ (a' : Option Addr) (c' : Nat), v = .tuple #[aggE (decB bs).1 a' (decB bs).1.vs.length c', .int .i64 ((decB bs).2.1 : Int), .int .i64 (decB bs).2.2] ∧ St none_ h h' [VV a' (decB bs).1.vs.length c' (decB bs).1.vs]) := by
  refine vf19 _ _ _ h _ ?_
  unfold F19
  have k := St.fresh h
  have r : RdOk none_ h a l c bs 0 := ⟨hs.ro, hl, hlc, hb, Nat.zero_le _⟩
  refine k.vnew fun b1 h2 k => k.vnew fun b3 h3 k => k.vnew fun b5 h4 k => ?_
  have k : St none_ h h4 [A.blk b5 #[.string (ByteArray.mk #[]), .int .i64 0, .slice none 0 0] 27, RdrA 96 b3 a l c 0 0, A.blk b1 #[.string (ByteArray.mk #[]), .int .i64 0, .slice none 0 0] 27] := k
  obtain ⟨F', G, k1, kG, d, hF, back⟩ := k.pull1.frameA
  refine CallsH.mono (rtext_step k1 (r.at k.ext hF (Nat.zero_le _)) (by omega) (by omega) (by omega)) ?_
  rintro _ h5 ⟨tx, at2, e2, rfl, hat2, s2, k2⟩
  have k := back k2
  clear back k1 kG d hF
  refine ⟨_, rfl, k.vst (Nat.le_of_ble_eq_true (by rfl)) fun h6 k => ?_⟩
  refine ⟨fun h' => ∃ (e3 : Int), StepR nameR bs 0 0 tx at2 e3 ∧ St none_ h h' [RdrA 96 b3 a l c at2 e3, A.blk b5 #[.string (bA tx), .int .i64 0, .slice none 0 0] 27, A.blk b1 #[.string (ByteArray.mk #[]), .int .i64 0, .slice none 0 0] 27], ⟨_, k.rd (by rfl), ?_⟩, ?_⟩
  · refine cond_split (fun hc => ?_) (fun hc => ?_)
    · have hc : e2 = 0 := by simpa using hc
      subst hc
      refine ⟨_, k.rd (by rfl), CallsH.mono (rname_spec tx) ?_⟩
      rintro _ h7 ⟨rfl, m⟩
      have k := k.next m
      refine ⟨_, rfl, cond_split (fun hc => ?_) (fun hc => ?_)⟩
      · have hc : nameOk tx = false := by simpa using hc
        obtain ⟨F', G, k1, kG, d, hF, back⟩ := k.frameA
        refine CallsH.mono (rfault_spec k1 31) ?_
        rintro _ h7 ⟨rfl, k2⟩
        refine ⟨rfl, _, s2.bind ?_, back k2⟩
        rw [if_neg (by simp [hc]), if_pos rfl]
        exact .inr (.inr ⟨rfl, rfl, by omega⟩)
      · have hc : nameOk tx = true := by simpa using hc
        refine ⟨_, s2.bind ?_, k⟩
        rw [if_pos hc]
        exact .ret _
    · have hc : e2 ≠ 0 := by simpa using hc
      exact ⟨_, s2.bind (.stay hc), k⟩
  clear k s2
  rintro h7 _ ⟨e3, s3, k⟩
  obtain ⟨F', G, k1, kG, d, hF, back⟩ := k.frameA
  refine CallsH.mono (rnumber_step k1 (r.at k.ext hF hat2)) ?_
  rintro _ h8 ⟨tm, at4, e4, rfl, hat4, s4, hz4, k2⟩
  have k := back k2
  clear back k1 kG d hF
  refine ⟨_, rfl, k.vst (Nat.le_of_ble_eq_true (by rfl)) fun h9 k => ?_⟩
  obtain ⟨F', G, k1, kG, d, hF, back⟩ := k.frameA
  refine CallsH.mono (rnumber_step k1 (r.at k.ext hF hat4)) ?_
  rintro _ h10 ⟨n, at5, e5, rfl, hat5, s5, hz5, k2⟩
  have k := back k2
  clear back k1 kG d hF
  have hn := s5.rng hz5 (by omega) (by omega) (by omega)
  obtain ⟨N, rfl⟩ : ∃ N : Nat, n = N := ⟨n.toNat, by omega⟩
  have hN : N ≤ 16 := by omega
  refine ⟨_, rfl, ?_⟩
  refine ⟨fun n h' i => ∃ (vs : List Val) (a' : Option Addr) (c' at6 : Nat) (e6 : Int), i = (vs.length : Int) ∧ vs.length ≤ N ∧ n = N - vs.length ∧ at6 ≤ l ∧ StepR (rep valR vs.length) bs at5 e5 vs at6 e6 ∧
      St none_ h h' [RdrA 96 b3 a l c at6 e6, A.blk b5 #[.string (bA tx), .int .i64 tm, .slice a' vs.length c'] 27, VV a' vs.length c' vs, A.blk b1 #[.string (ByteArray.mk #[]), .int .i64 0, .slice none 0 0] 27],
    ⟨_, [], none, 0, at5, e5, rfl, by simp, rfl, hat5, .ret _, ?_⟩, ?_⟩
  · exact (k.vnil 83 (sz := 4) (by omega)).sel 4 [1, 2, 0, 3] rfl (by decide) (by rfl)
  clear k
  rintro n h11 _ _ ⟨vs, a', c', at6, e6, rfl, hvN, rfl, hat6, s6, k⟩
  refine cond_split (fun hc => ⟨_, k.rd (by rfl), cond_split (fun hc2 => ?_) (fun hc2 => ?_)⟩) (fun hc => ?_)
  · have hlt : vs.length < N := Int.ofNat_lt.1 (of_decide_eq_true hc)
    refine ⟨_, _, _, k.rd (by rfl), ?_⟩
    obtain ⟨F', G, k1, kG, d, hF, back⟩ := k.frameA
    refine CallsH.mono (rvalue_step k1 (r.at k.ext hF hat6)) ?_
    rintro _ h12 ⟨x, at7, e7, rfl, hat7, s7, k2⟩
    have k := back k2
    clear back k1 kG d hF
    refine ⟨_, _, _, _, rfl, k.rd (by rfl), k.vnew fun b41 h13 k => ⟨k.rd (by rfl), ?_⟩⟩
    have k := k.sel 5 [0, 3, 1, 2, 4] rfl (by decide) (L' := [A.blk b41 (valV x).toArray 83, VV a' vs.length c' vs, _, _, _]) (by rfl)
    refine app_val k (by omega) fun a2 c2 h14 k => ⟨_, _, _, rfl, k.vst (Nat.le_of_ble_eq_true (by rfl)) fun h15 k => ?_⟩
    have el : (vs ++ [x]).length = vs.length + 1 := by simp
    refine ⟨N - (vs.length + 1), by omega, vs ++ [x], a2, c2, at7, e7, ?_, by omega, by rw [el], hat7, ?_, ?_⟩
    · rw [wrap_id (by omega) (by omega), el]; omega
    · rw [el]; exact s6.snoc s7
    · rw [el]
      exact k.sel 4 [1, 2, 0, 3] rfl (by decide) (by rfl)
  · have hc : e6 ≠ 0 := by simpa using hc2
    refine ⟨_, k.rd (by rfl), cond_true (by simpa using hc) ?_⟩
    refine ⟨_, k.rd (by rfl), k.vall (by rfl) (by rfl) fun h7 k => ⟨k.rd (by rfl), _, k.rd (by rfl), _, k.rd (by rfl), _, _, _, k.rd (by rfl), ?_⟩⟩
    have s7 : StepR evR bs 0 0 noEv at6 e6 := s3.bind (s4.bind (s5.bind (StepR.bind (f := rep valR N) (x := vs) (s6.skip hvN hc) (StepR.stay hc))))
    have hd : decB bs = (noEv, 0, e6) := by
      rcases s7.ok with ⟨n, q1, q2, q3⟩ | ⟨q1, q2⟩
      · exact absurd q3 hc
      · unfold decB
        rw [List.drop_zero] at q1
        rw [q1]
    rw [hd]
    exact ⟨none, 0, rfl, (k.vnil 83 (sz := 4) (by omega)).only⟩
  · have hlt : vs.length = N := by
      have : ¬ (vs.length : Int) < N := of_decide_eq_false hc
      omega
    clear hc
    refine ⟨_, k.rd (by rfl), cond_split (fun hc => ?_) (fun hc => ?_)⟩
    · have hc : e6 ≠ 0 := by simpa using hc
      refine ⟨_, k.rd (by rfl), k.vall (by rfl) (by rfl) fun h7 k => ⟨k.rd (by rfl), _, k.rd (by rfl), _, k.rd (by rfl), _, _, _, k.rd (by rfl), ?_⟩⟩
      have s7 : StepR evR bs 0 0 noEv at6 e6 := s3.bind (s4.bind (s5.bind (StepR.bind (f := rep valR N) (x := vs) (s6.skip hvN hc) (StepR.stay hc))))
      have hd : decB bs = (noEv, 0, e6) := by
        rcases s7.ok with ⟨n, q1, q2, q3⟩ | ⟨q1, q2⟩
        · exact absurd q3 hc
        · unfold decB
          rw [List.drop_zero] at q1
          rw [q1]
      rw [hd]
      exact ⟨none, 0, rfl, (k.vnil 83 (sz := 4) (by omega)).only⟩
    have hc : e6 = 0 := by simpa using hc
    subst hc
    refine ⟨_, k.rd (by rfl), _, k.rd (by rfl), _, _, _, k.rd (by rfl), _, k.rd (by rfl), k.vall (by rfl) (by rfl) fun h7 k => ⟨k.rd (by rfl), _, k.rd (by rfl), _, k.rd (by rfl), _, _, _, k.rd (by rfl), ?_⟩⟩
    rw [hlt] at s6
    have s7 : StepR evR bs 0 0 ⟨tx, tm, vs⟩ at6 0 := s3.bind (s4.bind (s5.bind (StepR.bind (f := rep valR N) (x := vs) s6 (.ret _))))
    have hd : decB bs = (⟨tx, tm, vs⟩, at6, 0) := by
      rcases s7.ok with ⟨n, q1, q2, q3⟩ | ⟨q1, q2⟩
      · unfold decB
        rw [List.drop_zero] at q1
        rw [q1, q2, Nat.zero_add]
      · exact absurd rfl q2
    rw [hd]
    exact ⟨a', c', rfl, (k.sel 4 [2, 0, 1, 3] rfl (by decide) (L' := [_, _, _, _]) (by rfl)).only⟩
end Go.Proofs.YtofaihacmoacjaaDoor.F
