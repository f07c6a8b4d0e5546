/- Package wire: events are read by the program: values, events. Conditions: none. -/
import Derived.Test.YtofaihacmoacjaaDoorW8
namespace Go.Proofs.YtofaihacmoacjaaDoor.F
open Go Go.VC Go.Proofs
set_option linter.unusedSimpArgs false
set_option linter.unusedVariables false
set_option maxRecDepth 100000
attribute [local irreducible] CallsH RunsTo PureTo

variable {S F G : Nat → Prop} {h0 h h1 : Heap} {L R L' : List A} {a b : Option Addr} {l c l2 c2 p t at_ : Nat} {bs cs : List UInt8} {e : Int} {ev : Ev} {v : Val}
theorem und25 : Tryd.prog.underlying 25 = some (.slice 83) := by kernel_rfl
theorem T25 : SlTy Tryd.prog 25 83 4 40 (.agg (valV noVal).toArray) := ⟨und25, by kernel_rfl, rfl, by omega, by omega⟩
abbrev VV (a : Option Addr) (l c : Nat) (vs : List Val) : A := A.vec 83 4 a l c (vs.flatMap valV)
theorem oneC_val (x : Val) : ∀ w ∈ valV x, oneC w = true := by
  intro w hw
  simp only [valV, List.mem_cons, List.not_mem_nil, or_false] at hw
  rcases hw with rfl | rfl | rfl | rfl <;> rfl
/-- One value more. -/
theorem app_val {x : Val} {bb : Nat} {vs : List Val} (k : St S h0 h (A.blk bb (valV x).toArray 83 :: VV a l c vs :: R)) (hb : l + 1 ≤ 1099511627776) {K : KV}
    (q : ∀ a' c' h', St S h0 h' (VV a' (l + 1) c' (vs ++ [x]) :: R) → K (.slice a' (l + 1) c') h') : RunsTo Tryd.prog (Builtin.append_ #[25, 25] 25 #[.slice a l c, .slice (some ⟨bb, 0, none⟩) 1 1]) h K := by
  have hsl : Sl h (some ⟨bb, 0, none⟩) (valV x) := k.slB (b := bb)
  refine k.pull1.app T25 und25 (by simp) (Src.slice hsl rfl) (oneC_val x) (by omega) fun a' c' h' k => q a' c' h' ?_
  have e : vs.flatMap valV ++ valV x = (vs ++ [x]).flatMap valV := by rw [List.flatMap_append]; simp
  rw [e] at k
  exact k.pull1.drop
theorem takeB_one (b : Bytes) : takeB 1 b = match b with | [] => .err 30 | c :: _ => .ok [c] 1 := by
  unfold takeB
  cases b with
  | nil => rfl
  | cons c r => simp
theorem one_step {lo hi : Nat} (k : Holds [RdrA t p a l c at_ e] F h) (r : RdOk F h a l c bs at_) : CallsH Tryd.prog 88 #[.pointer (some ⟨p, 0, none⟩), .int .u8 (lo : Int), .int .u8 (hi : Int)] h
    (fun v h' => ∃ (x : UInt8) (at2 : Nat) (e2 : Int), v = .int .u8 (x.toNat : Int) ∧ at2 ≤ l ∧ StepR (oneR lo hi) bs at_ e x at2 e2 ∧ St F h h' [RdrA t p a l c at2 e2]) := by
  refine vf88 _ _ _ h _ ?_
  unfold F88
  refine CallsH.mono (bytes_step (n := 1) k r (by omega)) ?_
  rintro _ h2 ⟨s, at2, e2, rfl, hat, hst, hs, k⟩
  refine ⟨_, rfl, VSome.mk ⟨_, k.rd (by rfl), cond_split (fun hc => ?_) (fun hc => ?_)⟩⟩
  · have hc : e2 ≠ 0 := by simpa using hc
    refine ⟨0, at2, e2, rfl, hat, ?_, k⟩
    rcases hst with h | ⟨_, _, _, _, h⟩ | ⟨h1, h2, h3⟩
    · exact .inl h
    · exact absurd h hc
    · refine .inr (.inr ⟨h1, ?_, h3⟩)
      rw [takeB_one] at h2
      cases hd : bs.drop at_ with
      | nil => rw [hd] at h2; cases h2; rfl
      | cons c r => rw [hd] at h2; cases h2
  have hc : e2 = 0 := by simpa using hc
  subst hc
  obtain ⟨rfl, x, hd, rfl, rfl⟩ : e = 0 ∧ ∃ x, bs.drop at_ = x :: bs.drop (at_ + 1) ∧ s = [x] ∧ at2 = at_ + 1 := by
    rcases hst with ⟨h, _, h2⟩ | ⟨h0, n, h1, h2, _⟩ | ⟨_, _, h⟩
    · exact absurd h2.symm h
    · refine ⟨h0, ?_⟩
      rw [takeB_one] at h1
      cases hd : bs.drop at_ with
      | nil => rw [hd] at h1; cases h1
      | cons c r =>
        rw [hd] at h1; cases h1
        refine ⟨c, ?_, rfl, h2⟩
        have : bs.drop (at_ + 1) = (bs.drop at_).drop 1 := by rw [List.drop_drop]
        rw [this, hd]; rfl
    · exact absurd rfl h
  have h0 : (bA [x])[Int.toNat 0]? = some x := rfl
  refine ⟨fun h' => (x.toNat < lo ∨ hi < x.toNat) ∧ St F h h' [RdrA t p a l c (at_ + 1) 31] ∨ ¬ (x.toNat < lo ∨ hi < x.toNat) ∧ St F h h' [RdrA t p a l c (at_ + 1) 0], ⟨by omega, x, h0, ?_⟩, ?_⟩
  · refine cond_split (fun hc => ?_) (fun hc => ⟨by omega, x, h0, cond_split (fun hc2 => ?_) (fun hc2 => ?_)⟩)
    · have hx : x.toNat < lo := by
        have : (x.toNat : Int) < lo := of_decide_eq_true hc
        omega
      obtain ⟨F', G, k1, kG, d, hF, back⟩ := k.frameA
      refine CallsH.mono (fail_spec k1 31) ?_
      rintro _ h2 ⟨rfl, k2⟩
      exact ⟨rfl, .inl ⟨.inl hx, back k2⟩⟩
    · have hx : hi < x.toNat := by
        have : (x.toNat : Int) > hi := of_decide_eq_true hc2
        omega
      obtain ⟨F', G, k1, kG, d, hF, back⟩ := k.frameA
      refine CallsH.mono (fail_spec k1 31) ?_
      rintro _ h2 ⟨rfl, k2⟩
      exact ⟨rfl, .inl ⟨.inr hx, back k2⟩⟩
    · have h1 : ¬ (x.toNat : Int) < lo := of_decide_eq_false hc
      have h2 : ¬ (x.toNat : Int) > hi := of_decide_eq_false hc2
      exact .inr ⟨by omega, k⟩
  · rintro h' _ (⟨hx, k⟩ | ⟨hx, k⟩)
    · refine ⟨by omega, x, h0, x, _, 31, rfl, hat, .inr (.inr ⟨rfl, ?_, by omega⟩), k⟩
      rw [hd]
      exact if_pos hx
    · refine ⟨by omega, x, h0, x, _, 0, rfl, hat, .inr (.inl ⟨rfl, 1, ?_, rfl, rfl⟩), k⟩
      rw [hd]
      exact if_neg hx
theorem StepR.rng {lo hi x : Int} {at2 : Nat} {e2 : Int} (h : StepR (numb lo hi) bs at_ e x at2 e2) (hz : e2 ≠ 0 → x = 0) (h1 : 0 ≤ lo) (h2 : 0 ≤ hi) (h3 : hi < 9223372036854775808) : 0 ≤ x ∧ x ≤ hi := by
  by_cases he : e2 = 0
  · subst he
    rcases h with ⟨h, _, h4⟩ | ⟨_, n, h4, _⟩ | ⟨_, _, h⟩
    · exact absurd h4.symm h
    · obtain ⟨h5, _⟩ := (Form.numb (lo := lo) (by omega) h3).pg _ _ _ h4
      omega
    · exact absurd rfl h
  · rw [hz he]; omega
abbrev zeroV : Array Value := #[.int .i64 0, .int .i64 0, .string (ByteArray.mk #[]), .bool false]
theorem value_step (k : Holds [RdrA t p a l c at_ e] F h) (r : RdOk F h a l c bs at_) : CallsH Tryd.prog 80 #[.pointer (some ⟨p, 0, none⟩)] h
    (fun v h' => ∃ (x : Val) (at2 : Nat) (e2 : Int), v = aggV x ∧ at2 ≤ l ∧ StepR valR bs at_ e x at2 e2 ∧ St F h h' [RdrA t p a l c at2 e2]) := by
  refine vf80 _ h _ ?_
  unfold F80
  have k := St.start k
  refine k.vnew fun b1 h2 k => ?_
  obtain ⟨F', G, k1, kG, d, hF, back⟩ := k.pull1.frameA
  refine CallsH.mono (one_step (lo := 1) (hi := 3) k1 (r.at k.ext hF r.at_)) ?_
  rintro _ h3 ⟨x, at2, e2, rfl, hat2, s1, k2⟩
  have k := back k2
  clear back k1 kG d hF
  have ex : IntKind.i64.wrap (x.toNat : Int) = (x.toNat : Int) := by have := x.toNat_lt; rw [wrap_id (by omega) (by omega)]
  refine ⟨_, rfl, ?_⟩
  rw [ex]
  refine (k.vnew fun b6 h4 k => k.vall (by rfl) (by rfl) fun h5 k => VSome.mk ⟨_, k.rd (by rfl), cond_split (fun hc => ?_) (fun hc => ?_)⟩)
  · have hc : e2 ≠ 0 := by simpa using hc
    refine k.vall (by rfl) (by rfl) fun h6 k => ⟨_, k.rd (by rfl), _, k.rd (by rfl), _, k.rd (by rfl), _, k.rd (by rfl), noVal, at2, e2, rfl, hat2, ?_, k.pull1.only⟩
    exact (s1.bind (y := noVal) (StepR.stay hc))
  have hc : e2 = 0 := by simpa using hc
  subst hc
  have hx13 : 1 ≤ x.toNat ∧ x.toNat ≤ 3 := by
    rcases s1 with ⟨h, _, h4⟩ | ⟨_, n, h4, _⟩ | ⟨_, _, h⟩
    · exact absurd h4.symm h
    · exact ((Form.one 1 3).pg _ _ _ h4).1
    · exact absurd rfl h
  refine ⟨fun h' => ∃ (v : Val) (at2 : Nat) (e2 : Int), at2 ≤ l ∧ StepR valR bs at_ e v at2 e2 ∧ St F h h' [RdrA t p a l c at2 e2, A.blk b6 (valV v).toArray 83, A.blk b1 zeroV 83], ⟨_, k.rd (by rfl), ?_⟩, ?_⟩
  rotate_left
  · clear k
    rintro h' _ ⟨v, at3, e3, hat3, s2, k⟩
    refine ⟨_, k.rd (by rfl), _, k.rd (by rfl), _, k.rd (by rfl), _, k.rd (by rfl), k.vall (by rfl) (by rfl) fun h6 k => ⟨_, k.rd (by rfl), _, k.rd (by rfl), _, k.rd (by rfl), _, k.rd (by rfl), v, at3, e3, rfl, hat3, s2, k.only⟩⟩
  refine cond_split (fun hc => ?_) (fun hc => ?_)
  · have hx : x.toNat = 1 := by
      have : (x.toNat : Int) = 1 := by simpa using hc
      omega
    obtain ⟨F', G, k1, kG, d, hF, back⟩ := k.pull1.frameA
    refine CallsH.mono (number_step k1 (r.at k.ext hF hat2)) ?_
    rintro _ h6 ⟨n, at3, e3, rfl, hat3, s2, hz, k2⟩
    have k := back k2
    refine ⟨_, rfl, k.vst (Nat.le_of_ble_eq_true (by rfl)) fun h7 k => ⟨⟨1, n, [], false⟩, at3, e3, hat3, s1.bind ?_, ?_⟩⟩
    · rw [if_pos hx]
      exact s2.bind (.ret _)
    · rw [hx] at k; exact k
  have hx1 : x.toNat ≠ 1 := by
    have : (x.toNat : Int) ≠ 1 := by simpa using hc
    omega
  clear hc
  refine cond_split (fun hc => ?_) (fun hc => ?_)
  · have hx : x.toNat = 2 := by
      have : (x.toNat : Int) = 2 := by simpa using hc
      omega
    obtain ⟨F', G, k1, kG, d, hF, back⟩ := k.pull1.frameA
    refine CallsH.mono (number_step k1 (r.at k.ext hF hat2)) ?_
    rintro _ h6 ⟨n, at3, e3, rfl, hat3, s2, hz, k2⟩
    have k := back k2
    clear back k1 kG d hF
    have hn := s2.rng hz (by omega) (by omega) (by omega)
    obtain ⟨m, rfl⟩ : ∃ m : Nat, n = m := ⟨n.toNat, by omega⟩
    refine ⟨_, rfl, ?_⟩
    obtain ⟨F', G, k1, kG, d, hF, back⟩ := k.frameA
    refine CallsH.mono (bytes_step (n := m) k1 (r.at k.ext hF hat3) (by omega)) ?_
    rintro _ h7 ⟨s, at4, e4, rfl, hat4, s3, hs, k2⟩
    have k := back k2
    refine ⟨_, rfl, k.vst (Nat.le_of_ble_eq_true (by rfl)) fun h7 k => ⟨⟨2, 0, s, false⟩, at4, e4, hat4, s1.bind ?_, ?_⟩⟩
    · rw [if_neg hx1, if_pos hx]
      exact (s2.bind s3).bind (.ret _)
    · rw [hx] at k; exact k
  have hx2 : x.toNat ≠ 2 := by
    have : (x.toNat : Int) ≠ 2 := by simpa using hc
    omega
  have hx : x.toNat = 3 := by omega
  obtain ⟨F', G, k1, kG, d, hF, back⟩ := k.pull1.frameA
  refine CallsH.mono (one_step (lo := 0) (hi := 1) k1 (r.at k.ext hF hat2)) ?_
  rintro _ h6 ⟨y, at3, e3, rfl, hat3, s2, k2⟩
  have k := back k2
  have eb : ((y.toNat : Int) == 1) = decide (y.toNat = 1) := by rw [Bool.eq_iff_iff]; simp; omega
  refine ⟨_, rfl, ?_⟩
  rw [eb]
  refine (k.vst (Nat.le_of_ble_eq_true (by rfl)) fun h7 k => ⟨⟨3, 0, [], decide (y.toNat = 1)⟩, at3, e3, hat3, s1.bind ?_, ?_⟩)
  · rw [if_neg hx1, if_neg hx2]
    exact s2.bind (.ret _)
  · rw [hx] at k; exact k
theorem event_step (hw : Wd F h) (k : Holds [RdrA t p a l c at_ e] F h) (r : RdOk F h a l c bs at_) : CallsH Tryd.prog 51 #[.pointer (some ⟨p, 0, none⟩)] h
    (fun v h' => ∃ (x : Ev) (a' : Option Addr) (c' at2 : Nat) (e2 : Int), v = aggE x a' x.vs.length c' ∧ at2 ≤ l ∧ StepR evR bs at_ e x at2 e2 ∧ x.vs.length ≤ 16 ∧ St F h h' [RdrA t p a l c at2 e2, VV a' x.vs.length c' x.vs]) := by
  refine vf51 _ h _ ?_
  unfold F51
  have k := St.start k
  refine k.vnew fun b1 h2 k => k.vnew fun b3 h3 k => ?_
  obtain ⟨F', G, k1, kG, d, hF, back⟩ := k.pull2.frameA
  refine CallsH.mono (number_step k1 (r.at k.ext hF r.at_)) ?_
  rintro _ h4 ⟨n, at1, e1, rfl, hat1, s1, hz1, k2⟩
  have k := back k2
  clear back k1 kG d hF
  have hn := s1.rng hz1 (by omega) (by omega) (by omega)
  obtain ⟨m, rfl⟩ : ∃ m : Nat, n = m := ⟨n.toNat, by omega⟩
  refine ⟨_, rfl, ?_⟩
  obtain ⟨F', G, k1, kG, d, hF, back⟩ := k.frameA
  refine CallsH.mono (bytes_step (n := m) k1 (r.at k.ext hF hat1) (by omega)) ?_
  rintro _ h5 ⟨tx, at2, e2, rfl, hat2, s2, hs, k2⟩
  have k := back k2
  clear back k1 kG d hF
  have s2 : StepR (textR 1 32) bs at_ e tx at2 e2 := s1.bind s2
  clear s1 hz1 hn hs
  refine ⟨_, rfl, k.vst (Nat.le_of_ble_eq_true (by rfl)) fun h6 k => ?_⟩
  refine ⟨fun h' => ∃ (e3 : Int), StepR nameR bs at_ e tx at2 e3 ∧ St F h h' [RdrA t p a l c at2 e3, A.blk b3 #[.string (bA tx), .int .i64 0, .slice none 0 0] 27, A.blk b1 #[.string (ByteArray.mk #[]), .int .i64 0, .slice none 0 0] 27], ⟨_, k.rd (by rfl), ?_⟩, ?_⟩
  · refine CallsH.mono (name_spec (hw.mod k.ext) tx) ?_
    rintro _ _ ⟨rfl, rfl⟩
    refine ⟨_, rfl, cond_split (fun hc => ?_) (fun hc => ?_)⟩
    · have hc : nameOk tx = false := by simpa using hc
      obtain ⟨F', G, k1, kG, d, hF, back⟩ := k.frameA
      refine CallsH.mono (fail_spec k1 31) ?_
      rintro _ h7 ⟨rfl, k2⟩
      refine ⟨rfl, _, s2.bind ?_, back k2⟩
      rw [if_neg (by simp [hc])]
      by_cases he : e2 = 0
      · subst he
        rw [if_pos rfl]
        exact .inr (.inr ⟨rfl, rfl, by omega⟩)
      · rw [if_neg he]
        exact .stay he
    · have hc : nameOk tx = true := by simpa using hc
      refine ⟨_, s2.bind ?_, k⟩
      rw [if_pos hc]
      exact .ret _
  clear k s2
  rintro h7 _ ⟨e3, s3, k⟩
  obtain ⟨F', G, k1, kG, d, hF, back⟩ := k.frameA
  refine CallsH.mono (number_step k1 (r.at k.ext hF hat2)) ?_
  rintro _ h8 ⟨tm, at4, e4, rfl, hat4, s4, hz4, k2⟩
  have k := back k2
  clear back k1 kG d hF
  refine ⟨_, rfl, k.vst (Nat.le_of_ble_eq_true (by rfl)) fun h9 k => ?_⟩
  obtain ⟨F', G, k1, kG, d, hF, back⟩ := k.frameA
  refine CallsH.mono (number_step k1 (r.at k.ext hF hat4)) ?_
  rintro _ h10 ⟨n, at5, e5, rfl, hat5, s5, hz5, k2⟩
  have k := back k2
  clear back k1 kG d hF
  have hn := s5.rng hz5 (by omega) (by omega) (by omega)
  obtain ⟨N, rfl⟩ : ∃ N : Nat, n = N := ⟨n.toNat, by omega⟩
  have hN : N ≤ 16 := by omega
  refine ⟨_, rfl, ?_⟩
  refine ⟨fun n h' i => ∃ (vs : List Val) (a' : Option Addr) (c' at6 : Nat) (e6 : Int), i = (vs.length : Int) ∧ vs.length ≤ N ∧ n = N - vs.length ∧ at6 ≤ l ∧ StepR (rep valR vs.length) bs at5 e5 vs at6 e6 ∧
      St F h h' [RdrA t p a l c at6 e6, A.blk b3 #[.string (bA tx), .int .i64 tm, .slice a' vs.length c'] 27, VV a' vs.length c' vs, A.blk b1 #[.string (ByteArray.mk #[]), .int .i64 0, .slice none 0 0] 27],
    ⟨_, [], none, 0, at5, e5, rfl, by simp, rfl, hat5, .ret _, ?_⟩, ?_⟩
  · exact (k.vnil 83 (sz := 4) (by omega)).sel 4 [1, 2, 0, 3] rfl (by decide) (by rfl)
  clear k
  rintro n h11 _ _ ⟨vs, a', c', at6, e6, rfl, hvN, rfl, hat6, s6, k⟩
  refine cond_split (fun hc => ?_) (fun hc => ?_)
  · have hlt : vs.length < N := Int.ofNat_lt.1 (of_decide_eq_true hc)
    refine ⟨_, _, _, k.rd (by rfl), ?_⟩
    obtain ⟨F', G, k1, kG, d, hF, back⟩ := k.frameA
    refine CallsH.mono (value_step k1 (r.at k.ext hF hat6)) ?_
    rintro _ h12 ⟨x, at7, e7, rfl, hat7, s7, k2⟩
    have k := back k2
    clear back k1 kG d hF
    refine ⟨_, _, _, _, rfl, k.rd (by rfl), k.vnew fun b41 h13 k => ⟨k.rd (by rfl), ?_⟩⟩
    have k := k.sel 5 [0, 3, 1, 2, 4] rfl (by decide) (L' := [A.blk b41 (valV x).toArray 83, VV a' vs.length c' vs, _, _, _]) (by rfl)
    refine app_val k (by omega) fun a2 c2 h14 k => ⟨_, _, _, rfl, k.vst (Nat.le_of_ble_eq_true (by rfl)) fun h15 k => ?_⟩
    have el : (vs ++ [x]).length = vs.length + 1 := by simp
    refine ⟨N - (vs.length + 1), by omega, vs ++ [x], a2, c2, at7, e7, ?_, by omega, by rw [el], hat7, ?_, ?_⟩
    · rw [wrap_id (by omega) (by omega), el]; omega
    · rw [el]; exact s6.snoc s7
    · rw [el]
      exact k.sel 4 [1, 2, 0, 3] rfl (by decide) (by rfl)
  · have hlt : vs.length = N := by
      have : ¬ (vs.length : Int) < N := of_decide_eq_false hc
      omega
    refine ⟨_, k.rd (by rfl), _, k.rd (by rfl), _, _, _, k.rd (by rfl), k.vall (by rfl) (by rfl) fun h15 k => ⟨_, k.rd (by rfl), _, k.rd (by rfl), _, _, _, k.rd (by rfl), ⟨tx, tm, vs⟩, a', c', at6, e6, rfl, hat6, ?_, by show vs.length ≤ 16; omega, ?_⟩⟩
    · rw [hlt] at s6
      exact s3.bind (s4.bind (s5.bind (StepR.bind (f := rep valR N) s6 (.ret _))))
    · exact (k.pull1.drop).only2
/-- What is read of an event. -/
def decB (b : Bytes) : Ev × Nat × Int := match evR b with
  | .ok x n => (x, n, 0)
  | .err e => (noEv, 0, e)
theorem decode_spec (hw : Wd none_ h) (hs : Sl h a (bytesV bs)) (hl : bs.length = l) (hlc : l ≤ c) (hb : l ≤ 140737488363520) : CallsH Tryd.prog 18 #[.slice a l c] h
    (fun v h' => ∃ (a' : Option Addr) (c' : Nat), v = .tuple #[aggE (decB bs).1 a' (decB bs).1.vs.length c', .int .i64 ((decB bs).2.1 : Int), .int .i64 (decB bs).2.2] ∧ St none_ h h' [VV a' (decB bs).1.vs.length c' (decB bs).1.vs]) := by
  refine vf18 _ _ _ h _ ?_
  unfold F18
  have k := St.fresh h
  refine k.vnew fun b1 h2 k => k.vnew fun b3 h3 k => ?_
  obtain ⟨F', G, k1, kG, d, hF, back⟩ := k.frame2
  refine CallsH.mono (event_step (e := 0) (at_ := 0) (hw.at k.ext hF) k1 ⟨hs.ro.at k.ext hF, hl, hlc, hb, Nat.zero_le _⟩) ?_
  rintro _ h4 ⟨x, a', c', at2, e2, rfl, hat, hst, hvl, k2⟩
  have k := back k2
  refine ⟨_, _, _, _, _, rfl, k.vnew fun b10 h5 k => k.vall (by rfl) (by rfl) fun h6 k => ⟨_, k.rd (by rfl), cond_split (fun hc => ?_) (fun hc => ?_)⟩⟩
  · have hc : e2 ≠ 0 := by simpa using hc
    have hd : decB bs = (noEv, 0, e2) := by
      rcases hst.ok with ⟨n, q1, q2, q3⟩ | ⟨q1, q2⟩
      · exact absurd q3 hc
      · unfold decB
        rw [List.drop_zero] at q1
        rw [q1]
    rw [hd]
    refine ⟨_, k.rd (by rfl), k.vall (by rfl) (by rfl) fun h7 k => ⟨k.rd (by rfl), _, k.rd (by rfl), _, k.rd (by rfl), _, _, _, k.rd (by rfl), none, 0, rfl, ?_⟩⟩
    exact (k.vnil 83 (sz := 4) (by omega)).only
  · have hc : e2 = 0 := by simpa using hc
    subst hc
    have hd : decB bs = (x, at2, 0) := by
      rcases hst.ok with ⟨n, q1, q2, q3⟩ | ⟨q1, q2⟩
      · unfold decB
        rw [List.drop_zero] at q1
        rw [q1, q2, Nat.zero_add]
      · exact absurd rfl q2
    rw [hd]
    refine ⟨_, k.rd (by rfl), _, k.rd (by rfl), _, _, _, k.rd (by rfl), _, k.rd (by rfl), k.vall (by rfl) (by rfl) fun h7 k => ⟨k.rd (by rfl), _, k.rd (by rfl), _, k.rd (by rfl), _, _, _, k.rd (by rfl), a', c', rfl, ?_⟩⟩
    exact (k.sel 4 [2, 0, 1, 3] rfl (by decide) (L' := [_, _, _, _]) (by rfl)).only
end Go.Proofs.YtofaihacmoacjaaDoor.F
