/- The laws of wire: a step with one thing another one. Conditions: none. -/
import Derived.Test.YtofaihacmoacjaaDoorWT
namespace Go.Proofs.YtofaihacmoacjaaDoor.F
open Go Go.VC Go.Proofs
set_option linter.unusedSimpArgs false
set_option linter.unusedVariables false
set_option maxRecDepth 100000
attribute [local irreducible] CallsH RunsTo PureTo

variable {S F G : Nat → Prop} {h0 h h1 : Heap} {L R L' : List A} {a b : Option Addr} {l c l2 c2 p t at_ : Nat} {bs cs raw : List UInt8} {e : Ev} {v : Val} {es fs : List Ev}
theorem wrap_rng (n : Int) : -9223372036854775808 ≤ IntKind.i64.wrap n ∧ IntKind.i64.wrap n < 9223372036854775808 := by
  simp only [IntKind.wrap, IntKind.signed, IntKind.bits]
  simp
  omega
theorem xor_rng (x y : Int) : -9223372036854775808 ≤ bitsOp .xor .i64 x y ∧ bitsOp .xor .i64 x y < 9223372036854775808 := wrap_rng _
theorem st3 {b o : Nat} {v1 v2 v3 : Value} {K : Heap → Prop} (h1 : oneC v1 = true) (h2 : oneC v2 = true) (h3 : oneC v3 = true) (k : VStore h ⟨b, o, none⟩ v1 fun h' => VStore h' ⟨b, o + 1, none⟩ v2 fun h'' => VStore h'' ⟨b, o + 2, none⟩ v3 K) : storeL ⟨b, o, none⟩ 0 [v1, v2, v3] h K := by
  have one : ∀ {h : Heap} {a : Addr} {v : Value} {K K' : Heap → Prop}, oneC v = true → VStore h a v K → (∀ h', K h' → K' h') → storeOne h a v K' := fun hv q w => storeOne.of hv ⟨q.1, q.2.1, w _ q.2.2⟩
  refine one h1 k fun h' k => one h2 k fun h'' k => one h3 k fun _ k => k
theorem cut_text {s : ByteArray} {K : ByteArray → Prop} (h : 0 < s.size) (q : ∀ t : Bytes, K (bA t)) : VSliceS s 1 (s.size : Int) K := by
  obtain ⟨t, ht⟩ := bA_of (s.extract 1 s.size)
  exact ⟨1, s.size, rfl, rfl, h, Nat.le_refl _, by rw [ht]; exact q t⟩
theorem joinX (s : Bytes) : bA s ++ ByteArray.mk #[120] = bA (s ++ [120]) := by
  apply ByteArray.ext
  simp
theorem rng_set {vs : List Val} {y : Val} {i : Nat} (h : ∀ v ∈ vs, rngV v) (hy : rngV y) : ∀ v ∈ vs.set i y, rngV v := fun v hv => by
  rcases List.mem_or_eq_of_mem_set hv with h1 | rfl
  · exact h v h1
  · exact hy
theorem event_spec {K : Nat} (k : Holds [VV a e.vs.length c e.vs] F h) (hr : rngE e) (ht : e.t.length ≤ 4611686018427387904) (hK : (K : Int) < 9223372036854775808) : CallsH Tryd.prog 70 #[aggE e a e.vs.length c, .int .i64 (K : Int)] h
    (fun v h' => ∃ e2 : Ev, v = aggE e2 a e.vs.length c ∧ e2.vs.length = e.vs.length ∧ e2.t.length ≤ e.t.length + 1 ∧ rngE e2 ∧ St F h h' [VV a e.vs.length c e2.vs]) := by
  refine vf70 _ _ _ _ _ _ h _ ?_
  unfold F70
  have k := St.start k
  generalize hl : e.vs.length = l at *
  refine k.vnew fun b1 h2 k => k.vnew fun b3 h4 k => ⟨by omega, by omega, fun h' => ∃ e2 : Ev, e2.vs.length = l ∧ e2.t.length ≤ e.t.length + 1 ∧ rngE e2 ∧ St F h h' [A.blk b3 #[.string (ByteArray.mk #[]), .int .i64 0, .slice none 0 0] 27, A.blk b1 #[.string (bA e2.t), .int .i64 e2.tm, .slice a l c] 27, VV a l c e2.vs], ?_, ?_⟩
  rotate_left
  · clear k
    rintro h' _ ⟨e2, q1, q2, q3, k⟩
    exact ⟨_, k.rd (by rfl), _, k.rd (by rfl), _, _, _, k.rd (by rfl), k.vall (by rfl) (by rfl) fun h6 k => ⟨_, k.rd (by rfl), _, k.rd (by rfl), _, _, _, k.rd (by rfl), e2, rfl, q1, q2, q3, k.drop.drop⟩⟩
  refine cond_split (fun _ => ⟨_, _, _, k.rd (by rfl), cond_split (fun hc => ?_) (fun hc => ?_)⟩) (fun _ => ?_)
  rotate_left
  · skip
    refine cond_split (fun _ => ?_) (fun _ => ?_)
    · refine ⟨_, k.rd (by rfl), by omega, k.vst (Nat.le_of_ble_eq_true (by rfl)) fun h6 k => ?_⟩
      exact ⟨⟨e.t, bitsOp .xor .i64 e.tm (IntKind.i64.wrap (1 + Int.tmod (IntKind.i64.wrap (Int.tdiv (K : Int) 4)) 9)), e.vs⟩, hl, Nat.le_succ _, hr, k⟩
    · refine ⟨_, k.rd (by rfl), ?_⟩
      refine ⟨by show (((bA e.t).size + 1 : Nat) : Int) ≤ _; rw [bA_size]; omega, ?_⟩
      rw [joinX]
      exact k.vst (Nat.le_of_ble_eq_true (by rfl)) fun h6 k => ⟨⟨e.t ++ [120], e.tm, e.vs⟩, hl, by simp, hr, k⟩
  · skip
    refine cond_split (fun _ => ?_) (fun _ => ?_)
    · refine ⟨_, k.rd (by rfl), by omega, k.vst (Nat.le_of_ble_eq_true (by rfl)) fun h6 k => ?_⟩
      exact ⟨⟨e.t, bitsOp .xor .i64 e.tm (IntKind.i64.wrap (1 + Int.tmod (IntKind.i64.wrap (Int.tdiv (K : Int) 4)) 9)), e.vs⟩, hl, Nat.le_succ _, hr, k⟩
    · refine ⟨_, k.rd (by rfl), ?_⟩
      refine ⟨by show (((bA e.t).size + 1 : Nat) : Int) ≤ _; rw [bA_size]; omega, ?_⟩
      rw [joinX]
      exact k.vst (Nat.le_of_ble_eq_true (by rfl)) fun h6 k => ⟨⟨e.t ++ [120], e.tm, e.vs⟩, hl, by simp, hr, k⟩
  have hl0 : 0 < l := by
    have : (l : Int) > 0 := of_decide_eq_true hc
    omega
  clear hc
  have ek : IntKind.i64.wrap (Int.tdiv (K : Int) 4) = ((K / 4 : Nat) : Int) := by
    have e1 : Int.tdiv (K : Int) 4 = ((K / 4 : Nat) : Int) := rfl
    rw [e1, wrap_id (by omega) (by omega)]
  rw [ek]
  have em : Int.tmod ((K / 4 : Nat) : Int) (l : Int) = ((K / 4 % l : Nat) : Int) := rfl
  have hi : K / 4 % l < l := Nat.mod_lt _ hl0
  refine ⟨_, _, _, k.rd (by rfl), by omega, _, _, _, k.rd (by rfl), ?_⟩
  rw [em]
  generalize K / 4 % l = i at hi
  refine valRow (k.drop.drop.sl (a := a)) hl (by omega) (by omega) fun ad x hx c0 c1 c2 c3 => ⟨_, c0, _, c1, _, c2, _, c3, ?_⟩
  generalize IntKind.i64.wrap (1 + Int.tmod ((K / 4 : Nat) : Int) 5) = w
  refine k.vnew fun b14 h15 k => k.vall (by rfl) (by rfl) fun h16 k => ⟨_, k.rd (by rfl), by omega, k.vst (Nat.le_of_ble_eq_true (by rfl)) fun h18 k => ⟨_, k.rd (by rfl), k.vst (Nat.le_of_ble_eq_true (by rfl)) fun h20 k => ?_⟩⟩
  refine ⟨fun h' => ∃ y : Val, rngV y ∧ St F h h' [A.blk b14 (valV y).toArray 83, A.blk b3 #[.string (ByteArray.mk #[]), .int .i64 0, .slice none 0 0] 27, A.blk b1 #[.string (bA e.t), .int .i64 e.tm, .slice a l c] 27, VV a l c e.vs], ⟨_, k.rd (by rfl), cond_split (fun hc => ?_) (fun hc => ?_)⟩, ?_⟩
  · have h0 : 0 < (bA x.s).size := by
      have : ((bA x.s).size : Int) > 0 := of_decide_eq_true hc
      omega
    refine ⟨_, k.rd (by rfl), cut_text h0 fun t => k.vst (Nat.le_of_ble_eq_true (by rfl)) fun h25 k => ⟨⟨x.k, bitsOp .xor .i64 x.n w, t, !x.b⟩, xor_rng _ _, k⟩⟩
  · exact ⟨⟨x.k, bitsOp .xor .i64 x.n w, x.s, !x.b⟩, xor_rng _ _, k⟩
  clear k
  rintro h26 _ ⟨y, hy, k⟩
  refine ⟨_, _, _, k.rd (by rfl), _, k.rd (by rfl), _, k.rd (by rfl), _, k.rd (by rfl), _, k.rd (by rfl), ?_⟩
  have k := k.pull3
  refine k.vix hi fun g o ha => ?_
  subst ha
  refine St.vrow (f := valV) (fun _ => rfl) (y := y) k hl hi (oneC_val _) fun h34 k => ?_
  refine ⟨⟨e.t, e.tm, e.vs.set i y⟩, by rw [List.length_set]; exact hl, Nat.le_succ _, rng_set hr hy, ?_⟩
  exact (k.sel 4 [1, 2, 3, 0] rfl (by decide) (L' := [_, _, _, _]) (by rfl)).drop
/-! ### One of many -/
theorem allAt {α : Type} {f : α → A} {xs : List α} {x : α} {i : Nat} (hx : xs[i]? = some x) (k : St S h0 h (A.all (xs.map f) :: R)) : St S h0 h (f x :: A.all ((xs.take i ++ xs.drop (i + 1)).map f) :: R) := by
  have e : xs = xs.take i ++ x :: xs.drop (i + 1) := by
    obtain ⟨hlt, he⟩ := List.getElem?_eq_some_iff.1 hx
    rw [← he, ← List.drop_eq_getElem_cons hlt, List.take_append_drop]
  have p : (xs.map f).Perm ((x :: (xs.take i ++ xs.drop (i + 1))).map f) := by
    refine List.Perm.map _ ?_
    conv => lhs; rw [e]
    exact List.perm_middle
  exact (k.allPerm p).allOut
theorem allBack {α : Type} {f : α → A} {xs : List α} {x : α} {i : Nat} (hi : i < xs.length) (k : St S h0 h (f x :: A.all ((xs.take i ++ xs.drop (i + 1)).map f) :: R)) : St S h0 h (A.all ((xs.set i x).map f) :: R) := by
  have e : xs.set i x = xs.take i ++ x :: xs.drop (i + 1) := by
    rw [List.set_eq_take_append_cons_drop, if_pos hi]
  refine k.allIn.allPerm (L := (x :: (xs.take i ++ xs.drop (i + 1))).map f) (List.Perm.map _ ?_)
  rw [e]
  exact List.perm_middle.symm
theorem index61 {cs : Array Value} {j : Nat} {v : Value} {K : Value → Prop} (hj : j < 3) (hv : cs[j]? = some v) (q : K v) : PureTo Tryd.prog (Instr.index 61 (.agg cs) (.int .i64 (j : Int))) K := by
  refine .ok (fun w => ?_) q
  have hu : Tryd.prog.underlying 61 = some (.array 3 3) := by kernel_rfl
  have e : (sizeOf 3).run Tryd.prog w = .ok 1 w := by kernel_rfl
  have ep : (part 3 cs j).run Tryd.prog w = .ok v w := by
    have e : (isAgg 3).run Tryd.prog w = .ok false w := by kernel_rfl
    unfold part
    rw [Sem.run_bind, e, Result.andThen_ok]
    simp [hv]
  simp only [Instr.index, asIntOf, Sem.run_bind, Sem.run_pure, Result.andThen_ok, und_run hu, Sem.run_ite]
  rw [if_pos ⟨by omega, by omega⟩, e, Result.andThen_ok, Int.toNat_natCast, Nat.mul_one, ep]
theorem OpOk.mono {T T' : Nat} {o : Op} (k : OpOk T o) (h : T ≤ T') : OpOk T' o := ⟨k.n, k.rng, k.raw, k.vs, Nat.le_trans k.t h, k.len, fun x hx => ⟨(k.es x hx).1, (k.es x hx).2.1, Nat.le_trans (k.es x hx).2.2 h⟩⟩
theorem other_spec {m : Om} {T : Nat} {kk : Int} (k : Holds [BVo m, VVo m, LEo m] F h) (ok : OpOk T m.o) (hT : T ≤ 4611686018427387000) (hk : -9223372036854775808 ≤ kk ∧ kk < 9223372036854775808) : CallsH Tryd.prog 38 #[opV m, .int .i64 kk] h
    (fun v h' => ∃ m2 : Om, v = opV m2 ∧ OpOk (T + 1) m2.o ∧ St F h h' [BVo m2, VVo m2, LEo m2]) := by
  refine vf38 _ _ _ _ _ _ _ _ _ _ _ _ _ _ h _ ?_
  unfold F38
  have hbig : big = 137438953472 := rfl
  have k := St.start k
  refine k.vnew fun b1 h2 k => k.vnew fun b3 h4 k => ?_
  refine ⟨fun h' x => h' = h4 ∧ ∃ N : Nat, x = N ∧ (N : Int) < 9223372036854775808, ?_, ?_⟩
  · refine cond_split (fun hc => ⟨rfl, ?_⟩) (fun hc => ⟨rfl, ?_⟩)
    · have hc : kk < 0 := of_decide_eq_true hc
      rw [wrap_id (n := kk + 1) (by omega) (by omega), wrap_id (by omega) (by omega)]
      exact ⟨(0 - (kk + 1)).toNat, by omega, by omega⟩
    · have hc : ¬ kk < 0 := of_decide_eq_false hc
      exact ⟨kk.toNat, by omega, by omega⟩
  rintro h6 _ _ ⟨rfl, N, rfl, hN⟩
  have e2 : IntKind.i64.wrap (Int.tdiv (N : Int) 2) = ((N / 2 : Nat) : Int) := by
    have e1 : Int.tdiv (N : Int) 2 = ((N / 2 : Nat) : Int) := rfl
    rw [e1, wrap_id (by omega) (by omega)]
  have e10 : IntKind.i64.wrap (Int.tdiv (N : Int) 10) = ((N / 10 : Nat) : Int) := by
    have e1 : Int.tdiv (N : Int) 10 = ((N / 10 : Nat) : Int) := rfl
    rw [e1, wrap_id (by omega) (by omega)]
  rw [e2, e10]
  refine ⟨fun h' => ∃ m2 : Om, OpOk T m2.o ∧ St F h h' [A.blk b3 zeroO 71, A.blk b1 (opC m2).toArray 71, BVo m2, VVo m2, LEo m2], ⟨by omega, cond_split (fun _ => ?_) (fun _ => ⟨m, ok, k⟩)⟩, ?_⟩
  · refine ⟨_, k.rd (by rfl), _, k.rd (by rfl), _, _, _, k.rd (by rfl), _, k.rd (by rfl), _, k.rd (by rfl), _, _, _, k.rd (by rfl), _, _, _, k.rd (by rfl), ?_⟩
    refine CallsH.mono (alone_spec (op_ro k.drop.drop ok) ok) ?_
    rintro _ h18 ⟨m2, rfl, hm, k2⟩
    have k : St F h h18 [BVo m2, VVo m2, LEo m2, A.blk b3 zeroO 71, A.blk b1 (opC m).toArray 71, BVo m, VVo m, LEo m] := k.add k2
    have k := k.sel 8 [5, 6, 7, 3, 4, 0, 1, 2] rfl (by decide) (L' := [_, _, _, A.blk b3 zeroO 71, A.blk b1 (opC m).toArray 71, BVo m2, VVo m2, LEo m2]) (by rfl)
    have k := k.drop.drop.drop
    exact ⟨_, _, _, _, _, _, _, _, _, _, _, _, _, rfl, k.vall (by rfl) (by rfl) fun h26 k => ⟨m2, by rw [hm]; exact ok, k⟩⟩
  clear k
  rintro h27 _ ⟨m, ok, k⟩
  have hb1 := ok.raw
  have hb2 := ok.vs
  have hb3 := ok.len
  refine ⟨by omega, by omega, by omega, fun h' => ∃ m2 : Om, OpOk (T + 1) m2.o ∧ St F h h' [A.blk b3 zeroO 71, A.blk b1 (opC m2).toArray 71, BVo m2, VVo m2, LEo m2], ?_, ?_⟩
  rotate_left
  · clear k ok
    rintro h' _ ⟨m2, ok, k⟩
    exact ⟨_, k.rd (by rfl), _, k.rd (by rfl), _, _, _, k.rd (by rfl), _, k.rd (by rfl), _, k.rd (by rfl), _, _, _, k.rd (by rfl), _, _, _, k.rd (by rfl), k.vall (by rfl) (by rfl) fun h6 k => ⟨_, k.rd (by rfl), _, k.rd (by rfl), _, _, _, k.rd (by rfl), _, k.rd (by rfl), _, k.rd (by rfl), _, _, _, k.rd (by rfl), _, _, _, k.rd (by rfl), m2, rfl, ok, k.drop.drop⟩⟩
  have ok1 := ok.mono (T' := T + 1) (Nat.le_succ _)
  refine cond_split (fun _ => ⟨_, _, _, k.rd (by rfl), cond_split (fun hc => ?_) (fun _ => ?_)⟩) (fun _ => ?_)
  · have hl0 : 0 < m.o.raw.length := by
      have : (m.o.raw.length : Int) > 0 := of_decide_eq_true hc
      omega
    have em : Int.tmod ((N / 10 : Nat) : Int) (m.o.raw.length : Int) = ((N / 10 % m.o.raw.length : Nat) : Int) := rfl
    have hi : N / 10 % m.o.raw.length < m.o.raw.length := Nat.mod_lt _ hl0
    refine ⟨_, _, _, k.rd (by rfl), _, _, _, k.rd (by rfl), by omega, _, _, _, k.rd (by rfl), _, _, _, k.rd (by rfl), by omega, ?_⟩
    rw [em]
    generalize N / 10 % m.o.raw.length = i at hi
    refine (k.drop.drop.sl (a := m.ra)).one (f := byteV) rfl (by omega) (by omega) fun ad x hx hcx => ⟨_, hcx, by omega, ?_⟩
    generalize IntKind.u8.wrap (IntKind.i64.wrap (1 + Int.tmod ((N / 10 : Nat) : Int) 255)) = w
    have eb : (.int .u8 (bitsOp .xor .u8 (x.toNat : Int) w) : Value) = byteV (UInt8.ofNat (BitVec.ofInt 8 (x.toNat : Int) ^^^ BitVec.ofInt 8 w).toNat) := by
      rw [byteV_of]
      show (Value.int .u8 (IntKind.u8.wrap ((BitVec.ofInt 8 (x.toNat : Int) ^^^ BitVec.ofInt 8 w).toNat : Int))) = _
      rw [wrap_u8]
    rw [eb]
    generalize UInt8.ofNat (BitVec.ofInt 8 (x.toNat : Int) ^^^ BitVec.ofInt 8 w).toNat = y
    have k := k.sel 5 [2, 0, 1, 3, 4] rfl (by decide) (L' := [BVo m, A.blk b3 zeroO 71, A.blk b1 (opC m).toArray 71, VVo m, LEo m]) (by rfl)
    refine k.vix hi fun g o ha => ?_
    obtain ⟨ra, rc, va, vc, ea, ec, q⟩ := m
    obtain rfl : ra = some ⟨g, o, none⟩ := ha
    refine put_byte (w := byteV y) k (by rw [bytesV_len]) hi rfl fun h38 k => ?_
    have hlen : (q.raw.set i y).length = q.raw.length := List.length_set
    refine ⟨⟨some ⟨g, o, none⟩, rc, va, vc, ea, ec, ⟨q.k, q.n, q.raw.set i y, q.e, q.es⟩⟩, ⟨ok1.n, ok1.rng, by show (q.raw.set i y).length ≤ _; rw [hlen]; exact ok.raw, ok1.vs, ok1.t, ok1.len, ok1.es⟩, ?_⟩
    rw [set_byte] at k
    simp only [BVo, opC, hlen]
    exact k.sel 5 [1, 2, 0, 3, 4] rfl (by decide) (L' := [_, _, _, _, _]) (by rfl)
  · skip
    refine cond_split (fun _ => ?_) (fun _ => cond_split (fun _ => ⟨_, _, _, k.rd (by rfl), cond_split (fun hc => ?_) (fun _ => ?_)⟩) (fun _ => ?_))
    · refine ⟨_, k.rd (by rfl), _, k.rd (by rfl), _, _, _, k.rd (by rfl), ?_⟩
      have k := k.sel 5 [3, 0, 1, 2, 4] rfl (by decide) (L' := [VVo m, A.blk b3 zeroO 71, A.blk b1 (opC m).toArray 71, BVo m, LEo m]) (by rfl)
      obtain ⟨F', G, k1, kG, d, hF, back⟩ := k.frameA
      refine CallsH.mono (event_spec (e := m.o.e) (K := N / 10) k1 ok.rng (by have := ok.t; omega) (by omega)) ?_
      rintro _ h43 ⟨e2, rfl, q1, q2, q3, k2⟩
      have k := back k2
      refine ⟨_, _, _, _, _, rfl, ?_⟩
      refine st3 rfl rfl rfl (k.vst (Nat.le_of_ble_eq_true (by rfl)) fun h6 k => k.vst (Nat.le_of_ble_eq_true (by rfl)) fun h7 k => k.vst (Nat.le_of_ble_eq_true (by rfl)) fun h8 k => ?_)
      refine ⟨⟨m.ra, m.rc, m.va, m.vc, m.ea, m.ec, ⟨m.o.k, m.o.n, m.o.raw, e2, m.o.es⟩⟩, ⟨ok1.n, q3, ok1.raw, by show e2.vs.length ≤ _; rw [q1]; exact ok.vs, by have := ok.t; show e2.t.length ≤ _; omega, ok1.len, ok1.es⟩, ?_⟩
      simp only [VVo, opC, q1]
      exact k.sel 5 [1, 2, 3, 0, 4] rfl (by decide) (L' := [_, _, _, _, _]) (by rfl)
    · have hl0 : 0 < m.o.es.length := by
        have : (m.o.es.length : Int) > 0 := of_decide_eq_true hc
        omega
      have em : Int.tmod ((N / 10 : Nat) : Int) (m.o.es.length : Int) = ((N / 10 % m.o.es.length : Nat) : Int) := rfl
      have hi : N / 10 % m.o.es.length < m.o.es.length := Nat.mod_lt _ hl0
      have e7 : IntKind.i64.wrap (Int.tdiv ((N / 10 : Nat) : Int) 7) = ((N / 10 / 7 : Nat) : Int) := by
        have e1 : Int.tdiv ((N / 10 : Nat) : Int) 7 = ((N / 10 / 7 : Nat) : Int) := rfl
        rw [e1, wrap_id (by omega) (by omega)]
      refine ⟨_, _, _, k.rd (by rfl), _, _, _, k.rd (by rfl), by omega, _, _, _, k.rd (by rfl), _, _, _, k.rd (by rfl), by omega, ?_⟩
      rw [e7, em]
      generalize N / 10 % m.o.es.length = i at hi
      have kk := k.sel 5 [4, 0, 1, 2, 3] rfl (by decide) (L' := [LEo m, A.blk b3 zeroO 71, A.blk b1 (opC m).toArray 71, BVo m, VVo m]) (by rfl)
      obtain ⟨xs, hxe, kk⟩ := LE.open kk
      have hxl : xs.length = m.o.es.length := by rw [← hxe, List.length_map]
      refine (kk.sl (a := m.ea)).row seV_len (by omega) hxl (by omega) (by omega) fun ad x hx hcx => ⟨_, hcx 0 _ rfl, _, hcx 1 _ rfl, _, _, _, hcx 2 _ rfl, by omega, ?_⟩
      rw [Int.toNat_natCast] at hx
      have hxm : x.e ∈ m.o.es := by rw [← hxe]; exact List.mem_map_of_mem (List.mem_of_getElem? hx)
      obtain ⟨okx1, okx2, okx3⟩ := ok.es _ hxm
      have kk := allAt hx kk.pull1
      obtain ⟨F', G, k1, kG, d, hF, back⟩ := kk.frameA
      refine CallsH.mono (event_spec (e := x.e) (K := N / 10 / 7) k1 okx1 (by omega) (by omega)) ?_
      rintro _ h58 ⟨e2, rfl, q1, q2, q3, k2⟩
      have kk := back k2
      refine ⟨_, _, _, _, _, rfl, kk.rd (by rfl), kk.rd (by rfl), ?_⟩
      have kx : St F h h58 (VSe ⟨x.a, x.c, e2⟩ :: A.all ((xs.take i ++ xs.drop (i + 1)).map VSe) :: A.vec 27 3 m.ea m.o.es.length m.ec (xs.flatMap seV) :: [A.blk b3 zeroO 71, A.blk b1 (opC m).toArray 71, BVo m, VVo m]) := by
        simp only [VSe, q1]
        exact kk
      have kx := (allBack (by omega) kx).pull1
      have hs3 : ([.string (bA e2.t), .int .i64 e2.tm, .slice x.a x.e.vs.length x.c] : List Value) = seV ⟨x.a, x.c, e2⟩ := by
        unfold seV
        simp only [q1]
      rw [hs3]
      refine kx.vix hi fun g o ha => ?_
      obtain ⟨ra, rc, va, vc, ea, ec, q⟩ := m
      obtain rfl : ea = some ⟨g, o, none⟩ := ha
      refine St.vrow (f := seV) (fun _ => rfl) (y := ⟨x.a, x.c, e2⟩) kx hxl hi (oneC_se _) fun h63 kx => ?_
      have hset : (xs.set i ⟨x.a, x.c, e2⟩).map Se.e = q.es.set i e2 := by rw [List.map_set, hxe]
      have kx := LE.close hset kx
      have hlen : (q.es.set i e2).length = q.es.length := List.length_set
      refine ⟨⟨ra, rc, va, vc, some ⟨g, o, none⟩, ec, ⟨q.k, q.n, q.raw, q.e, q.es.set i e2⟩⟩, ⟨ok1.n, ok1.rng, ok1.raw, ok1.vs, ok1.t, by show (q.es.set i e2).length ≤ _; rw [hlen]; exact ok.len, fun y hy => ?_⟩, ?_⟩
      · rcases List.mem_or_eq_of_mem_set hy with h1 | rfl
        · exact ok1.es y h1
        · exact ⟨q3, by rw [q1]; exact okx2, by omega⟩
      · simp only [LEo, opC, hlen]
        exact kx.sel 5 [1, 2, 3, 4, 0] rfl (by decide) (L' := [_, _, _, _, _]) (by rfl)
    · skip
      refine cond_split (fun _ => ?_) (fun _ => cond_split (fun _ => ⟨_, k.rd (by rfl), by omega, cond_split (fun _ => ⟨by omega, ?_⟩) (fun _ => ⟨m, ok1, k⟩)⟩) (fun _ => ⟨m, ok1, k⟩))
      · refine ⟨_, k.rd (by rfl), by omega, k.vst (Nat.le_of_ble_eq_true (by rfl)) fun h6 k => ⟨⟨m.ra, m.rc, m.va, m.vc, m.ea, m.ec, ⟨m.o.k, bitsOp .xor .i64 m.o.n (IntKind.i64.wrap (1 + Int.tmod ((N / 10 : Nat) : Int) 300)), m.o.raw, m.o.e, m.o.es⟩⟩, ⟨xor_rng _ _, ok1.rng, ok1.raw, ok1.vs, ok1.t, ok1.len, ok1.es⟩, k⟩⟩
      · have hm3 : N / 10 % 3 < 3 := Nat.mod_lt _ (by omega)
        have e3 : Int.tmod ((N / 10 : Nat) : Int) 3 = ((N / 10 % 3 : Nat) : Int) := rfl
        rw [e3]
        generalize N / 10 % 3 = i at hm3
        have key : ∀ x : Int, (#[.int .i64 2, .int .i64 4, .int .i64 6] : Array Value)[i]? = some (.int .i64 x) → PureTo Tryd.prog (Instr.index 61 (.agg #[.int .i64 2, .int .i64 4, .int .i64 6]) (.int .i64 (i : Int))) fun v67 =>
            ∃ x68 : Int, v67 = .int .i64 x68 ∧ VStore h27 ⟨b1, 0, none⟩ (.int .i64 x68) fun h69 => ∃ m2 : Om, OpOk (T + 1) m2.o ∧ St F h h69 [A.blk b3 zeroO 71, A.blk b1 (opC m2).toArray 71, BVo m2, VVo m2, LEo m2] := fun x hx =>
          index61 hm3 hx ⟨_, rfl, k.vst (Nat.le_of_ble_eq_true (by rfl)) fun h6 k => ⟨⟨m.ra, m.rc, m.va, m.vc, m.ea, m.ec, ⟨x, m.o.n, m.o.raw, m.o.e, m.o.es⟩⟩, ⟨ok1.n, ok1.rng, ok1.raw, ok1.vs, ok1.t, ok1.len, ok1.es⟩, k⟩⟩
        have h3 : i = 0 ∨ i = 1 ∨ i = 2 := by omega
        rcases h3 with rfl | rfl | rfl
        · exact key 2 rfl
        · exact key 4 rfl
        · exact key 6 rfl
    · skip
      refine cond_split (fun _ => ?_) (fun _ => cond_split (fun _ => ⟨_, k.rd (by rfl), by omega, cond_split (fun _ => ⟨by omega, ?_⟩) (fun _ => ⟨m, ok1, k⟩)⟩) (fun _ => ⟨m, ok1, k⟩))
      · refine ⟨_, k.rd (by rfl), by omega, k.vst (Nat.le_of_ble_eq_true (by rfl)) fun h6 k => ⟨⟨m.ra, m.rc, m.va, m.vc, m.ea, m.ec, ⟨m.o.k, bitsOp .xor .i64 m.o.n (IntKind.i64.wrap (1 + Int.tmod ((N / 10 : Nat) : Int) 300)), m.o.raw, m.o.e, m.o.es⟩⟩, ⟨xor_rng _ _, ok1.rng, ok1.raw, ok1.vs, ok1.t, ok1.len, ok1.es⟩, k⟩⟩
      · have hm3 : N / 10 % 3 < 3 := Nat.mod_lt _ (by omega)
        have e3 : Int.tmod ((N / 10 : Nat) : Int) 3 = ((N / 10 % 3 : Nat) : Int) := rfl
        rw [e3]
        generalize N / 10 % 3 = i at hm3
        have key : ∀ x : Int, (#[.int .i64 2, .int .i64 4, .int .i64 6] : Array Value)[i]? = some (.int .i64 x) → PureTo Tryd.prog (Instr.index 61 (.agg #[.int .i64 2, .int .i64 4, .int .i64 6]) (.int .i64 (i : Int))) fun v67 =>
            ∃ x68 : Int, v67 = .int .i64 x68 ∧ VStore h27 ⟨b1, 0, none⟩ (.int .i64 x68) fun h69 => ∃ m2 : Om, OpOk (T + 1) m2.o ∧ St F h h69 [A.blk b3 zeroO 71, A.blk b1 (opC m2).toArray 71, BVo m2, VVo m2, LEo m2] := fun x hx =>
          index61 hm3 hx ⟨_, rfl, k.vst (Nat.le_of_ble_eq_true (by rfl)) fun h6 k => ⟨⟨m.ra, m.rc, m.va, m.vc, m.ea, m.ec, ⟨x, m.o.n, m.o.raw, m.o.e, m.o.es⟩⟩, ⟨ok1.n, ok1.rng, ok1.raw, ok1.vs, ok1.t, ok1.len, ok1.es⟩, k⟩⟩
        have h3 : i = 0 ∨ i = 1 ∨ i = 2 := by omega
        rcases h3 with rfl | rfl | rfl
        · exact key 2 rfl
        · exact key 4 rfl
        · exact key 6 rfl
  · skip
    refine cond_split (fun _ => ?_) (fun _ => cond_split (fun _ => ⟨_, _, _, k.rd (by rfl), cond_split (fun hc => ?_) (fun _ => ?_)⟩) (fun _ => ?_))
    · refine ⟨_, k.rd (by rfl), _, k.rd (by rfl), _, _, _, k.rd (by rfl), ?_⟩
      have k := k.sel 5 [3, 0, 1, 2, 4] rfl (by decide) (L' := [VVo m, A.blk b3 zeroO 71, A.blk b1 (opC m).toArray 71, BVo m, LEo m]) (by rfl)
      obtain ⟨F', G, k1, kG, d, hF, back⟩ := k.frameA
      refine CallsH.mono (event_spec (e := m.o.e) (K := N / 10) k1 ok.rng (by have := ok.t; omega) (by omega)) ?_
      rintro _ h43 ⟨e2, rfl, q1, q2, q3, k2⟩
      have k := back k2
      refine ⟨_, _, _, _, _, rfl, ?_⟩
      refine st3 rfl rfl rfl (k.vst (Nat.le_of_ble_eq_true (by rfl)) fun h6 k => k.vst (Nat.le_of_ble_eq_true (by rfl)) fun h7 k => k.vst (Nat.le_of_ble_eq_true (by rfl)) fun h8 k => ?_)
      refine ⟨⟨m.ra, m.rc, m.va, m.vc, m.ea, m.ec, ⟨m.o.k, m.o.n, m.o.raw, e2, m.o.es⟩⟩, ⟨ok1.n, q3, ok1.raw, by show e2.vs.length ≤ _; rw [q1]; exact ok.vs, by have := ok.t; show e2.t.length ≤ _; omega, ok1.len, ok1.es⟩, ?_⟩
      simp only [VVo, opC, q1]
      exact k.sel 5 [1, 2, 3, 0, 4] rfl (by decide) (L' := [_, _, _, _, _]) (by rfl)
    · have hl0 : 0 < m.o.es.length := by
        have : (m.o.es.length : Int) > 0 := of_decide_eq_true hc
        omega
      have em : Int.tmod ((N / 10 : Nat) : Int) (m.o.es.length : Int) = ((N / 10 % m.o.es.length : Nat) : Int) := rfl
      have hi : N / 10 % m.o.es.length < m.o.es.length := Nat.mod_lt _ hl0
      have e7 : IntKind.i64.wrap (Int.tdiv ((N / 10 : Nat) : Int) 7) = ((N / 10 / 7 : Nat) : Int) := by
        have e1 : Int.tdiv ((N / 10 : Nat) : Int) 7 = ((N / 10 / 7 : Nat) : Int) := rfl
        rw [e1, wrap_id (by omega) (by omega)]
      refine ⟨_, _, _, k.rd (by rfl), _, _, _, k.rd (by rfl), by omega, _, _, _, k.rd (by rfl), _, _, _, k.rd (by rfl), by omega, ?_⟩
      rw [e7, em]
      generalize N / 10 % m.o.es.length = i at hi
      have kk := k.sel 5 [4, 0, 1, 2, 3] rfl (by decide) (L' := [LEo m, A.blk b3 zeroO 71, A.blk b1 (opC m).toArray 71, BVo m, VVo m]) (by rfl)
      obtain ⟨xs, hxe, kk⟩ := LE.open kk
      have hxl : xs.length = m.o.es.length := by rw [← hxe, List.length_map]
      refine (kk.sl (a := m.ea)).row seV_len (by omega) hxl (by omega) (by omega) fun ad x hx hcx => ⟨_, hcx 0 _ rfl, _, hcx 1 _ rfl, _, _, _, hcx 2 _ rfl, by omega, ?_⟩
      rw [Int.toNat_natCast] at hx
      have hxm : x.e ∈ m.o.es := by rw [← hxe]; exact List.mem_map_of_mem (List.mem_of_getElem? hx)
      obtain ⟨okx1, okx2, okx3⟩ := ok.es _ hxm
      have kk := allAt hx kk.pull1
      obtain ⟨F', G, k1, kG, d, hF, back⟩ := kk.frameA
      refine CallsH.mono (event_spec (e := x.e) (K := N / 10 / 7) k1 okx1 (by omega) (by omega)) ?_
      rintro _ h58 ⟨e2, rfl, q1, q2, q3, k2⟩
      have kk := back k2
      refine ⟨_, _, _, _, _, rfl, kk.rd (by rfl), kk.rd (by rfl), ?_⟩
      have kx : St F h h58 (VSe ⟨x.a, x.c, e2⟩ :: A.all ((xs.take i ++ xs.drop (i + 1)).map VSe) :: A.vec 27 3 m.ea m.o.es.length m.ec (xs.flatMap seV) :: [A.blk b3 zeroO 71, A.blk b1 (opC m).toArray 71, BVo m, VVo m]) := by
        simp only [VSe, q1]
        exact kk
      have kx := (allBack (by omega) kx).pull1
      have hs3 : ([.string (bA e2.t), .int .i64 e2.tm, .slice x.a x.e.vs.length x.c] : List Value) = seV ⟨x.a, x.c, e2⟩ := by
        unfold seV
        simp only [q1]
      rw [hs3]
      refine kx.vix hi fun g o ha => ?_
      obtain ⟨ra, rc, va, vc, ea, ec, q⟩ := m
      obtain rfl : ea = some ⟨g, o, none⟩ := ha
      refine St.vrow (f := seV) (fun _ => rfl) (y := ⟨x.a, x.c, e2⟩) kx hxl hi (oneC_se _) fun h63 kx => ?_
      have hset : (xs.set i ⟨x.a, x.c, e2⟩).map Se.e = q.es.set i e2 := by rw [List.map_set, hxe]
      have kx := LE.close hset kx
      have hlen : (q.es.set i e2).length = q.es.length := List.length_set
      refine ⟨⟨ra, rc, va, vc, some ⟨g, o, none⟩, ec, ⟨q.k, q.n, q.raw, q.e, q.es.set i e2⟩⟩, ⟨ok1.n, ok1.rng, ok1.raw, ok1.vs, ok1.t, by show (q.es.set i e2).length ≤ _; rw [hlen]; exact ok.len, fun y hy => ?_⟩, ?_⟩
      · rcases List.mem_or_eq_of_mem_set hy with h1 | rfl
        · exact ok1.es y h1
        · exact ⟨q3, by rw [q1]; exact okx2, by omega⟩
      · simp only [LEo, opC, hlen]
        exact kx.sel 5 [1, 2, 3, 4, 0] rfl (by decide) (L' := [_, _, _, _, _]) (by rfl)
    · skip
      refine cond_split (fun _ => ?_) (fun _ => cond_split (fun _ => ⟨_, k.rd (by rfl), by omega, cond_split (fun _ => ⟨by omega, ?_⟩) (fun _ => ⟨m, ok1, k⟩)⟩) (fun _ => ⟨m, ok1, k⟩))
      · refine ⟨_, k.rd (by rfl), by omega, k.vst (Nat.le_of_ble_eq_true (by rfl)) fun h6 k => ⟨⟨m.ra, m.rc, m.va, m.vc, m.ea, m.ec, ⟨m.o.k, bitsOp .xor .i64 m.o.n (IntKind.i64.wrap (1 + Int.tmod ((N / 10 : Nat) : Int) 300)), m.o.raw, m.o.e, m.o.es⟩⟩, ⟨xor_rng _ _, ok1.rng, ok1.raw, ok1.vs, ok1.t, ok1.len, ok1.es⟩, k⟩⟩
      · have hm3 : N / 10 % 3 < 3 := Nat.mod_lt _ (by omega)
        have e3 : Int.tmod ((N / 10 : Nat) : Int) 3 = ((N / 10 % 3 : Nat) : Int) := rfl
        rw [e3]
        generalize N / 10 % 3 = i at hm3
        have key : ∀ x : Int, (#[.int .i64 2, .int .i64 4, .int .i64 6] : Array Value)[i]? = some (.int .i64 x) → PureTo Tryd.prog (Instr.index 61 (.agg #[.int .i64 2, .int .i64 4, .int .i64 6]) (.int .i64 (i : Int))) fun v67 =>
            ∃ x68 : Int, v67 = .int .i64 x68 ∧ VStore h27 ⟨b1, 0, none⟩ (.int .i64 x68) fun h69 => ∃ m2 : Om, OpOk (T + 1) m2.o ∧ St F h h69 [A.blk b3 zeroO 71, A.blk b1 (opC m2).toArray 71, BVo m2, VVo m2, LEo m2] := fun x hx =>
          index61 hm3 hx ⟨_, rfl, k.vst (Nat.le_of_ble_eq_true (by rfl)) fun h6 k => ⟨⟨m.ra, m.rc, m.va, m.vc, m.ea, m.ec, ⟨x, m.o.n, m.o.raw, m.o.e, m.o.es⟩⟩, ⟨ok1.n, ok1.rng, ok1.raw, ok1.vs, ok1.t, ok1.len, ok1.es⟩, k⟩⟩
        have h3 : i = 0 ∨ i = 1 ∨ i = 2 := by omega
        rcases h3 with rfl | rfl | rfl
        · exact key 2 rfl
        · exact key 4 rfl
        · exact key 6 rfl
    · skip
      refine cond_split (fun _ => ?_) (fun _ => cond_split (fun _ => ⟨_, k.rd (by rfl), by omega, cond_split (fun _ => ⟨by omega, ?_⟩) (fun _ => ⟨m, ok1, k⟩)⟩) (fun _ => ⟨m, ok1, k⟩))
      · refine ⟨_, k.rd (by rfl), by omega, k.vst (Nat.le_of_ble_eq_true (by rfl)) fun h6 k => ⟨⟨m.ra, m.rc, m.va, m.vc, m.ea, m.ec, ⟨m.o.k, bitsOp .xor .i64 m.o.n (IntKind.i64.wrap (1 + Int.tmod ((N / 10 : Nat) : Int) 300)), m.o.raw, m.o.e, m.o.es⟩⟩, ⟨xor_rng _ _, ok1.rng, ok1.raw, ok1.vs, ok1.t, ok1.len, ok1.es⟩, k⟩⟩
      · have hm3 : N / 10 % 3 < 3 := Nat.mod_lt _ (by omega)
        have e3 : Int.tmod ((N / 10 : Nat) : Int) 3 = ((N / 10 % 3 : Nat) : Int) := rfl
        rw [e3]
        generalize N / 10 % 3 = i at hm3
        have key : ∀ x : Int, (#[.int .i64 2, .int .i64 4, .int .i64 6] : Array Value)[i]? = some (.int .i64 x) → PureTo Tryd.prog (Instr.index 61 (.agg #[.int .i64 2, .int .i64 4, .int .i64 6]) (.int .i64 (i : Int))) fun v67 =>
            ∃ x68 : Int, v67 = .int .i64 x68 ∧ VStore h27 ⟨b1, 0, none⟩ (.int .i64 x68) fun h69 => ∃ m2 : Om, OpOk (T + 1) m2.o ∧ St F h h69 [A.blk b3 zeroO 71, A.blk b1 (opC m2).toArray 71, BVo m2, VVo m2, LEo m2] := fun x hx =>
          index61 hm3 hx ⟨_, rfl, k.vst (Nat.le_of_ble_eq_true (by rfl)) fun h6 k => ⟨⟨m.ra, m.rc, m.va, m.vc, m.ea, m.ec, ⟨x, m.o.n, m.o.raw, m.o.e, m.o.es⟩⟩, ⟨ok1.n, ok1.rng, ok1.raw, ok1.vs, ok1.t, ok1.len, ok1.es⟩, k⟩⟩
        have h3 : i = 0 ∨ i = 1 ∨ i = 2 := by omega
        rcases h3 with rfl | rfl | rfl
        · exact key 2 rfl
        · exact key 4 rfl
        · exact key 6 rfl
end Go.Proofs.YtofaihacmoacjaaDoor.F
