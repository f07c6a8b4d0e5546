/- The laws of wire that ask no answer of the document: damage is told. Conditions: none. -/
import Derived.Test.YtofaihacmoacjaaDoorWN
namespace Go.Proofs.YtofaihacmoacjaaDoor.F
open Go Go.VC Go.Proofs
set_option linter.unusedSimpArgs false
set_option linter.unusedVariables false
set_option maxRecDepth 100000
attribute [local irreducible] CallsH RunsTo PureTo

theorem fold_p : ∀ (b : Bytes) (s s' : Nat × Nat), (b.foldl sumStep s).1 = (b.foldl sumStep s').1 → s.1 % 65521 = s'.1 % 65521
  | [], s, s', h => by rw [show s.1 = s'.1 from h]
  | x :: b, s, s', h => by
    have := fold_p b (sumStep s x) (sumStep s' x) h
    simp only [sumStep] at this
    omega
theorem fold_q : ∀ (b : Bytes) (p q q' : Nat), (b.foldl sumStep (p, q)).2 = (b.foldl sumStep (p, q')).2 → q < 65521 → q' < 65521 → q = q'
  | [], p, q, q', h, _, _ => h
  | x :: b, p, q, q', h, h1, h2 => by
    have := fold_q b _ _ _ h (Nat.mod_lt _ (by omega)) (Nat.mod_lt _ (by omega))
    simp only at this
    omega
theorem sumB_inj {x y : Bytes} (h : sumB x = sumB y) : sums x = sums y := by
  have h1 := sums_lt x
  have h2 := sums_lt y
  unfold sumB at h
  simp only [List.cons.injEq, and_true] at h
  obtain ⟨e1, e2, e3, e4⟩ := h
  have t : ∀ {m n : Nat}, UInt8.ofNat m = UInt8.ofNat n → m % 256 = n % 256 := fun h => by
    have := congrArg UInt8.toNat h
    rwa [UInt8.toNat_ofNat', UInt8.toNat_ofNat'] at this
  have e1 := t e1
  have e2 := t e2
  have e3 := t e3
  have e4 := t e4
  apply Prod.ext <;> omega
theorem split_at {b : Bytes} {i : Nat} {x : UInt8} (hx : b[i]? = some x) : b = b.take i ++ x :: b.drop (i + 1) := by
  rw [← drop_of hx, List.take_append_drop]
theorem set_split {b : Bytes} {i : Nat} {x : UInt8} (hx : b[i]? = some x) (y : UInt8) : b.set i y = b.take i ++ y :: b.drop (i + 1) := by
  have := (List.getElem?_eq_some_iff.1 hx).1
  rw [List.set_eq_take_append_cons_drop, if_pos this]
theorem sums_set {b : Bytes} {i : Nat} {x y : UInt8} (hx : b[i]? = some x) (hy : y ≠ x) : sumB (b.set i y) ≠ sumB b := by
  intro h
  have h := congrArg Prod.fst (sumB_inj h)
  rw [set_split hx] at h
  conv at h => rhs; rw [split_at hx]
  unfold sums at h
  rw [List.foldl_append, List.foldl_append, List.foldl_cons, List.foldl_cons] at h
  have h := fold_p _ _ _ h
  simp only [sumStep] at h
  have hx8 := x.toNat_lt
  have hy8 := y.toNat_lt
  exact hy (UInt8.toNat_inj.1 (by omega))
theorem swap_split {b : Bytes} {j : Nat} {x y : UInt8} (hx : b[j]? = some x) (hy : b[j + 1]? = some y) : b = b.take j ++ x :: y :: b.drop (j + 2) ∧ (b.set j y).set (j + 1) x = b.take j ++ y :: x :: b.drop (j + 2) := by
  have e1 : b = b.take j ++ x :: y :: b.drop (j + 2) := by
    conv => lhs; rw [split_at hx]
    rw [drop_of hy]
  refine ⟨e1, ?_⟩
  have hlt := (List.getElem?_eq_some_iff.1 hx).1
  have hl : (b.take j).length = j := by rw [List.length_take]; omega
  rw [set_split hx, drop_of hy, List.set_append_right _ _ (by omega), hl, show j + 1 - j = 1 by omega]
  rfl
theorem sums_swap {b : Bytes} {j : Nat} {x y : UInt8} (hx : b[j]? = some x) (hy : b[j + 1]? = some y) (hne : y ≠ x) : sumB ((b.set j y).set (j + 1) x) ≠ sumB b := by
  intro h
  have h := congrArg Prod.snd (sumB_inj h)
  obtain ⟨e1, e2⟩ := swap_split hx hy
  rw [e2] at h
  conv at h => rhs; rw [e1]
  unfold sums at h
  rw [List.foldl_append, List.foldl_append, List.foldl_cons, List.foldl_cons, List.foldl_cons, List.foldl_cons] at h
  have hs := sums_lt' (b.take j) (1, 0) (by decide) (by decide)
  generalize (b.take j).foldl sumStep (1, 0) = s at h hs
  have hx8 := x.toNat_lt
  have hy8 := y.toNat_lt
  have ep : (sumStep (sumStep s y) x).1 = (sumStep (sumStep s x) y).1 := by
    simp only [sumStep]; omega
  have h2 : (sumStep (sumStep s y) x).2 = (sumStep (sumStep s x) y).2 := by
    refine fold_q (b.drop (j + 2)) (sumStep (sumStep s x) y).1 _ _ ?_ (sumStep_lt _ _).2 (sumStep_lt _ _).2
    rw [← ep]
    conv => rhs; rw [ep]
    exact h
  simp only [sumStep] at h2
  exact hne (UInt8.toNat_inj.1 (by omega))
variable {S F G : Nat → Prop} {h0 h h1 : Heap} {L R L' : List A} {a b ia ra : Option Addr} {l c l2 c2 l3 c3 p t at_ : Nat} {bs cs raw : List UInt8} {bss css : List Bytes} {e : Ev} {v : Val} {es fs : List Ev}
theorem unpack_sum (h1 : bs.length ≤ 1048576) (h2 : 5 ≤ bs.length) (h3 : sumB (bs.take (bs.length - 4)) ≠ bs.drop (bs.length - 4)) : unpackR bs = ([], 32) := by
  unfold unpackR
  rw [if_neg (by omega), if_neg (by omega), if_pos h3]
theorem damage_set {bb : Bytes} (hp : packR es = (bb, 0)) (hr : ∀ e ∈ es, rngE e) {i : Nat} {x y : UInt8} (hx : bb[i]? = some x) (hy : y ≠ x) : unpackR (bb.set i y) = ([], 32) := by
  obtain ⟨u1, u2, u3⟩ := unpack_pack hp hr
  have hlen := packR_len es
  rw [hp] at hlen
  have hlen : bb.length ≤ 1048576 := hlen
  have h4 : (sumB (bodyB es)).length = 4 := rfl
  have hbl : bb.length = (bodyB es).length + 4 := by rw [u2, List.length_append, h4]
  have hi := (List.getElem?_eq_some_iff.1 hx).1
  refine unpack_sum (by rw [List.length_set]; exact hlen) (by rw [List.length_set]; exact u3) ?_
  rw [List.length_set, hbl, Nat.add_sub_cancel, u2]
  rw [u2] at hx
  by_cases hib : i < (bodyB es).length
  · rw [List.set_append_left _ _ hib]
    have e1 : ((bodyB es).set i y ++ sumB (bodyB es)).take (bodyB es).length = (bodyB es).set i y := by
      rw [List.take_append, List.take_of_length_le (by rw [List.length_set]; omega), List.length_set, Nat.sub_self, List.take_zero, List.append_nil]
    have e2 : ((bodyB es).set i y ++ sumB (bodyB es)).drop (bodyB es).length = sumB (bodyB es) := by
      rw [List.drop_append, List.drop_of_length_le (by rw [List.length_set]; omega), List.length_set, Nat.sub_self]; rfl
    rw [e1, e2]
    rw [List.getElem?_append_left hib] at hx
    exact sums_set hx hy
  · rw [List.set_append_right _ _ (by omega)]
    rw [List.take_left, List.drop_left]
    rw [List.getElem?_append_right (by omega)] at hx
    intro h
    have := congrArg (·[i - (bodyB es).length]?) h
    rw [hx, List.getElem?_set_self (List.getElem?_eq_some_iff.1 hx).1] at this
    exact hy (Option.some.inj this).symm
theorem damage_swap {bb : Bytes} (hp : packR es = (bb, 0)) (hr : ∀ e ∈ es, rngE e) {j : Nat} {x y : UInt8} (hx : bb[j]? = some x) (hy : bb[j + 1]? = some y) (hj : j < bb.length - 5) (hne : y ≠ x) : unpackR ((bb.set j y).set (j + 1) x) = ([], 32) := by
  obtain ⟨u1, u2, u3⟩ := unpack_pack hp hr
  have hlen := packR_len es
  rw [hp] at hlen
  have hlen : bb.length ≤ 1048576 := hlen
  have h4 : (sumB (bodyB es)).length = 4 := rfl
  have hbl : bb.length = (bodyB es).length + 4 := by rw [u2, List.length_append, h4]
  refine unpack_sum (by rw [List.length_set, List.length_set]; exact hlen) (by rw [List.length_set, List.length_set]; exact u3) ?_
  rw [List.length_set, List.length_set, hbl, Nat.add_sub_cancel, u2]
  rw [u2] at hx hy
  rw [List.getElem?_append_left (by omega)] at hx hy
  rw [List.set_append_left _ _ (by omega), List.set_append_left _ _ (by rw [List.length_set]; omega)]
  have e1 : (((bodyB es).set j y).set (j + 1) x ++ sumB (bodyB es)).take (bodyB es).length = ((bodyB es).set j y).set (j + 1) x := by
    rw [List.take_append, List.take_of_length_le (by rw [List.length_set, List.length_set]; omega), List.length_set, List.length_set, Nat.sub_self, List.take_zero, List.append_nil]
  have e2 : (((bodyB es).set j y).set (j + 1) x ++ sumB (bodyB es)).drop (bodyB es).length = sumB (bodyB es) := by
    rw [List.drop_append, List.drop_of_length_le (by rw [List.length_set, List.length_set]; omega), List.length_set, List.length_set, Nat.sub_self]; rfl
  rw [e1, e2]
  exact sums_swap hx hy hne
theorem swap_same {bb : Bytes} {j : Nat} {x : UInt8} (hx : bb[j]? = some x) (hy : bb[j + 1]? = some x) : (bb.set j x).set (j + 1) x = bb := by
  obtain ⟨e1, e2⟩ := swap_split hx hy
  rw [e2, ← e1]
theorem xor8 (x t : UInt8) : bitsOp .xor .u8 (x.toNat : Int) (t.toNat : Int) = ((x ^^^ t).toNat : Int) := by
  have e : ∀ z : UInt8, BitVec.ofInt 8 (z.toNat : Int) = z.toBitVec := fun z => by
    apply BitVec.eq_of_toNat_eq
    rw [BitVec.toNat_ofInt]
    have := z.toNat_lt
    show _ = z.toNat
    omega
  show IntKind.u8.wrap ((BitVec.ofInt 8 _ ^^^ BitVec.ofInt 8 _).toNat : Int) = _
  rw [e, e, wrap_u8, ← UInt8.toBitVec_xor]
  have := (x ^^^ t).toNat_lt
  show (((x ^^^ t).toNat : Nat) : Int) % 256 = _
  omega
theorem xor_ne {x t : UInt8} (h : t ≠ 0) : x ^^^ t ≠ x := fun h2 => h (by
  have h3 := congrArg (fun z => x ^^^ z) h2
  simp only [← UInt8.xor_assoc, UInt8.xor_self, UInt8.zero_xor] at h3
  exact h3)
theorem copy_bytes (k : St S h0 h R) {x : Option Addr} {cx : Nat} (hs : Sl h x (bytesV bs)) (hb : bs.length ≤ 140737488355328) {K : KV}
    (q : ∀ a' c' h', St S h0 h' (BV a' bs.length c' bs :: R) → K (.slice a' bs.length c') h') : RunsTo Tryd.prog (Builtin.append_ #[30, 30] 30 #[.slice none 0 0, .slice x bs.length cx]) h K := by
  have k := (k.vnil 5 (sz := 1) (by omega)).re (y := BV none 0 0 []) rfl
  have := app_bytes (s := bs) (cx := cx) k hs (by omega) (K := K) fun a' c' h' k => by
    rw [Nat.zero_add, List.nil_append] at k
    rw [Nat.zero_add]
    exact q a' c' h' k
  exact this
theorem wireDamage_spec {A' : Int} {tn : UInt8} (hw : Wd none_ h) (he : RoE none_ h a l es) (hA : -9223372036854775808 ≤ A' ∧ A' < 9223372036854775808) (hb1 : l ≤ 2932031007317) (hb2 : ∀ e ∈ es, e.vs.length ≤ 3518437208780) :
    CallsH Tryd.prog 8 #[.slice a l c, .int .i64 A', .int .u8 (tn.toNat : Int)] h (fun v h' => v = .bool true ∧ Ext h h') := by
  refine vf8 _ _ _ _ _ h _ ?_
  unfold F8
  have hre : ∀ x ∈ es, rngE x := by
    obtain ⟨xs, q1, q2, q3, q4⟩ := he
    intro x hx
    rw [← q3] at hx
    obtain ⟨y, hy, rfl⟩ := List.mem_map.1 hx
    exact (q2 y hy).rng
  have hlE : es.length = l := by obtain ⟨_, _, _, _, e⟩ := he; exact e
  refine CallsH.mono (begun_spec hw) ?_
  rintro _ h2 ⟨rfl, m⟩
  refine ⟨_, rfl, cond_false rfl ?_⟩
  refine CallsH.mono (pack_spec (hw.sl.ext m).ro (he.ext m) (fun e he => by have := hb2 e he; omega)) ?_
  rintro _ h5 ⟨a6, c6, rfl, k⟩
  refine ⟨_, _, _, _, rfl, cond_split (fun hc => ⟨rfl, m.then k.ext⟩) (fun hc => ?_)⟩
  have hc : (packR es).2 = 0 := by simpa using hc
  have hp : packR es = ((packR es).1, 0) := by rw [← hc]
  have hlen := packR_len es
  generalize (packR es).1 = bb at hp k hlen
  obtain ⟨u1, u2, u3⟩ := unpack_pack hp hre
  clear hc
  have k : St none_ h h5 [BV a6 bb.length c6 bb] := (((St.fresh h).next m).add1 k).only
  refine cond_false (decide_eq_false (by omega)) ?_
  refine ⟨fun h' x => h' = h5 ∧ ∃ N : Nat, x = N, ?_, ?_⟩
  · refine cond_split (fun hc => ⟨rfl, ?_⟩) (fun hc => ⟨rfl, ?_⟩)
    · have hc : A' < 0 := of_decide_eq_true hc
      rw [wrap_id (n := A' + 1) (by omega) (by omega), wrap_id (by omega) (by omega)]
      exact ⟨(0 - (A' + 1)).toNat, by omega⟩
    · have hc : ¬ A' < 0 := of_decide_eq_false hc
      exact ⟨A'.toNat, by omega⟩
  rintro _ _ _ ⟨rfl, N, rfl⟩
  refine copy_bytes k (k.sl (a := a6)) (by omega) fun a14 c14 h13 k => ⟨_, _, _, rfl, by omega, ?_⟩
  have em : Int.tmod (N : Int) (bb.length : Int) = ((N % bb.length : Nat) : Int) := rfl
  have hmod : N % bb.length < bb.length := Nat.mod_lt _ (by omega)
  rw [em]
  generalize N % bb.length = i at hmod
  refine (k.sl (a := a14)).one (f := byteV) rfl (by omega) (by omega) fun ad x hx hcx => ⟨_, hcx, ?_⟩
  rw [Int.toNat_natCast] at hx
  rw [xor8]
  refine k.vix hmod fun g o ha => ?_
  subst ha
  refine put_byte (w := byteV (x ^^^ tn)) k (by rw [bytesV_len]) hmod rfl fun h18 k => ?_
  rw [set_byte] at k
  refine CallsH.mono (unpack_spec (hw.in k) (k.sl (a := some ⟨g, o, none⟩)) (by rw [List.length_set]) (vec_le k)) ?_
  rintro _ h20 ⟨a21, c21, rfl, k2⟩
  have k := (k.add1 k2).drop.drop
  refine ⟨_, _, _, _, rfl, ?_⟩
  refine cond_split (fun hc => ?_) (fun hc => ?_)
  · have ht : tn ≠ 0 := fun h => by
      subst h
      exact absurd hc (by decide)
    rw [damage_set hp hre hx (xor_ne ht)]
    refine cond_false rfl (cond_false rfl ?_)
    refine copy_bytes k (k.sl (a := a6)) (by omega) fun a25 c25 h24 k => ⟨_, _, _, rfl, cond_split (fun _ => ⟨rfl, k.ext⟩) (fun hc => ?_)⟩
    have h6 : ¬ bb.length < 6 := by
      have : ¬ (bb.length : Int) < 6 := of_decide_eq_false hc
      omega
    have ew : IntKind.i64.wrap ((bb.length : Int) - 5) = ((bb.length - 5 : Nat) : Int) := by rw [wrap_id (by omega) (by omega)]; omega
    rw [ew]
    have em2 : Int.tmod (N : Int) ((bb.length - 5 : Nat) : Int) = ((N % (bb.length - 5) : Nat) : Int) := rfl
    have hmod2 : N % (bb.length - 5) < bb.length - 5 := Nat.mod_lt _ (by omega)
    rw [em2]
    generalize N % (bb.length - 5) = j at hmod2
    have ej : IntKind.i64.wrap ((j : Int) + 1) = ((j + 1 : Nat) : Int) := by rw [wrap_id (by omega) (by omega)]; omega
    rw [ej]
    refine ⟨by omega, (k.sl (a := a25)).one (f := byteV) rfl (by omega) (by omega) fun ad y hy hcy => ⟨_, hcy, (k.sl (a := a25)).one (f := byteV) rfl (by omega) (by omega) fun ad x hx hcx => ⟨_, hcx, ?_⟩⟩⟩
    rw [Int.toNat_natCast] at hx hy
    refine k.vix (show j < bb.length by omega) fun g o ha => ?_
    subst ha
    refine put_byte (w := byteV y) k (by rw [bytesV_len]) (by omega) rfl fun h31 k => ?_
    rw [set_byte] at k
    refine k.vix (show j + 1 < bb.length by omega) fun g o ha => ?_
    cases ha
    refine put_byte (w := byteV x) k (by rw [bytesV_len, List.length_set]) (by omega) rfl fun h33 k => ?_
    rw [set_byte] at k
    refine CallsH.mono (unpack_spec (hw.in k) (k.sl (a := some ⟨g, o, none⟩)) (by rw [List.length_set, List.length_set]) (vec_le k)) ?_
    rintro _ h35 ⟨a36, c36, rfl, k2⟩
    have k := k.add1 k2
    refine ⟨_, _, _, _, rfl, ?_⟩
    refine (k.sl (a := some ⟨g, o, none⟩)).one (f := byteV) (l := bb.length) (by rw [List.length_set, List.length_set]) (by omega) (by omega) fun ad x' hx' hcx => ⟨_, hcx, (k.sl (a := some ⟨g, o, none⟩)).one (f := byteV) (l := bb.length) (by rw [List.length_set, List.length_set]) (by omega) (by omega) fun ad y' hy' hcy => ⟨_, hcy, ?_⟩⟩
    rw [Int.toNat_natCast] at hx' hy'
    rw [List.getElem?_set_ne (by omega), List.getElem?_set_self (by omega)] at hx'
    rw [List.getElem?_set_self (by rw [List.length_set]; omega)] at hy'
    cases hx'
    cases hy'
    by_cases hxy : y = x
    · subst hxy
      rw [swap_same hx hy, u1] at k ⊢
      refine cond_true (by simp) (cond_true rfl ?_)
      refine CallsH.mono (lists_spec (LE.ro k hre) (he.in k) (by show es.length < _; omega) (fun e he => by have := hb2 e he; omega)) ?_
      rintro _ h14 ⟨rfl, m4⟩
      exact ⟨_, rfl, by simp, (k.next m4).ext⟩
    · rw [damage_swap hp hre hx hy hmod2 hxy] at k ⊢
      have hne : ((y.toNat : Int) == (x.toNat : Int)) = false := by
        rw [beq_eq_false_iff_ne]
        intro h
        exact hxy (UInt8.toNat_inj.1 (by omega))
      exact cond_false hne (cond_true rfl ⟨rfl, k.ext⟩)
  · skip
    refine copy_bytes k (k.sl (a := a6)) (by omega) fun a25 c25 h24 k => ⟨_, _, _, rfl, cond_split (fun _ => ⟨rfl, k.ext⟩) (fun hc => ?_)⟩
    have h6 : ¬ bb.length < 6 := by
      have : ¬ (bb.length : Int) < 6 := of_decide_eq_false hc
      omega
    have ew : IntKind.i64.wrap ((bb.length : Int) - 5) = ((bb.length - 5 : Nat) : Int) := by rw [wrap_id (by omega) (by omega)]; omega
    rw [ew]
    have em2 : Int.tmod (N : Int) ((bb.length - 5 : Nat) : Int) = ((N % (bb.length - 5) : Nat) : Int) := rfl
    have hmod2 : N % (bb.length - 5) < bb.length - 5 := Nat.mod_lt _ (by omega)
    rw [em2]
    generalize N % (bb.length - 5) = j at hmod2
    have ej : IntKind.i64.wrap ((j : Int) + 1) = ((j + 1 : Nat) : Int) := by rw [wrap_id (by omega) (by omega)]; omega
    rw [ej]
    refine ⟨by omega, (k.sl (a := a25)).one (f := byteV) rfl (by omega) (by omega) fun ad y hy hcy => ⟨_, hcy, (k.sl (a := a25)).one (f := byteV) rfl (by omega) (by omega) fun ad x hx hcx => ⟨_, hcx, ?_⟩⟩⟩
    rw [Int.toNat_natCast] at hx hy
    refine k.vix (show j < bb.length by omega) fun g o ha => ?_
    subst ha
    refine put_byte (w := byteV y) k (by rw [bytesV_len]) (by omega) rfl fun h31 k => ?_
    rw [set_byte] at k
    refine k.vix (show j + 1 < bb.length by omega) fun g o ha => ?_
    cases ha
    refine put_byte (w := byteV x) k (by rw [bytesV_len, List.length_set]) (by omega) rfl fun h33 k => ?_
    rw [set_byte] at k
    refine CallsH.mono (unpack_spec (hw.in k) (k.sl (a := some ⟨g, o, none⟩)) (by rw [List.length_set, List.length_set]) (vec_le k)) ?_
    rintro _ h35 ⟨a36, c36, rfl, k2⟩
    have k := k.add1 k2
    refine ⟨_, _, _, _, rfl, ?_⟩
    refine (k.sl (a := some ⟨g, o, none⟩)).one (f := byteV) (l := bb.length) (by rw [List.length_set, List.length_set]) (by omega) (by omega) fun ad x' hx' hcx => ⟨_, hcx, (k.sl (a := some ⟨g, o, none⟩)).one (f := byteV) (l := bb.length) (by rw [List.length_set, List.length_set]) (by omega) (by omega) fun ad y' hy' hcy => ⟨_, hcy, ?_⟩⟩
    rw [Int.toNat_natCast] at hx' hy'
    rw [List.getElem?_set_ne (by omega), List.getElem?_set_self (by omega)] at hx'
    rw [List.getElem?_set_self (by rw [List.length_set]; omega)] at hy'
    cases hx'
    cases hy'
    by_cases hxy : y = x
    · subst hxy
      rw [swap_same hx hy, u1] at k ⊢
      refine cond_true (by simp) (cond_true rfl ?_)
      refine CallsH.mono (lists_spec (LE.ro k hre) (he.in k) (by show es.length < _; omega) (fun e he => by have := hb2 e he; omega)) ?_
      rintro _ h14 ⟨rfl, m4⟩
      exact ⟨_, rfl, by simp, (k.next m4).ext⟩
    · rw [damage_swap hp hre hx hy hmod2 hxy] at k ⊢
      have hne : ((y.toNat : Int) == (x.toNat : Int)) = false := by
        rw [beq_eq_false_iff_ne]
        intro h
        exact hxy (UInt8.toNat_inj.1 (by omega))
      exact cond_false hne (cond_true rfl ⟨rfl, k.ext⟩)
end Go.Proofs.YtofaihacmoacjaaDoor.F
