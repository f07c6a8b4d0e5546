/- The laws of proto: damage is told. Conditions: none. -/
import Derived.Test.YtgdgebmlcgohhaaDoorQJ
namespace Go.Proofs.YtgdgebmlcgohhaaDoor.F
open Go Go.VC Go.Proofs
set_option linter.unusedSimpArgs false
set_option linter.unusedVariables false
set_option maxRecDepth 100000
attribute [local irreducible] CallsH RunsTo PureTo

theorem fold_p : ∀ (b : Bytes) (s s' : Nat × Nat), (b.foldl sumStep s).1 = (b.foldl sumStep s').1 → s.1 % 65521 = s'.1 % 65521
  | [], s, s', h => by rw [show s.1 = s'.1 from h]
  | x :: b, s, s', h => by
    have := fold_p b (sumStep s x) (sumStep s' x) h
    simp only [sumStep] at this
    omega
theorem split_at {b : Bytes} {i : Nat} {x : UInt8} (hx : b[i]? = some x) : b = b.take i ++ x :: b.drop (i + 1) := by
  rw [← drop_of hx, List.take_append_drop]
theorem set_split {b : Bytes} {i : Nat} {x : UInt8} (hx : b[i]? = some x) (y : UInt8) : b.set i y = b.take i ++ y :: b.drop (i + 1) := by
  have := (List.getElem?_eq_some_iff.1 hx).1
  rw [List.set_eq_take_append_cons_drop, if_pos this]
theorem adl_set {b : Bytes} {i : Nat} {x y : UInt8} (hx : b[i]? = some x) (hy : y ≠ x) : adl (b.set i y) ≠ adl b := by
  intro h
  have h1 := sums_lt (b.set i y)
  have h2 := sums_lt b
  unfold adl at h
  have h : (sums (b.set i y)).1 = (sums b).1 := by omega
  rw [set_split hx] at h
  conv at h => rhs; rw [split_at hx]
  unfold sums at h
  rw [List.foldl_append, List.foldl_append, List.foldl_cons, List.foldl_cons] at h
  have h := fold_p _ _ _ h
  simp only [sumStep] at h
  have hx8 := x.toNat_lt
  have hy8 := y.toNat_lt
  exact hy (UInt8.toNat_inj.1 (by omega))
theorem be4_inj {m n : Nat} (hm : m < 4294967296) (hn : n < 4294967296) (h : be4 m = be4 n) : m = n := by
  have h1 := num4_be hm []
  have h2 := num4_be hn []
  rw [h] at h1
  exact h1.symm.trans h2
theorem be4_num {w : Bytes} (h : 4 ≤ w.length) : be4 (num4 w) = w.take 4 := by
  obtain ⟨b0, b1, b2, b3, r, rfl⟩ := split4 h
  show be4 (un4 b0 b1 b2 b3) = _
  rw [be4_un]; rfl
theorem set_ne {b : Bytes} {i : Nat} {x y : UInt8} (hx : b[i]? = some x) (hy : y ≠ x) : b.set i y ≠ b := fun h => by
  have h1 := (List.getElem?_eq_some_iff.1 hx).1
  have h2 : (b.set i y)[i]? = some y := List.getElem?_set_self h1
  rw [h, hx] at h2
  exact hy (Option.some.inj h2).symm
/-- A byte behind the length that is another one. -/
theorem damage_behind {p : Bytes} (hp : p.length ≤ 65528) {i : Nat} {x y : UInt8} (hx : (frameB p)[i]? = some x) (hy : y ≠ x) (h4 : 4 ≤ i) : nextF ((frameB p).set i y) = .bad := by
  have hl := frameB_len p
  have hi := (List.getElem?_eq_some_iff.1 hx).1
  have e4 := be4_len p.length
  generalize hX : be4 p.length ++ p = X
  have hXl : X.length = p.length + 4 := by rw [← hX, List.length_append, e4]; omega
  have ef : frameB p = X ++ be4 (adl X) := by unfold frameB; rw [hX]
  have e5 := be4_len (adl X)
  have hn : num4 ((frameB p).set i y) = p.length := by
    have h1 : ((frameB p).set i y).take 4 = be4 p.length := by
      rw [List.take_set, List.set_eq_of_length_le (by rw [List.length_take]; omega), ef, ← hX, List.append_assoc]
      exact List.take_left' e4
    have h2 := be4_num (w := (frameB p).set i y) (by rw [List.length_set]; omega)
    exact be4_inj (num4_lt _) (by omega) (h2.trans h1)
  unfold nextF
  rw [hn, List.length_set, if_neg (by omega), if_neg (by omega), if_neg (by omega), if_pos]
  by_cases hs : i < p.length + 4
  · have h1 : ((frameB p).set i y).take (p.length + 4) = X.set i y := by
      rw [List.take_set, ef, List.take_left' hXl]
    have h2 : ((frameB p).set i y).drop (p.length + 4) = be4 (adl X) := by
      rw [List.drop_set, if_pos hs, ef, List.drop_left' hXl]
    have hxX : X[i]? = some x := by
      rw [ef, List.getElem?_append_left (by omega)] at hx; exact hx
    rw [h1, h2, List.take_of_length_le (by omega)]
    intro h
    exact adl_set hxX hy (be4_inj (adl_lt _) (adl_lt _) h)
  · have h1 : ((frameB p).set i y).take (p.length + 4) = X := by
      rw [List.take_set, List.set_eq_of_length_le (by rw [List.length_take]; omega), ef, List.take_left' hXl]
    have h2 : ((frameB p).set i y).drop (p.length + 4) = (be4 (adl X)).set (i - (p.length + 4)) y := by
      rw [List.drop_set, if_neg hs, ef, List.drop_left' hXl]
    have hxX : (be4 (adl X))[i - (p.length + 4)]? = some x := by
      rw [ef, List.getElem?_append_right (by omega), hXl] at hx; exact hx
    rw [h1, h2, List.take_of_length_le (by rw [List.length_set]; omega)]
    intro h
    exact set_ne hxX hy h.symm
/-- A byte of the length that is another one. -/
theorem damage_front {p q r : Bytes} (hp : p.length ≤ 65528) {i : Nat} {x y : UInt8} (hx : (frameB p)[i]? = some x) (hy : y ≠ x) (h4 : i < 4) (hn : nextF ((frameB p).set i y) = .got q r) : q ≠ p := by
  have hl := frameB_len p
  intro e
  subst e
  have e4 := be4_len q.length
  have hq : num4 ((frameB q).set i y) = q.length := by
    unfold nextF at hn
    split at hn
    · cases hn
    split at hn
    · cases hn
    split at hn
    · cases hn
    split at hn
    · cases hn
    rename_i h1 h2 h3 h5
    injection hn with e1 e2
    have := congrArg List.length e1
    rw [List.length_take, List.length_drop] at this
    omega
  have h2 := be4_num (w := (frameB q).set i y) (by rw [List.length_set]; omega)
  have h3 := be4_num (w := frameB q) (by omega)
  have h4 : num4 (frameB q) = q.length := by
    have : frameB q = be4 q.length ++ (q ++ be4 (adl (be4 q.length ++ q))) := by unfold frameB; rw [List.append_assoc]
    rw [this]
    exact num4_be (by omega) _
  rw [hq, List.take_set] at h2
  rw [h4] at h3
  have h5 : ((frameB q).take 4)[i]? = some x := by rw [List.getElem?_take, if_pos (by omega)]; exact hx
  exact set_ne h5 hy (h2.symm.trans h3)
variable {S F G : Nat → Prop} {h0 h h1 : Heap} {L R L' : List A} {a b a1 a2 na ea nb eb ga ha nm ra : Option Addr} {l c l1 c1 l2 c2 p t b1 nc ec nd ed gc hc nk rc : Nat} {bs cs bs1 bs2 w raw : List UInt8} {err e1 : Int} {v : Val} {bad bad1 sp : Bool} {q : Rq} {u : Rp}
theorem xor8 (x t : UInt8) : bitsOp .xor .u8 (x.toNat : Int) (t.toNat : Int) = ((x ^^^ t).toNat : Int) := by
  have e : ∀ z : UInt8, BitVec.ofInt 8 (z.toNat : Int) = z.toBitVec := fun z => by
    apply BitVec.eq_of_toNat_eq
    rw [BitVec.toNat_ofInt]
    have := z.toNat_lt
    show _ = z.toNat
    omega
  show IntKind.u8.wrap ((BitVec.ofInt 8 _ ^^^ BitVec.ofInt 8 _).toNat : Int) = _
  rw [e, e, wrap_u8, ← UInt8.toBitVec_xor]
  have := (x ^^^ t).toNat_lt
  show (((x ^^^ t).toNat : Nat) : Int) % 256 = _
  omega
theorem xor_ne {x t : UInt8} (h : t ≠ 0) : x ^^^ t ≠ x := fun h2 => h (by
  have h3 := congrArg (fun z => x ^^^ z) h2
  simp only [← UInt8.xor_assoc, UInt8.xor_self, UInt8.zero_xor] at h3
  exact h3)
theorem _root_.Go.VC.St.vaddr {e sz : Nat} {vs : List Value} (k : St S h0 h (A.vec e sz a l c vs :: R)) (hc : 0 < c) : ∃ g o, a = some ⟨g, o, none⟩ := by
  obtain ⟨q, _, _⟩ := St.vec (a := a) k
  rcases q.room with h1 | ⟨g, o, cur, rfl, _⟩
  · omega
  · exact ⟨g, o, rfl⟩
/-- An element's place. -/
theorem _root_.Go.VC.St.vix {e sz : Nat} {vs : List Value} {i : Nat} {K : Addr → Prop} (k : St S h0 h (A.vec e sz a l c vs :: R)) (hi : i < l) (q : ∀ g o, a = some ⟨g, o, none⟩ → K ⟨g, o + i * sz, none⟩) : VIdx a l (i : Int) sz K := by
  obtain ⟨v, _, _⟩ := St.vec (a := a) k
  have := v.le
  obtain ⟨g, o, rfl⟩ := k.vaddr (by omega)
  refine ⟨by omega, by omega, VSome.mk ?_⟩
  rw [Int.toNat_natCast, VC.add_plain]
  exact q g o rfl
/-- An element of a slice that is held is written. -/
theorem _root_.Go.VC.St.vput {e sz g o i : Nat} {vs ws : List Value} (k : St S h0 h (A.vec e sz (some ⟨g, o, none⟩) l c vs :: R)) (hi : i < l) (hw : ws.length = sz) (hone : ∀ v ∈ ws, oneC v = true) {K : Heap → Prop}
    (q : ∀ h', St S h0 h' (A.vec e sz (some ⟨g, o, none⟩) l c (vs.take (i * sz) ++ ws ++ vs.drop ((i + 1) * sz)) :: R) → K h') : storeL ⟨g, o + i * sz, none⟩ 0 ws h K := by
  obtain ⟨F, G, k1, kG, d, hf, back⟩ := k.frameA
  obtain ⟨hv, hF, hs, hc⟩ := k1.one
  rcases hv.room with h00 | ⟨g', o', cur, e1, hB, hsz⟩
  · have := hv.le; omega
  · cases e1
    have hle := hv.le
    have hlen := hv.len
    have hil : (i + 1) * sz ≤ l * sz := Nat.mul_le_mul_right sz hi
    have hlc : l * sz ≤ c * sz := Nat.mul_le_mul_right sz hle
    have his : (i + 1) * sz = i * sz + sz := Nat.succ_mul _ _
    have h2 : (vs.take (i * sz)).length = i * sz := by rw [List.length_take]; omega
    refine storeL.mkAt ws 0 h cur (o + i * sz) hB (by omega) hone fun h1 hB1 m s => q h1 (back ⟨m.mono fun b hb => by subst hb; exact .inl ((hF _).2 ⟨by omega, rfl⟩), F, .mk1 ⟨⟨?_, hle, ?_, .inr ⟨g, o, _, rfl, hB1, by rw [putAt_size]; exact hsz⟩⟩, hF, hs, hc⟩, fun b hb => .inl hb⟩)
    · rw [List.length_append, List.length_append, h2, hw, List.length_drop, hlen]; omega
    · refine hB1.sl o fun j u hj => ?_
      rw [Nat.add_zero, putAt_get _ _ _ _ (by omega)]
      by_cases e2 : j < i * sz
      · rw [List.append_assoc, List.getElem?_append_left (by omega), List.getElem?_take, if_pos e2] at hj
        rw [if_neg (by omega)]
        exact hv.at hB j u hj
      · by_cases e3 : j < i * sz + sz
        · rw [List.append_assoc, List.getElem?_append_right (by omega), h2, List.getElem?_append_left (by omega)] at hj
          rw [if_pos (by omega), show o + j - (o + i * sz) = j - i * sz by omega]
          exact hj
        · rw [List.getElem?_append_right (by rw [List.length_append]; omega), List.length_append, h2, hw, List.getElem?_drop, his, show i * sz + sz + (j - (i * sz + sz)) = j by omega] at hj
          rw [if_neg (by omega)]
          exact hv.at hB j u hj
theorem storeOne.back {h : Heap} {a : Addr} {v : Value} {K : Heap → Prop} (hv : oneC v = true) (k : storeOne h a v K) : VStore h a v K := by
  cases v <;> first | exact k | (simp [oneC] at hv)
/-- A cell of a slice that is held is written. -/
theorem _root_.Go.VC.St.vone {e g o i : Nat} {vs : List Value} {w : Value} (k : St S h0 h (A.vec e 1 (some ⟨g, o, none⟩) l c vs :: R)) (hl : vs.length = l) (hi : i < l) (hw : oneC w = true) {K : Heap → Prop}
    (q : ∀ h', St S h0 h' (A.vec e 1 (some ⟨g, o, none⟩) l c (vs.set i w) :: R) → K h') : VStore h ⟨g, o + i * 1, none⟩ w K := by
  have := k.vput (ws := [w]) hi rfl (by simpa using hw) (K := K) fun h' k => q h' (by
    rw [Nat.mul_one, Nat.mul_one] at k
    rw [List.set_eq_take_append_cons_drop, if_pos (by omega)]
    simpa using k)
  exact storeOne.back hw this
theorem set_byte (bs : Bytes) (i : Nat) (x : UInt8) : (bytesV bs).set i (byteV x) = bytesV (bs.set i x) := by simp [bytesV, List.map_set]
set_option maxHeartbeats 2000000 in
theorem damage_spec {pl mo : Bytes} {A' : Int} {tn : UInt8} {am : Option Addr} {lm cm : Nat} (hw : Wd none_ h) (hs : Spk none_ h) (hp : Sl h a (bytesV pl)) (hl : pl.length = l) (hA : -9223372036854775808 ≤ A' ∧ A' < 9223372036854775808) (hmo : Sl h am (bytesV mo)) (hlm : mo.length = lm) (hb : l ≤ 140737488355328) (hb2 : lm ≤ 140737488355328) :
    CallsH Tryd.prog 6 #[.slice a l c, .int .i64 A', .int .u8 (tn.toNat : Int), .slice am lm cm] h (fun v h' => v = .bool true ∧ Ext h h') := by
  refine vf6 _ _ _ _ _ _ _ _ h _ ?_
  unfold F6
  have k := St.fresh h
  refine CallsH.mono (begun_spec (hw.in k) (hs.in k)) ?_
  rintro _ h2 ⟨rfl, m⟩
  have k := k.next m
  clear m
  refine ⟨_, rfl, cond_false rfl ?_⟩
  refine CallsH.mono (frame_spec (hp.ext k.ext) hl) ?_
  rintro _ h5 ⟨a6, c6, rfl, k2⟩
  have k := k.add1 k2
  refine ⟨_, _, _, _, rfl, ?_⟩
  by_cases hle : pl.length ≤ 65528
  rotate_left
  · have ef : frameR pl = ([], 2) := if_pos (by omega)
    rw [ef] at k ⊢
    exact cond_true rfl (cond_true rfl ⟨by rw [decide_eq_true]; omega, k.ext⟩)
  have ef : frameR pl = (frameB pl, 0) := if_neg (by omega)
  rw [ef] at k ⊢
  have hfl := frameB_len pl
  have k : St none_ h h5 [BV a6 (frameB pl).length c6 (frameB pl)] := k
  refine cond_false rfl (cond_split (fun hc => ⟨by rw [decide_eq_true (show ((frameB pl).length : Int) > 0 by omega)], k.ext⟩) (fun hc => cond_false ?_ ?_))
  · have : ((frameB pl).length : Int) ≠ 0 := by omega
    simpa using this
  have ht : tn ≠ 0 := fun h => by
    subst h
    exact absurd hc (by decide)
  clear hc
  refine ⟨fun h' x => h' = h5 ∧ ∃ N : Nat, x = N, ?_, ?_⟩
  · refine cond_split (fun hc => ⟨rfl, ?_⟩) (fun hc => ⟨rfl, ?_⟩)
    · have hc : A' < 0 := of_decide_eq_true hc
      rw [wrap_id (by omega) (by omega)]
      exact ⟨(-1 - A').toNat, by omega⟩
    · have hc : ¬ A' < 0 := of_decide_eq_false hc
      exact ⟨A'.toNat, by omega⟩
  rintro _ _ _ ⟨rfl, N, rfl⟩
  refine ⟨by show ((frameB pl).length : Int) ≠ 0; omega, ?_⟩
  have em : Int.tmod (N : Int) ((frameB pl).length : Int) = ((N % (frameB pl).length : Nat) : Int) := rfl
  have hmod : N % (frameB pl).length < (frameB pl).length := Nat.mod_lt _ (by omega)
  show VIdx a6 (frameB pl).length (Int.tmod (N : Int) ((frameB pl).length : Int)) 1 _
  rw [em]
  generalize N % (frameB pl).length = i at hmod
  refine (k.sl (a := a6)).one (f := byteV) rfl (by omega) (by omega) fun ad x hx hcx => ⟨_, hcx, ?_⟩
  rw [Int.toNat_natCast] at hx
  rw [xor8]
  have hy := xor_ne (x := x) ht
  generalize x ^^^ tn = y at hy ⊢
  refine k.vix hmod fun g o hao => ?_
  subst hao
  refine k.vone (w := byteV y) (by rw [bytesV_len]) hmod rfl fun h15 k => ?_
  rw [set_byte] at k
  refine CallsH.mono new_spec ?_
  rintro _ h17 ⟨p, rfl, k2⟩
  have k := k.add1 k2
  refine ⟨_, rfl, ?_⟩
  obtain ⟨F', G, kF, kG, d, hF, back⟩ := k.frame2
  refine CallsH.mono (feed_spec kF (kG.ro d (a := some ⟨g, o, none⟩)) (by rw [List.length_set]) (fun _ => by show 0 + (frameB pl).length ≤ _; omega)) ?_
  rintro _ h20 ⟨x3, cx3, rfl, k2⟩
  have k := back k2
  clear back kF kG d hF
  have efd : feedR [] false ((frameB pl).set i y) = ((cut ((frameB pl).set i y)).1, if (cut ((frameB pl).set i y)).2.2 then 300 else 0, (cut ((frameB pl).set i y)).2.1, (cut ((frameB pl).set i y)).2.2) := by
    unfold feedR
    rw [List.nil_append]; rfl
  rw [efd] at k ⊢
  have hcl := cuts_len _ ((frameB pl).set i y) (Nat.lt_succ_self _)
  rw [List.length_set] at hcl
  have hfst : ∀ s, (cut ((frameB pl).set i y)).1[0]? = some s → s ≠ pl := fun s hs => by
    cases hn : nextF ((frameB pl).set i y) with
    | more => rw [cut_more hn] at hs; simp at hs
    | bad => rw [cut_bad hn] at hs; simp at hs
    | got q r =>
      rw [cut_got hn] at hs
      have hs : q = s := Option.some.inj hs
      subst hs
      by_cases h4 : 4 ≤ i
      · rw [damage_behind hle hx hy h4] at hn; cases hn
      · exact damage_front hle hx hy (by omega) hn
  have hbeh : 4 ≤ i → cut ((frameB pl).set i y) = ([], [], true) := fun h4 => cut_bad (damage_behind hle hx hy h4)
  have hmem := cut_mem_len _ ((frameB pl).set i y) (Nat.lt_succ_self _)
  rw [List.length_set] at hmem
  generalize cut ((frameB pl).set i y) = X at *
  refine ⟨_, _, _, _, rfl, ?_⟩
  refine ⟨fun m h' _ i => ∃ j : Nat, i = j ∧ j ≤ X.1.length ∧ m = X.1.length - j ∧ h' = h20, ⟨_, 0, rfl, by omega, rfl, rfl⟩, ?_⟩
  rintro m h' _ _ _ ⟨j, rfl, hj, rfl, rfl⟩
  have hro : RoX bytE none_ h' x3 X.1.length X.1 := El.ro (E := bytE) k.pull1
  refine cond_split (fun hc => ?_) (fun hc => ?_)
  · have hjl : j < X.1.length := Int.ofNat_lt.1 (of_decide_eq_true hc)
    refine hro.one (.refl _ _) (by omega) (by omega) fun ad s hs1 hc1 hr1 => ⟨_, _, _, hc1 0 _ rfl, ?_⟩
    rw [Int.toNat_natCast] at hs1
    have hsl : s.bs.length ≤ (frameB pl).length := hmem _ (List.mem_of_getElem? hs1)
    refine CallsH.mono (same_spec hr1.sl rfl (hp.ext k.ext) hl (by omega)) ?_
    rintro _ _ ⟨rfl, rfl⟩
    refine ⟨_, rfl, cond_split (fun hd => ?_) (fun hd => ⟨X.1.length - (j + 1), by omega, j + 1, wrap_nat hjl (by omega), hjl, rfl, rfl⟩)⟩
    have hd : s.bs = pl := of_decide_eq_true hd
    have hj0 : j ≠ 0 := fun h => by
      subst h
      exact hfst _ hs1 hd
    refine cond_false ?_ ⟨X.1.length - (j + 1), by omega, j + 1, wrap_nat hjl (by omega), hjl, rfl, rfl⟩
    have : (j : Int) ≠ 0 := by omega
    simpa using this
  clear hc
  refine cond_split (fun hc => ⟨rfl, k.ext⟩) (fun hc => ?_)
  have h4 : 4 ≤ i := by
    have : ¬ ((i : Nat) : Int) < 4 := of_decide_eq_false hc
    omega
  have eX := hbeh h4
  rw [eX] at k ⊢
  obtain ⟨F', G, kF, kG, d, hF, back⟩ := k.frame2
  refine CallsH.mono (feed_spec (bs := mo) kF (hmo.ro.at k.ext hF) hlm (fun h => by cases h)) ?_
  rintro _ h36 ⟨x4, cx4, rfl, k2⟩
  have k := back k2
  clear back kF kG d hF
  have ef3 : feedR [] true mo = ([], 300, [], true) := rfl
  rw [ef3] at k ⊢
  refine ⟨_, _, _, _, rfl, cond_true rfl (cond_true rfl (cond_true rfl (cond_true rfl ?_)))⟩
  obtain ⟨F', G, kF, kG, d, hF, back⟩ := k.frameA
  refine CallsH.mono (rest_spec kF) ?_
  rintro _ _ ⟨rfl, rfl⟩
  exact ⟨_, rfl, rfl, k.ext⟩
end Go.Proofs.YtgdgebmlcgohhaaDoor.F
