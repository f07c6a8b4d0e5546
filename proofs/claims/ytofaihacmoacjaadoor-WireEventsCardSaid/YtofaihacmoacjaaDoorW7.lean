/- Package wire: events are written, by the program and by the document. Conditions: none. -/
import Derived.Test.YtofaihacmoacjaaDoorW6
namespace Go.Proofs.YtofaihacmoacjaaDoor.F
open Go Go.VC Go.Proofs
set_option linter.unusedSimpArgs false
set_option linter.unusedVariables false
set_option maxRecDepth 100000
attribute [local irreducible] CallsH RunsTo PureTo

variable {S F G : Nat → Prop} {h0 h h1 : Heap} {L R L' : List A} {a b : Option Addr} {l c l2 c2 : Nat} {bs cs : List UInt8} {e : Ev} {v : Val}
/-- A value in a list of values. -/
theorem valRow {vs : List Val} {i : Int} {K : Addr → Prop} (k : Sl h a (vs.flatMap valV)) (hl : vs.length = l) (h0 : 0 ≤ i) (hi : i < l)
    (q : ∀ ad x, vs[i.toNat]? = some x → cellH h ad = some (.int .i64 x.k) → cellH h ⟨ad.block, ad.off + 1, none⟩ = some (.int .i64 x.n) → cellH h ⟨ad.block, ad.off + 2, none⟩ = some (.string (bA x.s)) → cellH h ⟨ad.block, ad.off + 3, none⟩ = some (.bool x.b) → K ad) : VIdx a l i 4 K :=
  k.row (f := valV) (fun _ => rfl) (by omega) hl h0 hi fun ad x hx hc => q ad x hx (hc 0 _ rfl) (hc 1 _ rfl) (hc 2 _ rfl) (hc 3 _ rfl)
/-- An event's values, in memory that others hold. -/
structure EvRo (F : Nat → Prop) (h : Heap) (a : Option Addr) (l : Nat) (e : Ev) : Prop where
  ro : Ro F h a (e.vs.flatMap valV)
  len : e.vs.length = l
  rng : rngE e
theorem EvRo.in (k : EvRo S h0 a l e) (s : St S h0 h L) : EvRo none_ h a l e := ⟨k.ro.in s, k.len, k.rng⟩
theorem EvRo.at (k : EvRo S h0 a l e) (m : Mod S h0 h) (hf : ∀ b, F b → S b ∨ h0.size ≤ b) : EvRo F h a l e := ⟨k.ro.at m hf, k.len, k.rng⟩
theorem EvRo.ext (k : EvRo none_ h0 a l e) (m : Ext h0 h) : EvRo none_ h a l e := ⟨(k.ro.sl.ext m).ro, k.len, k.rng⟩
theorem EvRo.none (k : EvRo S h a l e) : EvRo none_ h a l e := ⟨k.ro.sl.ro, k.len, k.rng⟩
abbrev aggE (e : Ev) (a : Option Addr) (l c : Nat) : Value := .agg #[.string (bA e.t), .int .i64 e.tm, .slice a l c]
theorem app_text (s : Bytes) (k : St S h0 h (BV a l c bs :: R)) (hb : l + s.length ≤ 140737488355328) {K : KV}
    (q : ∀ a' c' h', St S h0 h' (BV a' (l + s.length) c' (bs ++ s) :: R) → K (.slice a' (l + s.length) c') h') : RunsTo Tryd.prog (Builtin.append_ #[30, 9] 30 #[.slice a l c, .string (bA s)]) h K := by
  refine k.app T30 und9 (by simp) (n := s.length) (news := bytesV s) (Src.str (bA s)) (oneC_bytes s) (by omega) fun a' c' h' k => q a' c' h' ?_
  rw [← bytesV_app] at k
  exact k
theorem app_bytes {s : Bytes} {x : Option Addr} {cx : Nat} (k : St S h0 h (BV a l c bs :: R)) (hs : Sl h x (bytesV s)) (hb : l + s.length ≤ 140737488363520) {K : KV}
    (q : ∀ a' c' h', St S h0 h' (BV a' (l + s.length) c' (bs ++ s) :: R) → K (.slice a' (l + s.length) c') h') : RunsTo Tryd.prog (Builtin.append_ #[30, 30] 30 #[.slice a l c, .slice x s.length cx]) h K := by
  refine k.appW T30 und30 (by simp) (n := s.length) (news := bytesV s) (Src.slice hs (by rw [bytesV_len, Nat.mul_one])) (oneC_bytes s) (by omega) fun a' c' h' k => q a' c' h' ?_
  rw [← bytesV_app] at k
  exact k
theorem putS_len (s : Bytes) : (putS s).length = (putN s.length).length + s.length := by unfold putS; rw [List.length_append]
theorem putStr_spec {s : Bytes} (k : Holds [BV a l c bs] F h) (hb : l + s.length ≤ 140737488300000) : CallsH Tryd.prog 74 #[.slice a l c, .string (bA s)] h (fun v h' => ∃ a' c', v = .slice a' (l + (putS s).length) c' ∧ St F h h' [BV a' (l + (putS s).length) c' (bs ++ putS s)]) := by
  refine vf74 _ _ _ _ h _ ?_
  unfold F74
  rw [bA_size]
  have hp := putN_len s.length
  refine CallsH.mono (putInt_spec k (by omega) (by omega) (by omega)) ?_
  rintro _ h2 ⟨a', c', rfl, k⟩
  refine ⟨_, _, _, rfl, app_text s k (by omega) fun a2 c2 h3 k => ⟨_, _, _, rfl, a2, c2, ?_, ?_⟩⟩
  · rw [putS_len, Nat.add_assoc]
  · rw [putS_len, ← Nat.add_assoc]
    unfold putS
    rw [← List.append_assoc]
    exact k
theorem kind_byte {k : Int} (h : 1 ≤ k ∧ k ≤ 3) : (.int .u8 (IntKind.u8.wrap k) : Value) = byteV (UInt8.ofNat k.toNat) := by
  rw [byteV_of, wrap_u8]
  congr 1
  omega
theorem valid_kind (h : validV v = true) : 1 ≤ v.k ∧ v.k ≤ 3 := by
  unfold validV at h
  split at h
  · omega
  split at h
  · omega
  split at h
  · omega
  cases h
theorem putVal_spec (k : Holds [BV a l c bs] F h) (hv : okV v) (hb : l ≤ 140737488200000) : CallsH Tryd.prog 75 #[.slice a l c, aggV v] h (fun w h' => ∃ a' c', w = .slice a' (l + (encV v).length) c' ∧ St F h h' [BV a' (l + (encV v).length) c' (bs ++ encV v)]) := by
  refine vf75 _ _ _ _ _ _ _ h _ ?_
  unfold F75
  have hk := valid_kind hv.1
  have hlen := encV_len hv.1
  have k := St.start k
  refine k.vnew fun b1 h2 k => ⟨_, k.rd (by rfl), ?_⟩
  rw [kind_byte hk]
  refine k.vnew fun b4 h5 k => ?_
  refine app_byte k.pull2.pull1 (by omega) fun a8 c8 h7 k => ⟨_, _, _, rfl, _, k.rd (by rfl), cond_split (fun hc => ?_) (fun hc => ?_)⟩
  · have hc : v.k = 1 := by simpa using hc
    have ee : encV v = UInt8.ofNat v.k.toNat :: putN v.n := by unfold encV; rw [if_pos hc]
    refine ⟨_, k.rd (by rfl), ?_⟩
    obtain ⟨F', G, k1, kG, d, hF, back⟩ := k.frameA
    refine CallsH.mono (putInt_spec k1 hv.2.1 hv.2.2 (by omega)) ?_
    rintro _ h2 ⟨a', c', rfl, k2⟩
    have k := (back k2).only
    refine ⟨_, _, _, rfl, a', c', ?_, ?_⟩
    · rw [ee, List.length_cons]
      congr 1; omega
    · rw [ee, List.length_cons, Nat.add_comm _ 1, ← Nat.add_assoc]
      rw [List.append_assoc] at k
      exact k
  have h1 : v.k ≠ 1 := by simpa using hc
  clear hc
  refine cond_split (fun hc => ?_) (fun hc => ?_)
  · have hc : v.k = 2 := by simpa using hc
    have ee : encV v = UInt8.ofNat v.k.toNat :: putS v.s := by unfold encV; rw [if_neg h1, if_pos hc]
    have hs : v.s.length ≤ 267 := by
      rw [ee, List.length_cons, putS_len] at hlen; omega
    refine ⟨_, k.rd (by rfl), ?_⟩
    obtain ⟨F', G, k1, kG, d, hF, back⟩ := k.frameA
    refine CallsH.mono (putStr_spec k1 (by omega)) ?_
    rintro _ h2 ⟨a', c', rfl, k2⟩
    have k := (back k2).only
    refine ⟨_, _, _, rfl, a', c', ?_, ?_⟩
    · rw [ee, List.length_cons]
      congr 1; omega
    · rw [ee, List.length_cons, Nat.add_comm _ 1, ← Nat.add_assoc]
      rw [List.append_assoc] at k
      exact k
  have h2 : v.k ≠ 2 := by simpa using hc
  have h3 : v.k = 3 := by omega
  have ee : encV v = [UInt8.ofNat v.k.toNat, if v.b then 1 else 0] := by unfold encV; rw [if_neg h1, if_neg h2]
  have hv3 : v = ⟨3, 0, [], v.b⟩ := by
    have hv1 := hv.1
    unfold validV at hv1
    rw [if_neg h1, if_neg h2, if_pos h3] at hv1
    simp at hv1
    cases v
    simp at hv1 h3 ⊢
    exact ⟨h3, hv1⟩
  refine ⟨_, k.rd (by rfl), _, k.rd (by rfl), _, k.rd (by rfl), _, k.rd (by rfl), val_eql (x := v) (y := ⟨3, 0, [], false⟩) ⟨_, rfl, ?_⟩⟩
  have hb3 : decide (v = ⟨3, 0, [], false⟩) = !v.b := by
    rw [hv3]
    cases v.b <;> rfl
  rw [hb3]
  rw [ee]
  refine cond_split (fun hc => ?_) (fun hc => ?_)
  · have hb0 : v.b = false := by simpa using hc
    rw [hb0]
    refine k.vnew fun b24 h25 k => app_byte (x := 0) k (by omega) fun a28 c28 h27 k => ⟨_, _, _, rfl, a28, c28, rfl, ?_⟩
    have k := k.only
    rw [List.append_assoc] at k
    exact k
  · have hb0 : v.b = true := by simpa using hc
    rw [hb0]
    refine k.vnew fun b24 h25 k => app_byte (x := 1) k (by omega) fun a28 c28 h27 k => ⟨_, _, _, rfl, a28, c28, rfl, ?_⟩
    have k := k.only
    rw [List.append_assoc] at k
    exact k
theorem all_valid_take {vs : List Val} {j : Nat} {x : Val} (hx : vs[j]? = some x) (hn : (vs.take j).all validV = true) (hp : validV x = true) : (vs.take (j + 1)).all validV = true := by
  rw [take_next hx, List.all_append, hn]
  simp [hp]
theorem all_valid_not {vs : List Val} {j : Nat} {x : Val} (hx : vs[j]? = some x) (hp : validV x = false) : vs.all validV = false := by
  rw [Bool.eq_false_iff]
  intro h
  rw [List.all_eq_true] at h
  have := h x (List.mem_of_getElem? hx)
  rw [hp] at this; cases this
theorem fault_spec (hw : Wd none_ h) (he : EvRo none_ h a l e) (hb : l ≤ 4398046511104) : CallsH Tryd.prog 46 #[aggE e a l c] h (fun v h' => v = .int .i64 (faultE e) ∧ Ext h h') := by
  refine vf46 _ _ _ _ _ h _ ?_
  unfold F46
  have k := St.fresh h
  refine k.vnew fun b1 h2 k => ⟨_, k.rd (by rfl), ?_⟩
  refine CallsH.mono (name_spec (hw.in k) e.t) ?_
  rintro _ _ ⟨rfl, rfl⟩
  refine ⟨_, rfl, cond_split (fun hc => ?_) (fun hc => ?_)⟩
  · have hc : nameOk e.t = false := by simpa using hc
    refine ⟨?_, k.ext⟩
    unfold faultE
    rw [if_pos hc]
  have h1 : nameOk e.t ≠ false := by simpa using hc
  clear hc
  have f2 : ¬ (nameOk e.t = false) → (e.tm < 0 ∨ maxTime < e.tm) → faultE e = 23 := fun x y => by unfold faultE; rw [if_neg x, if_pos y]
  refine ⟨_, k.rd (by rfl), cond_split (fun hc => ?_) (fun hc => ?_)⟩
  · exact ⟨by rw [f2 h1 (.inl (of_decide_eq_true hc))], k.ext⟩
  have h2 : ¬ e.tm < 0 := of_decide_eq_false hc
  refine ⟨_, k.rd (by rfl), cond_split (fun hc => ?_) (fun hc => ?_)⟩
  · exact ⟨by rw [f2 h1 (.inr (of_decide_eq_true hc))], k.ext⟩
  have h3 : ¬ maxTime < e.tm := of_decide_eq_false hc
  have hl := he.len
  refine ⟨_, _, _, k.rd (by rfl), cond_split (fun hc => ?_) (fun hc => ?_)⟩
  · have h4 : 16 < e.vs.length := by
      have : (l : Int) > 16 := of_decide_eq_true hc
      omega
    refine ⟨?_, k.ext⟩
    unfold faultE
    rw [if_neg h1, if_neg (by omega), if_pos h4]
  have h4 : ¬ 16 < e.vs.length := by
    have : ¬ (l : Int) > 16 := of_decide_eq_false hc
    omega
  clear hc
  have f5 : faultE e = if e.vs.all validV = false then 12 else 0 := by unfold faultE; rw [if_neg h1, if_neg (by omega), if_neg h4]
  rw [f5]
  refine ⟨_, _, _, k.rd (by rfl), ?_⟩
  refine ⟨fun n hh _ i => ∃ j : Nat, i = j ∧ j ≤ l ∧ n = l - j ∧ St none_ h hh [A.blk b1 #[.string (bA e.t), .int .i64 e.tm, .slice a l c] 27] ∧ (e.vs.take j).all validV = true, ⟨_, 0, rfl, by omega, rfl, k, rfl⟩, ?_⟩
  clear k
  rintro n hh _ _ i ⟨j, rfl, hj, rfl, k, hp⟩
  refine cond_split (fun hc => ?_) (fun hc => ?_)
  · have hjl : j < l := Int.ofNat_lt.1 (of_decide_eq_true hc)
    refine valRow (he.ro.in k).sl hl (by omega) (by omega) fun ad x hx c0 c1 c2 c3 => ⟨_, c0, _, c1, _, c2, _, c3, ?_⟩
    rw [Int.toNat_natCast] at hx
    refine k.vnew fun b23 h24 k => k.vall (by rfl) (by rfl) fun h25 k => ⟨_, k.rd (by rfl), _, k.rd (by rfl), _, k.rd (by rfl), _, k.rd (by rfl), ?_⟩
    refine CallsH.mono (valid_spec x) ?_
    rintro _ h3 ⟨rfl, m⟩
    have k := (k.next m).drop
    refine ⟨_, rfl, cond_split (fun hc => ?_) (fun hc => ?_)⟩
    · have hx0 : validV x = false := by simpa using hc
      rw [if_pos (all_valid_not hx hx0)]
      exact ⟨rfl, k.ext⟩
    · have hx0 : validV x = true := by simpa using hc
      exact ⟨_, by omega, j + 1, wrap_nat hjl (by omega), hjl, rfl, k, all_valid_take hx hp hx0⟩
  · have hjl : j = e.vs.length := by
      have : ¬ (j : Int) < l := of_decide_eq_false hc
      omega
    subst hjl
    rw [List.take_of_length_le (Nat.le_refl _)] at hp
    rw [if_neg (by simp [hp])]
    exact ⟨rfl, k.ext⟩
theorem flat_next {α β : Type} {xs : List α} {f : α → List β} {j : Nat} {x : α} (h : xs[j]? = some x) : (xs.take (j + 1)).flatMap f = (xs.take j).flatMap f ++ f x := by
  rw [take_next h, List.flatMap_append]; simp
theorem take_len_le {xs : List Val} (h : ∀ v ∈ xs, validV v = true) (j : Nat) (hj : xs.length ≤ 16) : ((xs.take j).flatMap encV).length ≤ 5000 := by
  have h1 := encVs_len (vs := xs.take j) fun v hv => h v (List.mem_of_mem_take hv)
  have h2 : (xs.take j).length ≤ 16 := by rw [List.length_take]; omega
  omega
theorem put_spec (k : Holds [BV a l c bs] F h) {x : Option Addr} {lx cx : Nat} (he : EvRo F h x lx e) (hok : faultE e = 0) (hb : l ≤ 140737488000000) :
    CallsH Tryd.prog 47 #[.slice a l c, aggE e x lx cx] h (fun v h' => ∃ a' c', v = .slice a' (l + (encE e).length) c' ∧ St F h h' [BV a' (l + (encE e).length) c' (bs ++ encE e)]) := by
  obtain ⟨f1, f2, f3, f4, f5⟩ := fault0.1 hok
  have hl := he.len
  have hT : maxTime = 4611686018427387904 := rfl
  have ht := nameOk_len f1
  refine vf47 _ _ _ _ _ _ _ _ h _ ?_
  unfold F47
  have k := St.start k
  refine k.vnew fun b1 h2 k => ⟨_, k.rd (by rfl), _, k.rd (by rfl), ?_⟩
  obtain ⟨F', G, k1, kG, d, hF, back⟩ := k.pull1.frameA
  have p1 := putN_len e.t.length
  have p2 := putN_len e.tm
  have p3 := putN_len lx
  have p4 := putS_len e.t
  refine CallsH.mono (putStr_spec k1 (by omega)) ?_
  rintro _ h3 ⟨a3, c3, rfl, k2⟩
  have k := back k2
  clear back k1 kG d hF
  refine ⟨_, _, _, rfl, k.rd (by rfl), ?_⟩
  obtain ⟨F', G, k1, kG, d, hF, back⟩ := k.frameA
  refine CallsH.mono (putInt_spec k1 (by omega) (by omega) (by omega)) ?_
  rintro _ h4 ⟨a4, c4, rfl, k2⟩
  have k := back k2
  clear back k1 kG d hF
  refine ⟨_, _, _, rfl, _, _, _, k.rd (by rfl), ?_⟩
  obtain ⟨F', G, k1, kG, d, hF, back⟩ := k.frameA
  refine CallsH.mono (putInt_spec k1 (by omega) (by omega) (by omega)) ?_
  rintro _ h5 ⟨a5, c5, rfl, k2⟩
  have k := back k2
  clear back k1 kG d hF
  refine ⟨_, _, _, rfl, _, _, _, k.rd (by rfl), ?_⟩
  have ee : encE e = putS e.t ++ (putN e.tm ++ (putN lx ++ e.vs.flatMap encV)) := by unfold encE; rw [hl]
  refine ⟨fun n hh b' lb cb i => ∃ j : Nat, i = j ∧ j ≤ lx ∧ n = lx - j ∧ lb = l + (putS e.t).length + (putN e.tm).length + (putN lx).length + ((e.vs.take j).flatMap encV).length ∧
      St F h hh [BV b' lb cb (bs ++ putS e.t ++ putN e.tm ++ putN lx ++ (e.vs.take j).flatMap encV), A.blk b1 #[.string (bA e.t), .int .i64 e.tm, .slice x lx cx] 27], ⟨_, 0, rfl, by omega, rfl, rfl, by simpa using k⟩, ?_⟩
  clear k
  rintro n hh _ b' lb cb i ⟨j, rfl, hj, rfl, rfl, k⟩
  refine cond_split (fun hc => ?_) (fun hc => ?_)
  · have hjl : j < lx := Int.ofNat_lt.1 (of_decide_eq_true hc)
    refine valRow (he.ro.in k).sl hl (by omega) (by omega) fun ad y hy c0 c1 c2 c3 => ⟨_, c0, _, c1, _, c2, _, c3, ?_⟩
    rw [Int.toNat_natCast] at hy
    have hym := List.mem_of_getElem? hy
    refine k.vnew fun b23 h24 k => k.vall (by rfl) (by rfl) fun h25 k => ⟨_, k.rd (by rfl), _, k.rd (by rfl), _, k.rd (by rfl), _, k.rd (by rfl), ?_⟩
    have hp := take_len_le f5 j f4
    obtain ⟨F', G, k1, kG, d, hF, back⟩ := k.drop.frameA
    refine CallsH.mono (putVal_spec k1 ⟨f5 y hym, he.rng y hym⟩ (by omega)) ?_
    rintro _ h5 ⟨a5, c5, rfl, k2⟩
    have k := back k2
    refine ⟨_, _, _, rfl, _, ?_, j + 1, wrap_nat hjl (by omega), hjl, rfl, ?_, ?_⟩
    · omega
    · rw [flat_next hy, List.length_append]; omega
    · rw [flat_next hy, ← List.append_assoc]; exact k
  · have hjl : j = lx := by
      have : ¬ (j : Int) < lx := of_decide_eq_false hc
      omega
    subst hjl
    rw [List.take_of_length_le (by omega)] at k ⊢
    have elen : l + (encE e).length = l + (putS e.t).length + (putN e.tm).length + (putN j).length + (e.vs.flatMap encV).length := by
      rw [ee]; simp only [List.length_append]; omega
    refine ⟨b', cb, by rw [elen], ?_⟩
    rw [elen]
    have k := k.only
    have eb : bs ++ encE e = bs ++ putS e.t ++ putN e.tm ++ putN j ++ e.vs.flatMap encV := by rw [ee]; simp only [List.append_assoc]
    rw [eb]; exact k
/-- What is written of an event. -/
def encF (e : Ev) : Bytes := if faultE e = 0 then encE e else []
theorem encode_spec (hw : Wd none_ h) (he : EvRo none_ h a l e) (hb : l ≤ 4398046511104) : CallsH Tryd.prog 13 #[aggE e a l c] h (fun v h' => ∃ a' c', v = .tuple #[.slice a' (encF e).length c', .int .i64 (faultE e)] ∧ St none_ h h' [BV a' (encF e).length c' (encF e)]) := by
  refine vf13 _ _ _ _ _ h _ ?_
  unfold F13
  have k := St.fresh h
  refine k.vnew fun b1 h2 k => ⟨_, k.rd (by rfl), _, k.rd (by rfl), _, _, _, k.rd (by rfl), ?_⟩
  refine CallsH.mono (fault_spec (hw.in k) (he.in k) hb) ?_
  rintro _ h3 ⟨rfl, m⟩
  have k := k.next m
  refine ⟨_, rfl, cond_split (fun hc => ?_) (fun hc => ?_)⟩
  · have hc : faultE e ≠ 0 := by simpa using hc
    unfold encF
    rw [if_neg hc]
    exact ⟨none, 0, rfl, (k.drop.vnil 5 (sz := 1) (by omega)).re (y := BV none 0 0 []) rfl⟩
  have hc : faultE e = 0 := by simpa using hc
  refine ⟨_, k.rd (by rfl), _, k.rd (by rfl), _, _, _, k.rd (by rfl), ?_⟩
  have k := (k.vnil 5 (sz := 1) (by omega)).re (y := BV none 0 0 []) rfl
  obtain ⟨F', G, k1, kG, d, hF, back⟩ := k.frameA
  refine CallsH.mono (put_spec k1 (he.at k.ext hF) hc (by omega)) ?_
  rintro _ h5 ⟨a5, c5, rfl, k2⟩
  have k := (back k2).only
  rw [Nat.zero_add, List.nil_append] at k
  unfold encF
  rw [if_pos hc]
  exact ⟨_, _, _, rfl, a5, c5, by rw [Nat.zero_add, hc], k⟩
theorem rencode_spec (he : EvRo none_ h a l e) (hb : l ≤ 4398046511104) : CallsH Tryd.prog 14 #[aggE e a l c] h (fun v h' => ∃ a' c', v = .tuple #[.slice a' (encF e).length c', .int .i64 (faultE e)] ∧ St none_ h h' [BV a' (encF e).length c' (encF e)]) := by
  refine vf14 _ _ _ _ _ h _ ?_
  unfold F14
  have k := St.fresh h
  have bad : ∀ {h' : Heap} {L : List A} (f : Int), St none_ h h' L → f ≠ 0 → faultE e = f → ∃ a' c', (Value.tuple #[.slice none 0 0, .int .i64 f]) = .tuple #[.slice a' (encF e).length c', .int .i64 (faultE e)] ∧ St none_ h h' [BV a' (encF e).length c' (encF e)] := fun f k hf e1 => by
    subst e1
    unfold encF
    rw [if_neg hf]
    exact ⟨none, 0, rfl, (k.vnil 5 (sz := 1) (by omega)).re (y := BV none 0 0 []) rfl |>.only⟩
  refine k.vnew fun b1 h2 k => ⟨_, k.rd (by rfl), ?_⟩
  refine CallsH.mono (rname_spec e.t) ?_
  rintro _ _ ⟨rfl, m⟩
  have k := k.next m
  refine ⟨_, rfl, cond_split (fun hc => ?_) (fun hc => ?_)⟩
  · have hc : nameOk e.t = false := by simpa using hc
    exact bad 20 k (by omega) (by unfold faultE; rw [if_pos hc])
  have h1 : nameOk e.t ≠ false := by simpa using hc
  clear hc
  have f2 : ¬ (nameOk e.t = false) → (e.tm < 0 ∨ maxTime < e.tm) → faultE e = 23 := fun x y => by unfold faultE; rw [if_neg x, if_pos y]
  refine ⟨_, k.rd (by rfl), cond_split (fun hc => ?_) (fun hc => ?_)⟩
  · exact bad 23 k (by omega) (f2 h1 (.inl (of_decide_eq_true hc)))
  have h2 : ¬ e.tm < 0 := of_decide_eq_false hc
  refine ⟨_, k.rd (by rfl), cond_split (fun hc => ?_) (fun hc => ?_)⟩
  · exact bad 23 k (by omega) (f2 h1 (.inr (of_decide_eq_true hc)))
  have h3 : ¬ maxTime < e.tm := of_decide_eq_false hc
  have hT : maxTime = 4611686018427387904 := rfl
  have hl := he.len
  refine ⟨_, _, _, k.rd (by rfl), cond_split (fun hc => ?_) (fun hc => ?_)⟩
  · have h4 : 16 < e.vs.length := by
      have : (l : Int) > 16 := of_decide_eq_true hc
      omega
    exact bad 2 k (by omega) (by unfold faultE; rw [if_neg h1, if_neg (by omega), if_pos h4])
  have h4 : ¬ 16 < e.vs.length := by
    have : ¬ (l : Int) > 16 := of_decide_eq_false hc
    omega
  clear hc
  have f5 : faultE e = if e.vs.all validV = false then 12 else 0 := by unfold faultE; rw [if_neg h1, if_neg (by omega), if_neg h4]
  have ht := nameOk_len (show nameOk e.t = true by simpa using h1)
  have p1 := putN_len e.t.length
  have p2 := putN_len e.tm
  have p3 := putN_len l
  have p4 := putS_len e.t
  refine ⟨_, k.rd (by rfl), ?_⟩
  rw [bA_size]
  refine CallsH.mono (rputInt_spec (n := (e.t.length : Int)) (by omega) (by omega)) ?_
  rintro _ h3 ⟨a3, c3, rfl, k2⟩
  have k := k.add1 k2
  refine ⟨_, _, _, rfl, _, k.rd (by rfl), app_text e.t k (by omega) fun a4 c4 h4 k => ⟨_, _, _, rfl, _, k.rd (by rfl), ?_⟩⟩
  refine CallsH.mono (rputInt_spec (n := e.tm) (by omega) (by omega)) ?_
  rintro _ h5 ⟨a5, c5, rfl, k2⟩
  have k := k.add1 k2
  refine ⟨_, _, _, rfl, app_bytes k.pull1 (k.sl (a := a5)) (by omega) fun a6 c6 h6 k => ⟨_, _, _, rfl, _, _, _, k.rd (by rfl), ?_⟩⟩
  refine CallsH.mono (rputInt_spec (n := (l : Int)) (by omega) (by omega)) ?_
  rintro _ h7 ⟨a7, c7, rfl, k2⟩
  have k := k.pull1.drop.add1 k2
  refine ⟨_, _, _, rfl, app_bytes k.pull1 (k.sl (a := a7)) (by omega) fun a8 c8 h8 k => ⟨_, _, _, rfl, ?_⟩⟩
  have k := k.pull1.drop
  refine ⟨fun n hh _ _ _ _ b' lb cb i => ∃ j : Nat, i = j ∧ j ≤ l ∧ n = l - j ∧ lb = (putS e.t).length + (putN e.tm).length + (putN l).length + ((e.vs.take j).flatMap encV).length ∧ (e.vs.take j).all validV = true ∧
      St none_ h hh [BV b' lb cb (putS e.t ++ putN e.tm ++ putN l ++ (e.vs.take j).flatMap encV), A.blk b1 #[.string (bA e.t), .int .i64 e.tm, .slice a l c] 27], ⟨_, 0, rfl, by omega, rfl, ?_, rfl, ?_⟩, ?_⟩
  · rw [p4]; simp
  · unfold putS
    simpa using k
  clear k
  rintro n hh _ _ _ _ _ b' lb cb i ⟨j, rfl, hj, rfl, rfl, hp, k⟩
  refine ⟨_, _, _, k.rd (by rfl), ?_⟩
  refine cond_split (fun hc => ?_) (fun hc => ?_)
  · have hjl : j < l := Int.ofNat_lt.1 (of_decide_eq_true hc)
    refine ⟨fun h' _ _ _ _ b' lb cb _ => lb = (putS e.t).length + (putN e.tm).length + (putN l).length + ((e.vs.take (j + 1)).flatMap encV).length ∧ (e.vs.take (j + 1)).all validV = true ∧
      St none_ h h' [BV b' lb cb (putS e.t ++ putN e.tm ++ putN l ++ (e.vs.take (j + 1)).flatMap encV), A.blk b1 #[.string (bA e.t), .int .i64 e.tm, .slice a l c] 27], ?_, ?_⟩
    rotate_left
    · rintro h' _ _ _ _ _ b2 lb2 cb2 _ ⟨rfl, hp2, k⟩
      exact ⟨_, by omega, j + 1, wrap_nat hjl (by omega), hjl, rfl, rfl, hp2, k⟩
    refine ⟨_, _, _, k.rd (by rfl), ?_⟩
    refine valRow (he.ro.in k).sl hl (by omega) (by omega) fun ad y hy c0 c1 c2 c3 => ⟨_, c0, _, c1, _, c2, _, c3, ?_⟩
    rw [Int.toNat_natCast] at hy
    have hym := List.mem_of_getElem? hy
    refine k.vnew fun b23 h24 k => k.vall (by rfl) (by rfl) fun h25 k => ⟨_, k.rd (by rfl), _, k.rd (by rfl), _, k.rd (by rfl), _, k.rd (by rfl), ?_⟩
    refine CallsH.mono (rvalid_spec y) ?_
    rintro _ h3 ⟨rfl, m⟩
    have k := k.next m
    refine ⟨_, rfl, cond_split (fun hc => ?_) (fun hc => ?_)⟩
    · have hx0 : validV y = false := by simpa using hc
      exact bad 12 k (by omega) (by rw [f5, if_pos (all_valid_not hy hx0)])
    have hx0 : validV y = true := by simpa using hc
    clear hc
    have hp2 := all_valid_take hy hp hx0
    have hlen : ((e.vs.take j).flatMap encV).length ≤ 5000 := by
      have q1 := encVs_len (vs := e.vs.take j) (List.all_eq_true.1 hp)
      have q2 : (e.vs.take j).length ≤ 16 := by rw [List.length_take]; omega
      omega
    have hk := valid_kind hx0
    have hev := encV_len hx0
    have fin : ∀ {h' : Heap} {b2 : Option Addr} {lb2 cb2 : Nat} {x : Bytes}, x = encV y → lb2 = (putS e.t).length + (putN e.tm).length + (putN l).length + ((e.vs.take j).flatMap encV).length + x.length → St none_ h h' (BV b2 lb2 cb2 (putS e.t ++ putN e.tm ++ putN l ++ (e.vs.take j).flatMap encV ++ x) :: A.blk b23 (valV y).toArray 83 :: A.blk b1 #[.string (bA e.t), .int .i64 e.tm, .slice a l c] 27 :: []) →
        lb2 = (putS e.t).length + (putN e.tm).length + (putN l).length + ((e.vs.take (j + 1)).flatMap encV).length ∧ (e.vs.take (j + 1)).all validV = true ∧
        St none_ h h' [BV b2 lb2 cb2 (putS e.t ++ putN e.tm ++ putN l ++ (e.vs.take (j + 1)).flatMap encV), A.blk b1 #[.string (bA e.t), .int .i64 e.tm, .slice a l c] 27] := fun ex el k => by
      subst ex
      refine ⟨by rw [el, flat_next hy, List.length_append]; omega, hp2, ?_⟩
      rw [flat_next hy, ← List.append_assoc]
      exact k.pull1.drop
    refine ⟨_, k.rd (by rfl), ?_⟩
    rw [kind_byte hk]
    refine k.vnew fun b60 h61 k => app_byte k.pull2.pull1 (by omega) fun a64 c64 h63 k => ⟨_, _, _, rfl, _, k.rd (by rfl), cond_split (fun hc => ?_) (fun hc => ?_)⟩
    · have hc : y.k = 1 := by simpa using hc
      refine ⟨_, k.rd (by rfl), ?_⟩
      have hr := he.rng y hym
      refine CallsH.mono (rputInt_spec hr.1 hr.2) ?_
      rintro _ h7 ⟨a7, c7, rfl, k2⟩
      have k := k.add1 k2
      have p6 := putN_len y.n
      refine ⟨_, _, _, rfl, app_bytes k.pull1 (k.sl (a := a7)) (by omega) fun a8 c8 h8 k => ⟨_, _, _, rfl, fin (x := UInt8.ofNat y.k.toNat :: putN y.n) ?_ ?_ ?_⟩⟩
      · unfold encV; rw [if_pos hc]
      · rw [List.length_cons]; omega
      · have k := k.pull1.drop
        rw [List.append_assoc _ [UInt8.ofNat y.k.toNat]] at k
        exact k
    have hk1 : y.k ≠ 1 := by simpa using hc
    clear hc
    refine ⟨_, k.rd (by rfl), cond_split (fun hc => ?_) (fun hc => ?_)⟩
    · have hc : y.k = 2 := by simpa using hc
      have ee : encV y = UInt8.ofNat y.k.toNat :: putS y.s := by unfold encV; rw [if_neg hk1, if_pos hc]
      have hs : y.s.length ≤ 267 := by
        rw [ee, List.length_cons, putS_len] at hev; omega
      refine ⟨_, k.rd (by rfl), ?_⟩
      rw [bA_size]
      refine CallsH.mono (rputInt_spec (n := (y.s.length : Int)) (by omega) (by omega)) ?_
      rintro _ h7 ⟨a7, c7, rfl, k2⟩
      have k := k.add1 k2
      have p6 := putN_len y.s.length
      refine ⟨_, _, _, rfl, app_bytes k.pull1 (k.sl (a := a7)) (by omega) fun a8 c8 h8 k => ⟨_, _, _, rfl, _, k.rd (by rfl), app_text y.s k (by omega) fun a9 c9 h9 k => ⟨_, _, _, rfl, fin (x := UInt8.ofNat y.k.toNat :: putS y.s) ee.symm ?_ ?_⟩⟩⟩
      · have p7 := putS_len y.s
        rw [List.length_cons]; omega
      · have k := k.pull1.drop
        rw [List.append_assoc _ [UInt8.ofNat y.k.toNat], List.append_assoc] at k
        exact k
    have hk2 : y.k ≠ 2 := by simpa using hc
    clear hc
    have ee : encV y = [UInt8.ofNat y.k.toNat, if y.b then 1 else 0] := by unfold encV; rw [if_neg hk1, if_neg hk2]
    refine ⟨_, k.rd (by rfl), cond_split (fun hc => ?_) (fun hc => ?_)⟩
    · refine k.vnew fun b24 h25 k => app_byte (x := 1) k (by omega) fun a28 c28 h27 k => ⟨_, _, _, rfl, fin ee.symm rfl ?_⟩
      rw [List.append_assoc] at k
      rw [show y.b = true from hc]
      exact k
    · refine k.vnew fun b24 h25 k => app_byte (x := 0) k (by omega) fun a28 c28 h27 k => ⟨_, _, _, rfl, fin ee.symm rfl ?_⟩
      rw [List.append_assoc] at k
      rw [show y.b = false from hc]
      exact k
  · have hjl : j = l := by
      have : ¬ (j : Int) < l := of_decide_eq_false hc
      omega
    subst hjl
    rw [List.take_of_length_le (by omega)] at hp k
    have h0 : faultE e = 0 := by rw [f5, if_neg (by simp [hp])]
    have eb : encF e = putS e.t ++ putN e.tm ++ putN j ++ e.vs.flatMap encV := by
      unfold encF; rw [if_pos h0]
      unfold encE; rw [hl]; simp only [List.append_assoc]
    have elen : (encF e).length = (putS e.t).length + (putN e.tm).length + (putN j).length + (e.vs.flatMap encV).length := by
      rw [eb]; simp only [List.length_append]
    rw [elen, h0, List.take_of_length_le (by omega), eb]
    exact ⟨b', cb, rfl, k.only⟩
end Go.Proofs.YtofaihacmoacjaaDoor.F
