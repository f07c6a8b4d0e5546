/- Package proto: streams. Conditions: none. -/
import Derived.Test.YtgdgebmlcgohhaaDoorQE
namespace Go.Proofs.YtgdgebmlcgohhaaDoor.F
open Go Go.VC Go.Proofs
set_option linter.unusedSimpArgs false
set_option linter.unusedVariables false
set_option maxRecDepth 100000
attribute [local irreducible] CallsH RunsTo PureTo

variable {S F G : Nat → Prop} {h0 h h1 : Heap} {L R L' : List A} {a b a1 a2 : Option Addr} {l c l1 c1 l2 c2 p t b1 : Nat} {bs cs bs1 bs2 w : List UInt8} {err e1 : Int} {v : Val} {bad bad1 sp : Bool}
/-! ### Lists of rows of bytes -/
structure Sb where
  a : Option Addr
  c : Nat
  bs : Bytes
def sbV (s : Sb) : List Value := [.slice s.a s.bs.length s.c]
abbrev bytE : El Bytes := ⟨Sb, Sb.bs, 35, 1, sbV, fun s => BV s.a s.bs.length s.c s.bs, fun _ => rfl, fun s v hv => by simp [sbV] at hv; subst hv; rfl, by omega,
  fun F h s => Ro F h s.a (bytesV s.bs), fun r m hf => r.at m hf, fun {_ _ _ _ s} k => (k.sl (a := s.a)).ro⟩
theorem T48 : SlTy Tryd.prog 48 35 1 24 (.slice none 0 0) := ⟨by kernel_rfl, by kernel_rfl, rfl, by omega, by omega⟩
/-! ### A stream in memory -/
def ST (p : Nat) (w : Bytes) (sp : Bool) : A := A.ex fun x : Option Addr × Nat => A.all [A.blk p #[.slice x.1 w.length x.2, .bool sp] 119, BV x.1 w.length x.2 w]
theorem ST.open (k : St S h0 h (ST p w sp :: R)) : ∃ a c, St S h0 h (A.blk p #[.slice a w.length c, .bool sp] 119 :: BV a w.length c w :: R) := by
  obtain ⟨x, k⟩ := St.opens k
  exact ⟨x.1, x.2, St.open (L := [A.blk p #[.slice x.1 w.length x.2, .bool sp] 119, BV x.1 w.length x.2 w]) k⟩
theorem ST.close (k : St S h0 h (A.blk p #[.slice a w.length c, .bool sp] 119 :: BV a w.length c w :: R)) : St S h0 h (ST p w sp :: R) :=
  St.closes (f := fun x : Option Addr × Nat => A.all [A.blk p #[.slice x.1 w.length x.2, .bool sp] 119, BV x.1 w.length x.2 w]) (x := (a, c)) (St.close (L := [A.blk p #[.slice a w.length c, .bool sp] 119, BV a w.length c w]) k)
theorem new_spec : CallsH Tryd.prog 18 #[] h (fun v h' => ∃ p, v = .pointer (some ⟨p, 0, none⟩) ∧ St none_ h h' [ST p [] false]) := by
  refine vf18 h _ ?_
  unfold F18
  refine (St.fresh h).vnew fun b1 h2 k => ⟨b1, rfl, ?_⟩
  have k : St none_ h h2 [A.blk b1 #[.slice none 0 0, .bool false] 119] := k
  exact ST.close (w := []) ((k.vnil 5 (sz := 1) (by omega)).pull1)
theorem rest_spec (k0 : Holds [ST p w sp] F h) : CallsH Tryd.prog 23 #[.pointer (some ⟨p, 0, none⟩)] h (fun v h' => v = .int .i64 (w.length : Int) ∧ h' = h) := by
  refine vf23 _ h _ ?_
  unfold F23
  obtain ⟨a, c, k⟩ := ST.open (St.start k0)
  exact VSome.mk ⟨_, _, _, k.rd (by rfl), rfl, rfl⟩
noncomputable def nextV (w : Bytes) (sp : Bool) : Bool × Bytes × Bytes × Bool := match nextF w with
  | .more => (false, [], w, sp)
  | .bad => (false, [], w, true)
  | .got q r => (true, q, r, sp)
theorem split4 {w : Bytes} (h : 4 ≤ w.length) : ∃ b0 b1 b2 b3 r, w = b0 :: b1 :: b2 :: b3 :: r := by
  match w, h with
  | b0 :: b1 :: b2 :: b3 :: r, _ => exact ⟨_, _, _, _, _, rfl⟩
theorem num4_lt (w : Bytes) : num4 w < 4294967296 := by
  unfold num4
  split
  · exact un4_lt _ _ _ _
  · omega
theorem fourth_w (hs : Sl h a (bytesV w)) (hl : w.length = l) (h4 : 4 ≤ l) (hb : l < 9223372036854775808) : CallsH Tryd.prog 78 #[.slice a l c] h (fun v h' => v = .int .u32 (num4 w : Nat) ∧ h' = h) := by
  obtain ⟨b0, b1, b2, b3, r, rfl⟩ := split4 (w := w) (by omega)
  simp only [List.length_cons] at hl
  exact fourth_spec hs (by omega) hb
theorem sum_ne {n : Nat} (hn : n < 4294967296) (h4 : 4 ≤ w.length) : ((n : Int) != ((num4 w : Nat) : Int)) = decide (be4 n ≠ w.take 4) := by
  obtain ⟨b0, b1, b2, b3, r, rfl⟩ := split4 h4
  have e : (b0 :: b1 :: b2 :: b3 :: r).take 4 = [b0, b1, b2, b3] := rfl
  have e2 : num4 (b0 :: b1 :: b2 :: b3 :: r) = un4 b0 b1 b2 b3 := rfl
  rw [e, e2]
  by_cases h : n = un4 b0 b1 b2 b3
  · rw [decide_eq_false (by rw [h, be4_un]; simp)]
    subst h; simp
  · rw [decide_eq_true]
    · have : (n : Int) ≠ (un4 b0 b1 b2 b3 : Nat) := by omega
      simpa using this
    · intro h2
      apply h
      have h3 := un4_be hn
      unfold be4 at h2
      simp only [List.cons.injEq, and_true] at h2
      obtain ⟨e0, e1, e2, e3⟩ := h2
      rw [← h3, e0, e1, e2, e3]
theorem next_spec (k0 : Holds [ST p w sp] F h) (hb : w.length ≤ 70368744177664) : CallsH Tryd.prog 60 #[.pointer (some ⟨p, 0, none⟩)] h
    (fun v h' => ∃ x c, v = .tuple #[.slice x (nextV w sp).2.1.length c, .bool (nextV w sp).1] ∧ St F h h' [ST p (nextV w sp).2.2.1 (nextV w sp).2.2.2, BV x (nextV w sp).2.1.length c (nextV w sp).2.1]) := by
  refine vf60 _ h _ ?_
  unfold F60
  obtain ⟨a, c, k⟩ := ST.open (St.start k0)
  obtain ⟨kv, _, hcc⟩ := St.vec (a := a) k
  have hle := kv.le
  have hro : Ro none_ h a (bytesV w) := (k.sl (a := a)).ro
  have no : ∀ {h' : Heap} {sp' : Bool}, nextV w sp = (false, [], w, sp') → St F h h' [A.blk p #[.slice a w.length c, .bool sp'] 119, BV a w.length c w] → ∃ x c', (Value.tuple #[.slice none 0 0, .bool false]) = .tuple #[.slice x (nextV w sp).2.1.length c', .bool (nextV w sp).1] ∧ St F h h' [ST p (nextV w sp).2.2.1 (nextV w sp).2.2.2, BV x (nextV w sp).2.1.length c' (nextV w sp).2.1] := fun e k => by
    rw [e]
    exact ⟨none, 0, rfl, ((ST.close k).vnil 5 (sz := 1) (by omega)).pull1⟩
  refine VSome.mk ⟨_, _, _, k.rd (by rfl), cond_split (fun hc => ?_) (fun hc => ?_)⟩
  · have hc : w.length < 4 := by
      have : (w.length : Int) < 4 := of_decide_eq_true hc
      omega
    exact no (by unfold nextV nextF; rw [if_pos hc]) k
  have h4 : ¬ w.length < 4 := by
    have : ¬ (w.length : Int) < 4 := of_decide_eq_false hc
    omega
  have hn := num4_lt w
  refine VSome.mk ⟨_, _, _, k.rd (by rfl), ?_⟩
  refine CallsH.mono (fourth_w (k.sl (a := a)) rfl (by omega) (by omega)) ?_
  rintro _ _ ⟨rfl, rfl⟩
  refine ⟨_, rfl, cond_split (fun hc => ?_) (fun hc => ?_)⟩
  · have hc : 65528 < num4 w := by
      have : ((num4 w : Nat) : Int) > 65528 := of_decide_eq_true hc
      omega
    exact VSome.mk (k.vst (Nat.le_of_ble_eq_true (by rfl)) fun h9 k => no (by unfold nextV nextF; rw [if_neg h4, if_pos hc]) k)
  have hm : ¬ 65528 < num4 w := by
    have : ¬ ((num4 w : Nat) : Int) > 65528 := of_decide_eq_false hc
    omega
  have e0 : IntKind.i64.wrap ((num4 w : Nat) : Int) = ((num4 w : Nat) : Int) := wrap_id (by omega) (by omega)
  have e1 : IntKind.i64.wrap (((num4 w : Nat) : Int) + 4) = ((num4 w + 4 : Nat) : Int) := by rw [wrap_id (by omega) (by omega)]; omega
  have e2 : IntKind.i64.wrap (((num4 w + 4 : Nat) : Int) + 4) = ((num4 w + 8 : Nat) : Int) := by rw [wrap_id (by omega) (by omega)]; omega
  rw [e0, e1, e2]
  refine VSome.mk ⟨_, _, _, k.rd (by rfl), cond_split (fun hc => ?_) (fun hc => ?_)⟩
  · have hc : w.length < num4 w + 8 := Int.ofNat_lt.1 (of_decide_eq_true hc)
    exact no (by unfold nextV nextF; rw [if_neg h4, if_neg hm, if_pos hc]) k
  have h8 : ¬ w.length < num4 w + 8 := fun h => (of_decide_eq_false hc) (Int.ofNat_lt.2 h)
  refine VSome.mk ⟨_, _, _, k.rd (by rfl), ?_⟩
  refine cutA (bs := w) rfl (lo := 0) (hi := num4 w + 4) (mx := c) rfl rfl rfl (by omega) (by omega) (by omega) (Nat.le_refl _) fun a14 r14 l14 => ?_
  rw [List.drop_zero, Nat.sub_zero] at l14
  rw [List.drop_zero] at r14
  refine VSome.mk ⟨_, _, _, k.rd (by rfl), ?_⟩
  refine cutA (bs := w) rfl (lo := num4 w + 4) (hi := w.length) (mx := c) rfl rfl rfl (by omega) (by omega) (by omega) (Nat.le_refl _) fun a17 r17 l17 => ?_
  rw [List.take_of_length_le (Nat.le_refl _)] at r17 l17
  refine CallsH.mono (sum_spec (r14 _ _ hro).sl l14 (by omega)) ?_
  rintro _ _ ⟨rfl, rfl⟩
  refine ⟨_, rfl, k.rd (by rfl), ?_⟩
  refine CallsH.mono (fourth_w (r17 _ _ hro).sl l17 (by omega) (by omega)) ?_
  rintro _ _ ⟨rfl, rfl⟩
  refine ⟨_, rfl, ?_⟩
  rw [sum_ne (adl_lt _) (by rw [l17]; omega)]
  refine cond_split (fun hc => ?_) (fun hc => ?_)
  · have hc := of_decide_eq_true hc
    exact VSome.mk (k.vst (Nat.le_of_ble_eq_true (by rfl)) fun h9 k => no (by unfold nextV nextF; rw [if_neg h4, if_neg hm, if_neg h8, if_pos hc]) k)
  have hsum := of_decide_eq_false hc
  have e : nextV w sp = (true, (w.drop 4).take (num4 w), w.drop (num4 w + 8), sp) := by unfold nextV nextF; rw [if_neg h4, if_neg hm, if_neg h8, if_neg hsum]
  rw [e]
  refine VSome.mk ⟨_, _, _, k.rd (by rfl), ?_⟩
  refine cutA (bs := w) rfl (lo := 4) (hi := num4 w + 4) (mx := c) rfl rfl rfl (by omega) (by omega) (by omega) (Nat.le_refl _) fun a28 r28 l28 => ?_
  have ed : (w.take (num4 w + 4)).drop 4 = (w.drop 4).take (num4 w) := by rw [List.drop_take]; congr 1
  rw [ed] at r28 l28
  refine CallsH.mono (clone_spec (r28 _ _ hro).sl l28 (by omega)) ?_
  rintro _ h30 ⟨a31, c31, rfl, k2⟩
  have k := k.add1 k2
  refine ⟨_, _, _, rfl, VSome.mk ⟨_, _, _, k.rd (by rfl), ?_⟩⟩
  refine k.pull2.cut (lo := num4 w + 8) (hi := w.length) (mx := c) rfl rfl rfl (by omega) (Nat.le_refl _) (by omega) (Nat.le_refl _) fun a34 k => VSome.mk (k.vst (Nat.le_of_ble_eq_true (by rfl)) fun h36 k => ?_)
  have k := k.pull2
  rw [bytesV_cut, List.take_of_length_le (Nat.le_refl _)] at k
  have el : w.length - (num4 w + 8) = (w.drop (num4 w + 8)).length := by rw [List.length_drop]
  have el2 : num4 w + 4 - 4 = ((w.drop 4).take (num4 w)).length := by rw [l28]
  rw [el] at k
  rw [el2] at k ⊢
  exact ⟨a31, c31, rfl, ST.close k⟩
noncomputable def feedR (w : Bytes) (sp : Bool) (b : Bytes) : List Bytes × Int × Bytes × Bool :=
  if sp then ([], 300, w, true) else ((cut (w ++ b)).1, if (cut (w ++ b)).2.2 then 300 else 0, (cut (w ++ b)).2.1, (cut (w ++ b)).2.2)
theorem cut_bad_rest : ∀ (n : Nat) (w : Bytes), w.length < n → (cut w).2.2 = true → (cut w).2.1 = []
  | 0, _, h, _ => absurd h (Nat.not_lt_zero _)
  | n + 1, w, h, hs => by
    cases hn : nextF w with
    | more => rw [cut_more hn] at hs; cases hs
    | bad => rw [cut_bad hn]
    | got p r =>
      have := (next_got (x := []) hn).2
      rw [cut_got hn] at hs ⊢
      exact cut_bad_rest n r (by omega) hs
theorem cuts_len : ∀ (n : Nat) (w : Bytes), w.length < n → (cut w).1.length ≤ w.length ∧ (cut w).2.1.length ≤ w.length
  | 0, _, h => absurd h (Nat.not_lt_zero _)
  | n + 1, w, h => by
    cases hn : nextF w with
    | more => rw [cut_more hn]; simp
    | bad => rw [cut_bad hn]; simp
    | got p r =>
      have := (next_got (x := []) hn).2
      rw [cut_got hn]
      have := cuts_len n r (by omega)
      simp only [List.length_cons]; omega
theorem feed_spec (k0 : Holds [ST p w sp] F h) (hs : Ro F h b (bytesV bs)) (hl : bs.length = l) (hb : sp = false → w.length + l ≤ 1099511627776) : CallsH Tryd.prog 21 #[.pointer (some ⟨p, 0, none⟩), .slice b l c] h
    (fun v h' => ∃ x c', v = .tuple #[.slice x (feedR w sp bs).1.length c', .int .i64 (feedR w sp bs).2.1] ∧ St F h h' [ST p (feedR w sp bs).2.2.1 (feedR w sp bs).2.2.2, bytE.L x (feedR w sp bs).1.length c' (feedR w sp bs).1]) := by
  subst hl
  refine vf21 _ _ _ _ h _ ?_
  unfold F21
  obtain ⟨a, c0, k⟩ := ST.open (St.start k0)
  refine VSome.mk ⟨_, k.rd (by rfl), ?_⟩
  cases hsp : sp
  rotate_left
  · subst hsp
    exact cond_true rfl ⟨none, 0, rfl, (El.nil bytE (ST.close k)).pull1⟩
  subst hsp
  have hb := hb rfl
  refine cond_false rfl (VSome.mk ⟨_, _, _, k.rd (by rfl), ?_⟩)
  refine CallsH.mono (clone_spec (k.sl (a := a)) rfl (by omega)) ?_
  rintro _ h6 ⟨a7, c7, rfl, k2⟩
  have k := k.add1 k2
  refine ⟨_, _, _, rfl, ?_⟩
  refine app_bytes (s := bs) k (hs.in k).sl (by omega) fun a10 c10 h9 k => ⟨_, _, _, rfl, VSome.mk (k.vst (Nat.le_of_ble_eq_true (by rfl)) fun h12 k => ?_)⟩
  have k := k.pull1.only2
  have hWl : (w ++ bs).length = w.length + bs.length := List.length_append
  rw [← hWl] at k hb
  have k := ST.close k
  have e : feedR w false bs = ((cut (w ++ bs)).1, if (cut (w ++ bs)).2.2 then 300 else 0, (cut (w ++ bs)).2.1, (cut (w ++ bs)).2.2) := rfl
  rw [e]
  have hlen := cuts_len _ (w ++ bs) (Nat.lt_succ_self _)
  generalize w ++ bs = W at k hb hlen ⊢
  clear e hWl
  obtain ⟨F', G, kF, kG, d, hF, back⟩ := k.frame2
  refine CallsH.mono (next_spec kF (by omega)) ?_
  rintro _ h14 ⟨x, cx, rfl, k2⟩
  have k := back k2
  clear back kF kG d hF
  -- what a round of next leaves
  have step : ∀ (w' : Bytes), (∀ ps, cut W = (ps ++ (cut w').1, (cut w').2) → (nextV w' false).1 = true ∧ (nextV w' false).2.2.2 = false ∧ (nextV w' false).2.2.1.length < w'.length ∧ cut W = (ps ++ (nextV w' false).2.1 :: (cut (nextV w' false).2.2.1).1, (cut (nextV w' false).2.2.1).2) ∨
      (nextV w' false).1 = false ∧ (nextV w' false).2.2.2 = false ∧ cut W = (ps, (nextV w' false).2.2.1, false) ∨ (nextV w' false).1 = false ∧ (nextV w' false).2.2.2 = true ∧ cut W = (ps, [], true)) := fun w' ps hps => by
    unfold nextV
    cases hn : nextF w' with
    | more => rw [cut_more hn, List.append_nil] at hps; exact .inr (.inl ⟨rfl, rfl, hps⟩)
    | bad => rw [cut_bad hn, List.append_nil] at hps; exact .inr (.inr ⟨rfl, rfl, hps⟩)
    | got q r =>
      have := (next_got (x := []) hn).2
      rw [cut_got hn] at hps
      exact .inl ⟨rfl, rfl, this, hps⟩
  refine ⟨_, _, _, _, rfl, fun m h' o lo co q lq cq ok => ∃ (ps : List Bytes) (pl w' : Bytes) (sp' : Bool), lo = ps.length ∧ lq = pl.length ∧ m = (if ok then w'.length + 1 else 0) ∧ w'.length ≤ W.length ∧ (ps.length + if ok then 1 else 0) ≤ (cut W).1.length ∧
    ((ok = true ∧ sp' = false ∧ cut W = (ps ++ pl :: (cut w').1, (cut w').2)) ∨ (ok = false ∧ sp' = false ∧ cut W = (ps, w', false)) ∨ (ok = false ∧ sp' = true ∧ cut W = (ps, [], true))) ∧ St F h h' [ST p w' sp', BV q pl.length cq pl, bytE.L o ps.length co ps],
    ⟨_, [], (nextV W false).2.1, (nextV W false).2.2.1, (nextV W false).2.2.2, rfl, rfl, rfl, ?_, ?_, ?_, (El.nil bytE k).pull1.pull2.pull1⟩, ?_⟩
  · rcases step W [] rfl with ⟨_, _, h3, _⟩ | ⟨_, _, h3⟩ | ⟨h1, h2, h3⟩
    · omega
    · have := hlen.2; rw [h3] at this; exact this
    · unfold nextV at h1 h2 ⊢
      cases hn : nextF W with
      | more => exact Nat.le_refl _
      | bad => exact Nat.le_refl _
      | got q r => rw [hn] at h1; cases h1
  · rcases step W [] rfl with ⟨h1, _, h3, h4⟩ | ⟨h1, _, h3⟩ | ⟨h1, h2, h3⟩
    · rw [h1, h4]; simp
    · rw [h1]; simp
    · rw [h1]; simp
  · rcases step W [] rfl with ⟨h1, h2, _, h4⟩ | h | h
    · exact .inl ⟨h1, h2, h4⟩
    · exact .inr (.inl h)
    · exact .inr (.inr h)
  clear k
  rintro m h19 _ o lo co q lq cq ok ⟨ps, pl, w', sp', rfl, rfl, rfl, hw', hps, hcase, k⟩
  rcases hcase with ⟨rfl, rfl, hcut⟩ | ⟨rfl, rfl, hcut⟩ | ⟨rfl, rfl, hcut⟩
  · refine cond_true rfl (k.vnew fun b25 h26 k => ?_)
    have k := k.sel 4 [0, 2, 3, 1] rfl (by decide) (L' := [A.blk b25 (bytE.cells ⟨q, cq, pl⟩).toArray bytE.e, bytE.own ⟨q, cq, pl⟩, bytE.L o ps.length co ps, _]) (by rfl)
    simp only [if_true] at hps
    refine El.app (E := bytE) T48 k (by omega) fun o' co' h28 k => ⟨_, _, _, rfl, ?_⟩
    obtain ⟨F', G, kF, kG, d, hF, back⟩ := k.pull1.frame2
    refine CallsH.mono (next_spec kF (by omega)) ?_
    rintro _ h31 ⟨x, cx, rfl, k2⟩
    have k := back k2
    have hst := step w' (ps ++ [pl]) (by rw [hcut, List.append_assoc]; rfl)
    have ep : (ps ++ [pl]).length = ps.length + 1 := by simp
    refine ⟨_, _, _, _, rfl, _, ?_, ps ++ [pl], (nextV w' false).2.1, (nextV w' false).2.2.1, (nextV w' false).2.2.2, ep.symm, rfl, rfl, ?_, ?_, ?_, by rw [ep]; exact k⟩
    · rcases hst with ⟨h1, _, h3, _⟩ | ⟨h1, _⟩ | ⟨h1, _⟩
      · rw [h1]; simp only [if_true]; omega
      · rw [h1]; simp
      · rw [h1]; simp
    · unfold nextV
      cases hn : nextF w' with
      | more => exact hw'
      | bad => exact hw'
      | got q r =>
        have := (next_got (x := []) hn).2
        show r.length ≤ _
        omega
    · rcases hst with ⟨h1, _, h3, h4⟩ | ⟨h1, _, h3⟩ | ⟨h1, _, h3⟩
      · rw [h1, h4, if_pos rfl]; simp only [List.length_append, List.length_cons, List.length_nil]; omega
      · rw [h1, h3]; simp
      · rw [h1, h3]; simp
    · rcases hst with ⟨h1, h2, _, h4⟩ | h | h
      · exact .inl ⟨h1, h2, h4⟩
      · exact .inr (.inl h)
      · exact .inr (.inr h)
  · obtain ⟨a, c1, k⟩ := ST.open k
    refine cond_false rfl (VSome.mk ⟨_, k.rd (by rfl), cond_false rfl ?_⟩)
    rw [hcut]
    have k := (ST.close k).pull1.drop
    exact ⟨o, co, rfl, k⟩
  · obtain ⟨a, c1, k⟩ := ST.open k
    refine cond_false rfl (VSome.mk ⟨_, k.rd (by rfl), cond_true rfl (VSome.mk (k.vst (Nat.le_of_ble_eq_true (by rfl)) fun h37 k => ?_))⟩)
    rw [hcut]
    have k := k.pull1.drop
    have k : St F h h37 [A.blk p #[.slice none 0 0, .bool true] 119, BV q pl.length cq pl, bytE.L o ps.length co ps] := k
    have k := ST.close (w := []) ((k.vnil 5 (sz := 1) (by omega)).pull1)
    exact ⟨o, co, rfl, k.pull1.drop⟩
end Go.Proofs.YtgdgebmlcgohhaaDoor.F
