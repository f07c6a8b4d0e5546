/- Package wire: events are read by the program. Conditions: none. -/
import Derived.Test.YtofaihacmoacjaaDoorW7
namespace Go.Proofs.YtofaihacmoacjaaDoor.F
open Go Go.VC Go.Proofs
set_option linter.unusedSimpArgs false
set_option linter.unusedVariables false
set_option maxRecDepth 100000
attribute [local irreducible] CallsH RunsTo PureTo

variable {α β γ : Type}
theorem ret_left (x : α) (g : α → Bytes → Rd β) : bindR (retR x) g = g x := by
  funext b
  unfold bindR retR
  simp only [List.drop_zero]
  cases g x b with
  | ok y m => simp
  | err e => rfl
theorem bind_assoc (f : Bytes → Rd α) (g : α → Bytes → Rd β) (k : β → Bytes → Rd γ) : bindR (bindR f g) k = bindR f fun x => bindR (g x) k := by
  funext b
  unfold bindR
  cases f b with
  | err e => rfl
  | ok x n =>
    simp only
    cases g x (b.drop n) with
    | err e => rfl
    | ok y m =>
      simp only [List.drop_drop]
      cases k y (b.drop (n + m)) with
      | err e => rfl
      | ok z i => simp [Nat.add_assoc]
theorem rep_snoc (f : Bytes → Rd α) : ∀ n, rep f (n + 1) = bindR (rep f n) fun xs => bindR f fun x => retR (xs ++ [x])
  | 0 => by
    show bindR f (fun x => bindR (retR []) fun xs => retR (x :: xs)) = bindR (retR []) _
    rw [ret_left]
    congr 1
  | n + 1 => by
    have ih := rep_snoc f n
    show bindR f (fun x => bindR (rep f (n + 1)) fun xs => retR (x :: xs)) = bindR (bindR f fun x => bindR (rep f n) fun xs => retR (x :: xs)) _
    rw [bind_assoc]
    congr 1
    funext x
    rw [ih, bind_assoc, bind_assoc]
    congr 1
    funext xs
    rw [bind_assoc, ret_left]
    congr 1
/-- What a step of a reader does: after a fault nothing, else what the plain reader says. -/
def StepR (f : Bytes → Rd α) (bs : Bytes) (p : Nat) (e : Int) (x : α) (p' : Nat) (e' : Int) : Prop :=
  (e ≠ 0 ∧ p' = p ∧ e' = e) ∨ (e = 0 ∧ ∃ n, f (bs.drop p) = .ok x n ∧ p' = p + n ∧ e' = 0) ∨ (e = 0 ∧ f (bs.drop p) = .err e' ∧ e' ≠ 0)
section
variable {f : Bytes → Rd α} {g : α → Bytes → Rd β} {bs : Bytes} {p p1 p2 : Nat} {e e1 e2 : Int} {x x' : α} {y : β}
theorem StepR.bind (h1 : StepR f bs p e x p1 e1) (h2 : StepR (g x) bs p1 e1 y p2 e2) : StepR (bindR f g) bs p e y p2 e2 := by
  rcases h1 with ⟨a1, a2, a3⟩ | ⟨a1, n, a2, a3, a4⟩ | ⟨a1, a2, a3⟩
  · subst a2 a3
    rcases h2 with ⟨b1, b2, b3⟩ | ⟨b1, _⟩ | ⟨b1, _⟩
    · exact .inl ⟨b1, b2, b3⟩
    · exact absurd b1 a1
    · exact absurd b1 a1
  · subst a3 a4
    rcases h2 with ⟨b1, b2, b3⟩ | ⟨b1, m, b2, b3, b4⟩ | ⟨b1, b2, b3⟩
    · exact absurd rfl b1
    · refine .inr (.inl ⟨a1, n + m, ?_, by omega, b4⟩)
      unfold bindR
      rw [a2]
      simp only [List.drop_drop]
      rw [b2]
    · refine .inr (.inr ⟨a1, ?_, b3⟩)
      unfold bindR
      rw [a2]
      simp only [List.drop_drop]
      rw [b2]
  · rcases h2 with ⟨b1, b2, b3⟩ | ⟨b1, _⟩ | ⟨b1, _⟩
    · subst b3
      refine .inr (.inr ⟨a1, ?_, a3⟩)
      unfold bindR
      rw [a2]
    · exact absurd b1 a3
    · exact absurd b1 a3
theorem StepR.ret (x : α) : StepR (retR x) bs p e x p e := by
  by_cases h : e = 0
  · exact .inr (.inl ⟨h, 0, rfl, rfl, h⟩)
  · exact .inl ⟨h, rfl, rfl⟩
theorem StepR.stay (h : e ≠ 0) : StepR f bs p e x p e := .inl ⟨h, rfl, rfl⟩
theorem StepR.junk (h : StepR f bs p e x p1 e1) (he : e1 ≠ 0) : StepR f bs p e x' p1 e1 := by
  rcases h with h | ⟨_, _, _, _, h⟩ | h
  · exact .inl h
  · exact absurd h he
  · exact .inr (.inr h)
theorem StepR.snoc {j : Nat} {xs : List α} (h1 : StepR (rep f j) bs p e xs p1 e1) (h2 : StepR f bs p1 e1 x p2 e2) : StepR (rep f (j + 1)) bs p e (xs ++ [x]) p2 e2 := by
  rw [rep_snoc]
  exact h1.bind (h2.bind (StepR.ret _))
theorem StepR.skip [Inhabited α] {n : Nat} : ∀ {j : Nat} {xs ys : List α}, j ≤ n → StepR (rep f j) bs p e xs p1 e1 → e1 ≠ 0 → StepR (rep f n) bs p e ys p1 e1 := by
  intro j xs ys hj h he
  induction n with
  | zero =>
    have : j = 0 := by omega
    subst this; exact h.junk he
  | succ n ih =>
    by_cases hjn : j = n + 1
    · subst hjn; exact h.junk he
    · exact ((ih (by omega)).snoc (x := default) (StepR.stay he)).junk he
theorem StepR.ok (h : StepR f bs p 0 x p1 e1) : (∃ n, f (bs.drop p) = .ok x n ∧ p1 = p + n ∧ e1 = 0) ∨ (f (bs.drop p) = .err e1 ∧ e1 ≠ 0) := by
  rcases h with ⟨h, _⟩ | ⟨_, h⟩ | ⟨_, h⟩
  · exact absurd rfl h
  · exact .inl h
  · exact .inr h
end
theorem numb_bad {lo hi : Int} {b : Bytes} {e : Int} : getN b = .err e → numb lo hi b = .err e := fun h => by unfold numb; rw [h]
theorem getZ_bad : ∀ (b : Bytes) (i acc : Nat) (e : Int), getZ i acc b = .err e → e = 30 ∨ e = 31
  | [], i, acc, e, h => by cases h; exact .inl rfl
  | c :: r, i, acc, e, h => by
    rw [getZ] at h
    split at h
    · cases h; exact .inr rfl
    split at h
    · exact getZ_bad r _ _ e h
    split at h
    · cases h; exact .inr rfl
    · cases h
theorem getN_bad {b : Bytes} {e : Int} (h : getN b = .err e) : e = 30 ∨ e = 31 := by
  unfold getN at h
  split at h
  · cases h
  · rename_i h2
    cases h
    exact getZ_bad _ _ _ _ h2
/-! ### The program's reader -/
variable {S F G : Nat → Prop} {h0 h h1 : Heap} {L R L' : List A} {a b : Option Addr} {l c l2 c2 p t at_ : Nat} {bs cs : List UInt8} {e : Int} {ev : Ev} {v : Val}
abbrev RdrA (t p : Nat) (a : Option Addr) (l c : Nat) (at_ : Nat) (e : Int) : A := A.blk p #[.slice a l c, .int .i64 (at_ : Int), .int .i64 e] t
/-- What every call of a reader asks. -/
structure RdOk (F : Nat → Prop) (h : Heap) (a : Option Addr) (l c : Nat) (bs : Bytes) (at_ : Nat) : Prop where
  ro : Ro F h a (bytesV bs)
  len : bs.length = l
  lc : l ≤ c
  big : l ≤ 140737488363520
  at_ : at_ ≤ l
theorem RdOk.mod {at2 : Nat} (k : RdOk F h a l c bs at_) (m : Mod F h h1) (h2 : at2 ≤ l) : RdOk F h1 a l c bs at2 := ⟨k.ro.mod m, k.len, k.lc, k.big, h2⟩
theorem RdOk.at {at2 : Nat} (k : RdOk S h0 a l c bs at_) (m : Mod S h0 h) (hf : ∀ b, F b → S b ∨ h0.size ≤ b) (h2 : at2 ≤ l) : RdOk F h a l c bs at2 := ⟨k.ro.at m hf, k.len, k.lc, k.big, h2⟩
theorem fail_spec (k : Holds [RdrA t p a l c at_ e] F h) (e2 : Int) : CallsH Tryd.prog 61 #[.pointer (some ⟨p, 0, none⟩), .int .i64 e2] h (fun v h' => v = .tuple #[] ∧ St F h h' [RdrA t p a l c at_ (if e = 0 then e2 else e)]) := by
  refine vf61 _ _ h _ ?_
  unfold F61
  have k := St.start k
  refine VSome.mk ⟨_, k.rd (by rfl), cond_split (fun hc => ?_) (fun hc => ?_)⟩
  · have hc : e = 0 := by simpa using hc
    rw [if_pos hc]
    exact VSome.mk (k.vst (Nat.le_of_ble_eq_true (by rfl)) fun _ k => ⟨rfl, k⟩)
  · have hc : e ≠ 0 := by simpa using hc
    rw [if_neg hc]
    exact ⟨rfl, k⟩
theorem rfault_spec (k : Holds [RdrA t p a l c at_ e] F h) (e2 : Int) : CallsH Tryd.prog 53 #[.pointer (some ⟨p, 0, none⟩), .int .i64 e2] h (fun v h' => v = .tuple #[] ∧ St F h h' [RdrA t p a l c at_ (if e = 0 then e2 else e)]) := by
  refine vf53 _ _ h _ ?_
  unfold F53
  have k := St.start k
  refine VSome.mk ⟨_, k.rd (by rfl), cond_split (fun hc => ?_) (fun hc => ?_)⟩
  · have hc : e = 0 := by simpa using hc
    rw [if_pos hc]
    exact VSome.mk (k.vst (Nat.le_of_ble_eq_true (by rfl)) fun _ k => ⟨rfl, k⟩)
  · have hc : e ≠ 0 := by simpa using hc
    rw [if_neg hc]
    exact ⟨rfl, k⟩
theorem drop_take_all {l at_ : Nat} (hl : bs.length = l) : (bs.take l).drop at_ = bs.drop at_ := by rw [List.take_of_length_le (by omega)]
theorem number_step {lo hi : Int} (k : Holds [RdrA t p a l c at_ e] F h) (r : RdOk F h a l c bs at_) : CallsH Tryd.prog 60 #[.pointer (some ⟨p, 0, none⟩), .int .i64 lo, .int .i64 hi] h
    (fun v h' => ∃ x at2 e2, v = .int .i64 x ∧ at2 ≤ l ∧ StepR (numb lo hi) bs at_ e x at2 e2 ∧ (e2 ≠ 0 → x = 0) ∧ St F h h' [RdrA t p a l c at2 e2]) := by
  refine vf60 _ _ _ h _ ?_
  unfold F60
  have k := St.start k
  refine VSome.mk ⟨_, k.rd (by rfl), cond_split (fun hc => ?_) (fun hc => ?_)⟩
  · have hc : e ≠ 0 := by simpa using hc
    exact ⟨0, at_, e, rfl, r.at_, .stay hc, fun _ => rfl, k⟩
  have hc : e = 0 := by simpa using hc
  subst hc
  refine VSome.mk ⟨_, _, _, k.rd (by rfl), VSome.mk ⟨_, k.rd (by rfl), ?_⟩⟩
  refine r.ro.bcut r.len (lo := at_) (hi := l) (mx := c) rfl rfl rfl r.at_ (by omega) r.lc (by omega) fun a' r2 hlen => ?_
  rw [drop_take_all r.len] at r2 hlen
  have hbig := r.big
  refine CallsH.mono (int_spec r2.sl hlen (by omega)) ?_
  rintro _ _ ⟨rfl, rfl⟩
  cases hg : getN (bs.drop at_) with
  | err e2 =>
    have he2 : e2 ≠ 0 := by have := getN_bad hg; omega
    refine ⟨_, _, _, rfl, cond_true (by simpa using he2) ?_⟩
    obtain ⟨F', G, k1, kG, d, hF, back⟩ := k.frameA
    refine CallsH.mono (fail_spec k1 e2) ?_
    rintro _ h2 ⟨rfl, k2⟩
    have k := back k2
    rw [if_pos rfl] at k
    exact ⟨rfl, 0, at_, e2, rfl, r.at_, .inr (.inr ⟨rfl, numb_bad hg, he2⟩), fun _ => rfl, k⟩
  | ok x n =>
    have hle := Form.num.le hg
    rw [hlen] at hle
    have hat := r.at_
    refine ⟨_, _, _, rfl, cond_false rfl ?_⟩
    refine cond_split (fun hc => ?_) (fun hc => ?_)
    · have hx : x < lo ∨ hi < x := .inl (of_decide_eq_true hc)
      obtain ⟨F', G, k1, kG, d, hF, back⟩ := k.frameA
      refine CallsH.mono (fail_spec k1 31) ?_
      rintro _ h2 ⟨rfl, k2⟩
      have k := back k2
      rw [if_pos rfl] at k
      refine ⟨rfl, 0, at_, 31, rfl, r.at_, .inr (.inr ⟨rfl, ?_, by omega⟩), fun _ => rfl, k⟩
      unfold numb
      rw [hg]
      exact if_pos hx
    have h1 : ¬ x < lo := of_decide_eq_false hc
    refine cond_split (fun hc => ?_) (fun hc => ?_)
    · have hx : x < lo ∨ hi < x := .inr (of_decide_eq_true hc)
      obtain ⟨F', G, k1, kG, d, hF, back⟩ := k.frameA
      refine CallsH.mono (fail_spec k1 31) ?_
      rintro _ h2 ⟨rfl, k2⟩
      have k := back k2
      rw [if_pos rfl] at k
      refine ⟨rfl, 0, at_, 31, rfl, r.at_, .inr (.inr ⟨rfl, ?_, by omega⟩), fun _ => rfl, k⟩
      unfold numb
      rw [hg]
      exact if_pos hx
    have h2 : ¬ hi < x := of_decide_eq_false hc
    refine VSome.mk ⟨_, k.rd (by rfl), VSome.mk (k.vst (Nat.le_of_ble_eq_true (by rfl)) fun _ k => ⟨x, at_ + n, 0, rfl, by omega, .inr (.inl ⟨rfl, n, ?_, rfl, rfl⟩), fun h => absurd rfl h, ?_⟩)⟩
    · unfold numb
      rw [hg]
      exact if_neg (by omega)
    · have e1 : IntKind.i64.wrap ((at_ : Int) + (n : Int)) = ((at_ + n : Nat) : Int) := by rw [wrap_id (by omega) (by omega)]; omega
      rw [e1] at k
      exact k
theorem bytes_step {n : Nat} (k : Holds [RdrA t p a l c at_ e] F h) (r : RdOk F h a l c bs at_) (hn : n ≤ 1099511627776) : CallsH Tryd.prog 79 #[.pointer (some ⟨p, 0, none⟩), .int .i64 (n : Int)] h
    (fun v h' => ∃ s at2 e2, v = .string (bA s) ∧ at2 ≤ l ∧ StepR (takeB n) bs at_ e s at2 e2 ∧ (e2 ≠ 0 → s = []) ∧ St F h h' [RdrA t p a l c at2 e2]) := by
  refine vf79 _ _ h _ ?_
  unfold F79
  have k := St.start k
  have hat := r.at_
  have hlen := r.len
  have hbig := r.big
  have ew : IntKind.i64.wrap ((l : Int) - (at_ : Int)) = ((l - at_ : Nat) : Int) := by rw [wrap_id (by omega) (by omega)]; omega
  have hdl : (bs.drop at_).length = l - at_ := by rw [List.length_drop, hlen]
  refine ⟨fun h' => (e ≠ 0 ∧ St F h h' [RdrA t p a l c at_ e]) ∨ (e = 0 ∧ l - at_ < n ∧ St F h h' [RdrA t p a l c at_ 30]) ∨ (e = 0 ∧ n ≤ l - at_ ∧ St F h h' [RdrA t p a l c at_ 0]), ?_, ?_⟩
  · refine VSome.mk ⟨_, k.rd (by rfl), cond_split (fun hc => ?_) (fun hc => ?_)⟩
    · have hc : e = 0 := by simpa using hc
      subst hc
      refine VSome.mk ⟨_, _, _, k.rd (by rfl), VSome.mk ⟨_, k.rd (by rfl), ?_⟩⟩
      rw [ew]
      refine cond_split (fun hc => ?_) (fun hc => ?_)
      · have hc : l - at_ < n := by
          have : (n : Int) > ((l - at_ : Nat) : Int) := of_decide_eq_true hc
          omega
        obtain ⟨F', G, k1, kG, d, hF, back⟩ := k.frameA
        refine CallsH.mono (fail_spec k1 30) ?_
        rintro _ h2 ⟨rfl, k2⟩
        have k := back k2
        rw [if_pos rfl] at k
        exact ⟨rfl, .inr (.inl ⟨rfl, hc, k⟩)⟩
      · have hc : n ≤ l - at_ := by
          have : ¬ (n : Int) > ((l - at_ : Nat) : Int) := of_decide_eq_false hc
          omega
        exact .inr (.inr ⟨rfl, hc, k⟩)
    · have hc : e ≠ 0 := by simpa using hc
      exact .inl ⟨hc, k⟩
  clear k
  rintro h' _ (⟨he, k⟩ | ⟨rfl, hn2, k⟩ | ⟨rfl, hn2, k⟩)
  · exact VSome.mk ⟨_, k.rd (by rfl), cond_true (by simpa using he) ⟨[], at_, e, rfl, hat, .stay he, fun _ => rfl, k⟩⟩
  · refine VSome.mk ⟨_, k.rd (by rfl), cond_true (by simp) ⟨[], at_, 30, rfl, hat, .inr (.inr ⟨rfl, ?_, by omega⟩), fun _ => rfl, k⟩⟩
    unfold takeB
    rw [if_pos (by omega)]
  · refine VSome.mk ⟨_, k.rd (by rfl), cond_false (by simp) (VSome.mk ⟨_, k.rd (by rfl), VSome.mk (k.vst (Nat.le_of_ble_eq_true (by rfl)) fun h4 k => ?_)⟩)⟩
    have e1 : IntKind.i64.wrap ((at_ : Int) + (n : Int)) = ((at_ + n : Nat) : Int) := by rw [wrap_id (by omega) (by omega)]; omega
    rw [e1] at k
    have k : St F h h4 [RdrA t p a l c (at_ + n) 0] := k
    refine VSome.mk ⟨_, _, _, k.rd (by rfl), VSome.mk ⟨_, k.rd (by rfl), VSome.mk ⟨_, k.rd (by rfl), ?_⟩⟩⟩
    have e2 : IntKind.i64.wrap (((at_ + n : Nat) : Int) - (n : Int)) = (at_ : Int) := by rw [wrap_id (by omega) (by omega)]; omega
    have hlc := r.lc
    refine (r.ro.mod k.ext).bcut hlen (lo := at_) (hi := at_ + n) (mx := c) e2 rfl rfl (by omega) (by omega) (by omega) (by omega) fun a' r2 hl2 => ?_
    have e3 : (bs.take (at_ + n)).drop at_ = (bs.drop at_).take n := by rw [List.drop_take]; congr 1; omega
    rw [e3] at r2 hl2
    refine bytes_text und30 (by kernel_rfl) und9 r2.sl hl2 ⟨_, rfl, (bs.drop at_).take n, at_ + n, 0, rfl, by omega, .inr (.inl ⟨rfl, n, ?_, rfl, rfl⟩), fun h => absurd rfl h, k⟩
    unfold takeB
    rw [if_neg (by omega)]
end Go.Proofs.YtofaihacmoacjaaDoor.F
